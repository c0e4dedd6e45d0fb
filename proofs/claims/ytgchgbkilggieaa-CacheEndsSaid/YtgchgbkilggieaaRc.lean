/- Messages as plain values: where they are found, their marks, New. By the prover of this seat. -/
import Derived.Test.YtgchgbkilggieaaRb
set_option linter.unusedVariables false
set_option linter.unusedSimpArgs false
set_option maxRecDepth 100000
set_option maxHeartbeats 4000000
namespace Go.Proofs.Ytgchgbkilggieaa
open Go.RowKit Go.Pm
def eS (s : ByteArray) : List AV := [st s]
def slS (l : List ByteArray) : AV := slE eS l
def eJ (n : Int) : List AV := [i64 n]
def slJ (l : List Int) : AV := slE eJ l
instance : Inhabited ByteArray := ⟨⟨#[]⟩⟩
abbrev byteAt (s : ByteArray) (k : Nat) : Int := ((s.data.toList.getD (k : Int).toNat 0).toNat : Int)
theorem size_len (s : ByteArray) : s.data.toList.length = s.size := by rw [Array.length_toList]; rfl
theorem byte_get (s : ByteArray) (k : Nat) (hk : k < s.size) : byteAt s k = ((s[k]!).toNat : Int) := by
  have h1 : s[k]! = s[k] := getElem!_pos s k hk
  rw [h1]
  unfold byteAt
  rw [Int.toNat_natCast, List.getD_eq_getElem?_getD, List.getElem?_eq_getElem (by rw [size_len]; exact hk)]
  rfl
theorem byte_lt (s : ByteArray) (k : Nat) : 0 ≤ byteAt s k ∧ byteAt s k ≤ 255 := by
  unfold byteAt
  have := (s.data.toList.getD (k : Int).toNat 0).toNat_lt
  omega
/-! where a message is -/
def eqD (s x : ByteArray) : Bool := decide (x = s)
def atD (l : List ByteArray) (s : ByteArray) : Int := match idxD (eqD s) l with
  | some k => (k : Int)
  | none => -1
noncomputable def rfB : Code := loopOf Try.prog 25 2
def rfS (l : List ByteArray) (s : ByteArray) (k : Nat) : St := ⟨mkT 19 [(0, slS l), (1, st s), (5, i64 k)], []⟩
def rfH (l : List ByteArray) (s : ByteArray) (k : Nat) : St := ⟨mkT 19 [(4, i64 k)], []⟩
theorem rf_step (l : List ByteArray) (s : ByteArray) (k : Nat) (hk : k < l.length) (hl : l.length ≤ 1000000)  (hp : ¬ eqD s (nth l k) = true) : Tri C0 rfB (rfS l s k) .normal (rfS l s (k + 1)) := by
  simp only [eqD, decide_eq_true_eq] at hp
  exact runF_ok (hs := hint [((2,3), {val := some (bl (true))}), ((4,2), {cells := some (eS (nth l k) ++ List.flatMap eS (List.drop (k + (1 : Nat)) l)), sym := true}), ((4,5), {val := some (bl (false))}), ((3,1), {val := some (i64 ((↑k : Int) + (1 : Int)))})]) (f := { ks := [0, 1, 5] }) (ps := [bl (decide ((↑k : Int) < (↑l.length : Int))) = bl (true), decide ((0 : Int) ≤ (↑k : Int) ∧ (↑k : Int) < (↑l.length : Int)) = true, ((List.drop ((↑k : Int).toNat * (1 : Nat)) (List.flatMap eS l)) : List AV) = (eS (nth l k) ++ List.flatMap eS (List.drop (k + (1 : Nat)) l)), bl ((nth l k).toList == s.toList) = bl (false), i64 (IntKind.i64.wrap ((↑k : Int) + (1 : Int))) = i64 ((↑k : Int) + (1 : Int)), true = true]) (by kernel_rfl) ⟨(bdT (by omega)), (by exact decide_t (by omega)), (by exact flat_nth (sz := 1) (k := k) (fun _ => rfl) (by omega)), (bsF (by assumption)), (intE (by exact wrap_i64 (by omega) (by omega))), rfl, trivial⟩
theorem rf_hit (l : List ByteArray) (s : ByteArray) (k : Nat) (hk : k < l.length) (hl : l.length ≤ 1000000)  (hp : eqD s (nth l k) = true) : LoopT C0 rfB (rfS l s k) .ret (rfH l s k) := by
  simp only [eqD, decide_eq_true_eq] at hp
  exact LoopT.fin (hs := hint [((2,3), {val := some (bl (true))}), ((4,2), {cells := some (eS (nth l k) ++ List.flatMap eS (List.drop (k + (1 : Nat)) l)), sym := true}), ((4,5), {val := some (bl (true))})]) (f := { ks := [4] }) (ps := [bl (decide ((↑k : Int) < (↑l.length : Int))) = bl (true), decide ((0 : Int) ≤ (↑k : Int) ∧ (↑k : Int) < (↑l.length : Int)) = true, ((List.drop ((↑k : Int).toNat * (1 : Nat)) (List.flatMap eS l)) : List AV) = (eS (nth l k) ++ List.flatMap eS (List.drop (k + (1 : Nat)) l)), bl ((nth l k).toList == s.toList) = bl (true), true = true]) (by kernel_rfl) ⟨(bdT (by omega)), (by exact decide_t (by omega)), (by exact flat_nth (sz := 1) (k := k) (fun _ => rfl) (by omega)), (bsT (by assumption)), rfl, trivial⟩ (by decide)
theorem rf_end (l : List ByteArray) (s : ByteArray)  : LoopT C0 rfB (rfS l s l.length) (.exit 0) (rfS l s l.length) := by
  exact LoopT.fin (hs := hint [((2,3), {val := some (bl (false))})]) (f := { ks := [0, 1, 5] }) (ps := [bl (decide ((↑l.length : Int) < (↑l.length : Int))) = bl (false), true = true]) (by kernel_rfl) ⟨(bdF (by omega)), rfl, trivial⟩ (by decide)
theorem rfind_ok (l : List ByteArray) (s : ByteArray) (hl : l.length ≤ 1000000) : Pu 25 [slS l, st s] (i64 (atD l s)) := by
  unfold atD
  cases h : idxD (eqD s) l with
  | some m =>
    obtain ⟨h1, h2, h3⟩ := idx_some h
    have L := LoopT.count (rfS l s) m (fun k hk => rf_step l s k (by omega) hl (h3 k hk)) (rf_hit l s m h1 hl h2) 0 (by omega)
    exact pure_of (hs := hint [((2,1000), {loop := some ({ ks := [0, 1, 5] }, rfS l s (0 : Nat), Ex.ret, rfH l s m)})]) (ps := [rfS l s (0 : Nat) = rfS l s (0 : Nat), _, true = true]) (by kernel_rfl) ⟨rfl, L, rfl, trivial⟩
  | none =>
    have L := LoopT.count (rfS l s) l.length (fun k hk => rf_step l s k hk hl (idx_none h k hk)) (rf_end l s) 0 (by omega)
    exact pure_of (hs := hint [((2,1000), {loop := some ({ ks := [0, 1, 5] }, rfS l s (0 : Nat), Ex.exit (0 : Nat), rfS l s l.length)})]) (ps := [rfS l s (0 : Nat) = rfS l s (0 : Nat), _, true = true]) (by kernel_rfl) ⟨rfl, L, rfl, trivial⟩
noncomputable def ixB : Code := loopOf Try.prog 21 2
def ixS (l : List ByteArray) (s : ByteArray) (k : Nat) : St := ⟨mkT 19 [(0, slS l), (1, st s), (7, i64 l.length), (8, i64 k)], []⟩
def ixH (l : List ByteArray) (s : ByteArray) (k : Nat) : St := ⟨mkT 19 [(4, i64 k)], []⟩
theorem ix_step (l : List ByteArray) (s : ByteArray) (k : Nat) (hk : k < l.length) (hl : l.length ≤ 1000000)  (hp : ¬ eqD s (nth l k) = true) : Tri C0 ixB (ixS l s k) .normal (ixS l s (k + 1)) := by
  simp only [eqD, decide_eq_true_eq] at hp
  by_cases h1 : s = nth l k
  · exact False.elim (by (simp_all; done))
  · exact runF_ok (hs := hint [((2,0), {val := some (bl (true))}), ((4,3), {cells := some (eS (nth l k) ++ List.flatMap eS (List.drop (k + (1 : Nat)) l)), sym := true}), ((4,5), {val := some (bl (false))}), ((6,0), {val := some (i64 ((↑k : Int) + (1 : Int)))})]) (f := { ks := [0, 1, 7, 8] }) (ps := [bl (decide ((↑k : Int) < (↑l.length : Int))) = bl (true), decide ((0 : Int) ≤ (↑k : Int) ∧ (↑k : Int) < (↑l.length : Int)) = true, ((List.drop ((↑k : Int).toNat * (1 : Nat)) (List.flatMap eS l)) : List AV) = (eS (nth l k) ++ List.flatMap eS (List.drop (k + (1 : Nat)) l)), bl (s.toList == (nth l k).toList) = bl (false), i64 (IntKind.i64.wrap ((↑k : Int) + (1 : Int))) = i64 ((↑k : Int) + (1 : Int)), true = true]) (by kernel_rfl) ⟨(bdT (by omega)), (by exact decide_t (by omega)), (by exact flat_nth (sz := 1) (k := k) (fun _ => rfl) (by omega)), (bsF h1), (intE (by exact wrap_i64 (by omega) (by omega))), rfl, trivial⟩
theorem ix_hit (l : List ByteArray) (s : ByteArray) (k : Nat) (hk : k < l.length) (hl : l.length ≤ 1000000)  (hp : eqD s (nth l k) = true) : LoopT C0 ixB (ixS l s k) .ret (ixH l s k) := by
  simp only [eqD, decide_eq_true_eq] at hp
  exact LoopT.fin (hs := hint [((2,0), {val := some (bl (true))}), ((4,3), {cells := some (eS (nth l k) ++ List.flatMap eS (List.drop (k + (1 : Nat)) l)), sym := true}), ((4,5), {val := some (bl (true))})]) (f := { ks := [4] }) (ps := [bl (decide ((↑k : Int) < (↑l.length : Int))) = bl (true), decide ((0 : Int) ≤ (↑k : Int) ∧ (↑k : Int) < (↑l.length : Int)) = true, ((List.drop ((↑k : Int).toNat * (1 : Nat)) (List.flatMap eS l)) : List AV) = (eS (nth l k) ++ List.flatMap eS (List.drop (k + (1 : Nat)) l)), bl (s.toList == (nth l k).toList) = bl (true), true = true]) (by kernel_rfl) ⟨(bdT (by omega)), (by exact decide_t (by omega)), (by exact flat_nth (sz := 1) (k := k) (fun _ => rfl) (by omega)), (bsT (by (simp [*]; done))), rfl, trivial⟩ (by decide)
theorem ix_end (l : List ByteArray) (s : ByteArray)  : LoopT C0 ixB (ixS l s l.length) (.exit 0) (ixS l s l.length) := by
  exact LoopT.fin (hs := hint [((2,0), {val := some (bl (false))})]) (f := { ks := [0, 1, 7, 8] }) (ps := [bl (decide ((↑l.length : Int) < (↑l.length : Int))) = bl (false), true = true]) (by kernel_rfl) ⟨(bdF (by omega)), rfl, trivial⟩ (by decide)
theorem index_ok (l : List ByteArray) (s : ByteArray) (hl : l.length ≤ 1000000) : Pu 21 [slS l, st s] (i64 (atD l s)) := by
  unfold atD
  cases h : idxD (eqD s) l with
  | some m =>
    obtain ⟨h1, h2, h3⟩ := idx_some h
    have L := LoopT.count (ixS l s) m (fun k hk => ix_step l s k (by omega) hl (h3 k hk)) (ix_hit l s m h1 hl h2) 0 (by omega)
    exact pure_of (hs := hint [((2,1000), {loop := some ({ ks := [0, 1, 7, 8] }, ixS l s (0 : Nat), Ex.ret, ixH l s m)})]) (ps := [ixS l s (0 : Nat) = ixS l s (0 : Nat), _, true = true]) (by kernel_rfl) ⟨rfl, L, rfl, trivial⟩
  | none =>
    have L := LoopT.count (ixS l s) l.length (fun k hk => ix_step l s k hk hl (idx_none h k hk)) (ix_end l s) 0 (by omega)
    exact pure_of (hs := hint [((2,1000), {loop := some ({ ks := [0, 1, 7, 8] }, ixS l s (0 : Nat), Ex.exit (0 : Nat), ixS l s l.length)})]) (ps := [ixS l s (0 : Nat) = ixS l s (0 : Nat), _, true = true]) (by kernel_rfl) ⟨rfl, L, rfl, trivial⟩
/-! the reference's others -/
noncomputable def roB : Code := loopOf Try.prog 26 3
def roS (a b : ByteArray) (k m : Nat) (ks : List Int) : St := ⟨mkT 25 [(0, st a), (1, st b), (5, .osl 0 0 m 1), (6, i64 k)], [.arr (m * 1) (ks.flatMap eJ) 0]⟩
theorem ro_yes (a b : ByteArray) (k m : Nat) (ks : List Int) (hk : k < a.size) (hs : a.size = b.size) (hl : a.size ≤ 1000000) (hm : m = ks.length) (hm2 : m ≤ k) (hd : ¬ byteAt a k = byteAt b k) : Tri C0 roB (roS a b k m ks) .normal (roS a b (k + 1) (m + 1) (ks ++ [(k : Int)])) := by
  have e1 : (ks ++ [(k : Int)]).flatMap eJ = ks.flatMap eJ ++ eJ (k : Int) := row_snoc ks _
  exact runF_ok (hs := hint [((3,3), {val := some (bl (true))}), ((5,2), {sym := true}), ((5,5), {sym := true}), ((5,6), {val := some (bl (true))}), ((6,3), { sym := true, cells := some ((ks ++ [(k : Int)]).flatMap eJ) }), ((4,1), {val := some (i64 ((↑k : Int) + (1 : Int)))})]) (f := { ks := [0, 1, 5, 6], l := [2] }) (ps := [bl (decide ((↑k : Int) < (↑a.size : Int))) = bl (true), decide ((0 : Int) ≤ (↑k : Int) ∧ (↑k : Int) < (↑a.size : Int)) = true, decide ((0 : Int) ≤ (↑k : Int) ∧ (↑k : Int) < (↑b.size : Int)) = true, bl ((↑(a.data.toList.getD (↑k : Int).toNat (0 : UInt8)).toNat : Int) != (↑(b.data.toList.getD (↑k : Int).toNat (0 : UInt8)).toNat : Int)) = bl (true), decide (m * (1 : Nat) = m * (1 : Nat) ∧ (0 : Nat) ≤ m * (1 : Nat) ∧ m * (1 : Nat) = (List.flatMap eJ ks).length) = true, decide ((m + (1 : Nat)) * (8 : Nat) ≤ (140737488355328 : Nat)) = true, true = true, ((List.flatMap eJ ks ++ [AV.s (Value.int IntKind.i64 (↑k : Int))]) : List AV) = (List.flatMap eJ (ks ++ [(↑k : Int)])), i64 (IntKind.i64.wrap ((↑k : Int) + (1 : Int))) = i64 ((↑k : Int) + (1 : Int)), true = true, pureB (Bk.arr ((m + (1 : Nat)) * (1 : Nat)) (List.flatMap eJ (ks ++ [(↑k : Int)])) (0 : Nat)) = true]) (by kernel_rfl) ⟨(bdT (by omega)), (by exact decide_t (by omega)), (by exact decide_t (by omega)), (neF (by assumption)), (by (first | exact e1.symm | exact decide_t (by omega) | exact decide_t ⟨by omega, by omega, by rw [row_len (sz := 1) (fun _ => rfl)]; omega⟩ | exact decide_t (by rw [row_len (sz := 1) (fun _ => rfl)]; omega))), (by (first | exact e1.symm | exact decide_t (by omega) | exact decide_t ⟨by omega, by omega, by rw [row_len (sz := 1) (fun _ => rfl)]; omega⟩ | exact decide_t (by rw [row_len (sz := 1) (fun _ => rfl)]; omega))), rfl, (by (first | exact e1.symm | exact decide_t (by omega) | exact decide_t ⟨by omega, by omega, by rw [row_len (sz := 1) (fun _ => rfl)]; omega⟩ | exact decide_t (by rw [row_len (sz := 1) (fun _ => rfl)]; omega))), (intE (by exact wrap_i64 (by omega) (by omega))), rfl, (by exact row_pureB (fun _ => rfl) _ _ _), trivial⟩
theorem ro_no (a b : ByteArray) (k m : Nat) (ks : List Int) (hk : k < a.size) (hs : a.size = b.size) (hl : a.size ≤ 1000000) (hd : byteAt a k = byteAt b k) : Tri C0 roB (roS a b k m ks) .normal (roS a b (k + 1) m ks) := by
  exact runF_ok (hs := hint [((3,3), {val := some (bl (true))}), ((5,2), {sym := true}), ((5,5), {sym := true}), ((5,6), {val := some (bl (false))}), ((4,1), {val := some (i64 ((↑k : Int) + (1 : Int)))})]) (f := { ks := [0, 1, 5, 6], l := [0] }) (ps := [bl (decide ((↑k : Int) < (↑a.size : Int))) = bl (true), decide ((0 : Int) ≤ (↑k : Int) ∧ (↑k : Int) < (↑a.size : Int)) = true, decide ((0 : Int) ≤ (↑k : Int) ∧ (↑k : Int) < (↑b.size : Int)) = true, bl ((↑(a.data.toList.getD (↑k : Int).toNat (0 : UInt8)).toNat : Int) != (↑(b.data.toList.getD (↑k : Int).toNat (0 : UInt8)).toNat : Int)) = bl (false), i64 (IntKind.i64.wrap ((↑k : Int) + (1 : Int))) = i64 ((↑k : Int) + (1 : Int)), true = true, pureB (Bk.arr (m * (1 : Nat)) (List.flatMap eJ ks) (0 : Nat)) = true]) (by kernel_rfl) ⟨(bdT (by omega)), (by exact decide_t (by omega)), (by exact decide_t (by omega)), (neT (by assumption)), (intE (by exact wrap_i64 (by omega) (by omega))), rfl, (by exact row_pureB (fun _ => rfl) _ _ _), trivial⟩
theorem ro_end (a b : ByteArray) (m : Nat) (ks : List Int) : LoopT C0 roB (roS a b a.size m ks) (.exit 0) (roS a b a.size m ks) := by
  exact LoopT.fin (hs := hint [((3,3), {val := some (bl (false))})]) (f := { ks := [0, 1, 5, 6], l := [0] }) (ps := [bl (decide ((↑a.size : Int) < (↑a.size : Int))) = bl (false), true = true, pureB (Bk.arr (m * (1 : Nat)) (List.flatMap eJ ks) (0 : Nat)) = true]) (by kernel_rfl) ⟨(bdF (by omega)), rfl, (by exact row_pureB (fun _ => rfl) _ _ _), trivial⟩ (by decide)
def oneI (p : Nat → Bool) (i : Nat) : List Int := if p i = true then [(i : Int)] else []
def difI (a b : ByteArray) : List Int := (difL a b).map fun (i : Nat) => (i : Int)
theorem difI_flat (a b : ByteArray) : (List.range a.size).flatMap (oneI (difB a b)) = difI a b := by
  unfold difI difL
  induction List.range a.size with
  | nil => rfl
  | cons x l ih =>
    rw [List.flatMap_cons, List.filter_cons, ih]
    unfold oneI
    split <;> rfl
theorem difB_byte (a b : ByteArray) (hs : a.size = b.size) (k : Nat) (hk : k < a.size) : difB a b k = true ↔ ¬ byteAt a k = byteAt b k := by
  rw [byte_get a k hk, byte_get b k (by omega)]
  unfold difB
  rw [decide_eq_true_eq]
  omega
theorem nth_range (n k : Nat) (h : k < n) : nth (List.range n) k = k := by rw [nth_eq (by rw [List.length_range]; exact h), List.getElem_range]
theorem difI_len (a b : ByteArray) : (difI a b).length ≤ a.size := by
  unfold difI difL
  rw [List.length_map]
  exact Nat.le_trans (List.length_filter_le _ _) (by rw [List.length_range]; exact Nat.le_refl _)
theorem rothers_ok (a b : ByteArray) (hs : a.size = b.size) (hl : a.size ≤ 1000000) : Pu 26 [st a, st b] (slJ (difI a b)) := by
  have L := LoopT.gather (roS a b) (oneI (difB a b)) (List.range a.size) (fun x => by unfold oneI; split <;> simp) (fun k m ks hk hm hm2 => by
    rw [List.length_range] at hk
    rw [nth_range _ k hk]
    have hd := difB_byte a b hs k hk
    unfold oneI
    by_cases h : difB a b k = true
    · rw [if_pos h]
      exact ro_yes a b k m ks hk hs hl hm hm2 (hd.1 h)
    · rw [if_neg h, List.append_nil]
      exact ro_no a b k m ks hk hs hl (Decidable.not_not.1 fun q => h (hd.2 q))) (by rw [List.length_range]; exact ro_end a b _ _)
  rw [difI_flat] at L
  have hlen := difI_len a b
  generalize difI a b = ks at L hlen ⊢
  unfold roS at L
  rw [List.flatMap_nil] at L
  exact pure_cast (pure_said (hs := hint [((3,1000), {loop := some ({ ks := [0, 1, 6], gh := [(5, 1)] }, { t := mkT (25 : Nat) [((0 : Nat), st a), ((1 : Nat), st b), ((5 : Nat), AV.osl (0 : Nat) (0 : Nat) (0 : Nat) (1 : Nat)), ((6 : Nat), i64 (↑(0 : Nat) : Int))], h := [Bk.arr ((0 : Nat) * (1 : Nat)) [] (0 : Nat)] : St }, Ex.exit (0 : Nat), { t := mkT (25 : Nat) [((0 : Nat), st a), ((1 : Nat), st b), ((5 : Nat), AV.osl (0 : Nat) (0 : Nat) ks.length (1 : Nat)), ((6 : Nat), i64 (↑a.size : Int))], h := [Bk.arr (ks.length * (1 : Nat)) (List.flatMap eJ ks) (0 : Nat)] : St })})]) (r := AV.sl (ks.length) (List.take (ks.length * (1 : Nat)) (List.drop (0 : Nat) (List.flatMap eJ ks)))) (ps := [{ t := mkT (25 : Nat) [((0 : Nat), st a), ((1 : Nat), st b), ((5 : Nat), AV.osl (0 : Nat) (0 : Nat) (0 : Nat) (1 : Nat)), ((6 : Nat), i64 (↑(0 : Nat) : Int))], h := [Bk.arr ((0 : Nat) * (1 : Nat)) [] (0 : Nat)] : St } = { t := mkT (25 : Nat) [((0 : Nat), st a), ((1 : Nat), st b), ((5 : Nat), AV.osl (0 : Nat) (0 : Nat) (0 : Nat) (1 : Nat)), ((6 : Nat), i64 (↑(0 : Nat) : Int))], h := [Bk.arr ((0 : Nat) * (1 : Nat)) [] (0 : Nat)] : St }, _, true = true, ([(0 : Nat)].all fun (i : Nat) => (Option.map pureB [Bk.arr (ks.length * (1 : Nat)) (List.flatMap eJ ks) (0 : Nat)][i]?).getD false) = true, true = true]) (by kernel_rfl) ⟨rfl, L, rfl, (by exact row_ids (fun _ => rfl) _ _ _ _ _ rfl), rfl, trivial⟩) (by exact row_sl (sz := 1) (fun _ => rfl) _ _ _ (by omega) (by omega))
/-! Len, New -/
def cacheA (m : Int) (l : List ByteArray) : AV := A [i64 m, slS l]
theorem len_ok (m : Int) (l : List ByteArray) : Pu 17 [cacheA m l] (i64 l.length) := by
  exact pure_of (hs := hint []) (ps := []) (by kernel_rfl) trivial
def newD (k : Int) : Int × Int := if k < 1 ∨ 64 < k then (0, 1) else (k, 0)
theorem new_ok (k : Int) : Pu 19 [i64 k] (.tup [cacheA (newD k).1 [], i64 (newD k).2]) := by
  unfold newD
  by_cases h1 : k < 1
  · rw [if_pos (.inl h1)]
    exact pure_of (hs := hint [((1,2), {val := some (bl (true))})]) (ps := [bl (decide (k < (1 : Int))) = bl (true)]) (by kernel_rfl) ⟨(bdT (by assumption)), trivial⟩
  · by_cases h2 : k > 64
    · rw [if_pos (.inr h2)]
      exact pure_of (hs := hint [((1,2), {val := some (bl (false))}), ((1,5), {val := some (bl (true))})]) (ps := [bl (decide (k < (1 : Int))) = bl (false), bl (decide (k > (64 : Int))) = bl (true)]) (by kernel_rfl) ⟨(bdF (by assumption)), (bdT (by assumption)), trivial⟩
    · rw [if_neg (by omega)]
      exact pure_of (hs := hint [((1,2), {val := some (bl (false))}), ((1,5), {val := some (bl (false))})]) (ps := [bl (decide (k < (1 : Int))) = bl (false), bl (decide (k > (64 : Int))) = bl (false)]) (by kernel_rfl) ⟨(bdF (by assumption)), (bdF (by assumption)), trivial⟩
theorem begun_ok (k n : Int) (k0 : 0 ≤ k) (k1 : k ≤ 255) (hn : k % 8 + 1 = n) (n1 : 1 ≤ n) (n8 : n ≤ 8) : Pu 11 [u8 k] (.tup [cacheA n [], cacheA n []]) := by
  have h := new_ok n
  unfold newD at h
  rw [if_neg (by omega)] at h
  exact pure_of (hs := hint [((1,1), {val := some (i64 (k))}), ((1,2), {val := some (i64 (k % (8 : Int)))}), ((1,3), { val := some (i64 n) }), ((2,1), {call := some (AV.tup [(cacheA n []), (i64 (0 : Int))])})]) (ps := [i64 (IntKind.i64.wrap k) = i64 (k), i64 (k.tmod (8 : Int)) = i64 (k % (8 : Int)), i64 (IntKind.i64.wrap (k % (8 : Int) + (1 : Int))) = i64 (n), _]) (by kernel_rfl) ⟨(intE (by exact wrap_i64 (by omega) (by omega))), (intE (Int.tmod_eq_emod_of_nonneg (by omega))), (by exact intE (by rw [wrap_i64 (by omega) (by omega)]; exact hn)), (h), trivial⟩
end Go.Proofs.Ytgchgbkilggieaa
