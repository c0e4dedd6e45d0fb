/- Messages as plain values: where they are found, their marks, New. By the prover of this seat. -/
import Derived.Test.YtdcoomeagbjhlaaDoorBb
set_option linter.unusedVariables false
set_option linter.unusedSimpArgs false
set_option maxRecDepth 100000
set_option maxHeartbeats 4000000
namespace Go.Proofs.YtdcoomeagbjhlaaDoor.Ca
open Go.RowKit Go.Pm
open Go.Proofs.YtdcoomeagbjhlaaDoor.Or (G1 C1 Pu)
def eS (s : ByteArray) : List AV := [st s]
def slS (l : List ByteArray) : AV := slE eS l
def eJ (n : Int) : List AV := [i64 n]
def slJ (l : List Int) : AV := slE eJ l
instance : Inhabited ByteArray := ⟨⟨#[]⟩⟩
abbrev byteAt (s : ByteArray) (k : Nat) : Int := ((s.data.toList.getD (k : Int).toNat 0).toNat : Int)
theorem size_len (s : ByteArray) : s.data.toList.length = s.size := by rw [Array.length_toList]; rfl
theorem byte_get (s : ByteArray) (k : Nat) (hk : k < s.size) : byteAt s k = ((s[k]!).toNat : Int) := by
  have h1 : s[k]! = s[k] := getElem!_pos s k hk
  rw [h1]
  unfold byteAt
  rw [Int.toNat_natCast, List.getD_eq_getElem?_getD, List.getElem?_eq_getElem (by rw [size_len]; exact hk)]
  rfl
theorem byte_lt (s : ByteArray) (k : Nat) : 0 ≤ byteAt s k ∧ byteAt s k ≤ 255 := by
  unfold byteAt
  have := (s.data.toList.getD (k : Int).toNat 0).toNat_lt
  omega
/-! where a message is -/
def eqD (s x : ByteArray) : Bool := decide (x = s)
def atD (l : List ByteArray) (s : ByteArray) : Int := match idxD (eqD s) l with
  | some k => (k : Int)
  | none => -1
def rfS (l : List ByteArray) (s : ByteArray) (k : Nat) : St := ⟨mkT 19 [(0, slS l), (1, st s), (5, i64 k)], []⟩
def rfH (l : List ByteArray) (s : ByteArray) (k : Nat) : St := ⟨mkT 19 [(4, i64 k)], []⟩
noncomputable def ixB : Code := loopOf Tryd.prog 27 2
def ixS (l : List ByteArray) (s : ByteArray) (k : Nat) : St := ⟨mkT 19 [(0, slS l), (1, st s), (7, i64 l.length), (8, i64 k)], []⟩
def ixH (l : List ByteArray) (s : ByteArray) (k : Nat) : St := ⟨mkT 19 [(4, i64 k)], []⟩
theorem ix_step (l : List ByteArray) (s : ByteArray) (k : Nat) (hk : k < l.length) (hl : l.length ≤ 1000000)  (hp : ¬ eqD s (nth l k) = true) : Tri C1 ixB (ixS l s k) .normal (ixS l s (k + 1)) := by
  simp only [eqD, decide_eq_true_eq] at hp
  by_cases h1 : s = nth l k
  · exact False.elim (by (simp_all; done))
  · exact runF_ok (hs := hint [((2,0), {val := some (bl (true))}), ((4,3), {cells := some (eS (nth l k) ++ List.flatMap eS (List.drop (k + (1 : Nat)) l)), sym := true}), ((4,5), {val := some (bl (false))}), ((6,0), {val := some (i64 ((↑k : Int) + (1 : Int)))})]) (f := { ks := [0, 1, 7, 8] }) (ps := [bl (decide ((↑k : Int) < (↑l.length : Int))) = bl (true), decide ((0 : Int) ≤ (↑k : Int) ∧ (↑k : Int) < (↑l.length : Int)) = true, ((List.drop ((↑k : Int).toNat * (1 : Nat)) (List.flatMap eS l)) : List AV) = (eS (nth l k) ++ List.flatMap eS (List.drop (k + (1 : Nat)) l)), bl (s.toList == (nth l k).toList) = bl (false), i64 (IntKind.i64.wrap ((↑k : Int) + (1 : Int))) = i64 ((↑k : Int) + (1 : Int)), true = true]) (by kernel_rfl) ⟨(bdT (by omega)), (by exact decide_t (by omega)), (by exact flat_nth (sz := 1) (k := k) (fun _ => rfl) (by omega)), (bsF h1), (intE (by exact wrap_i64 (by omega) (by omega))), rfl, trivial⟩
theorem ix_hit (l : List ByteArray) (s : ByteArray) (k : Nat) (hk : k < l.length) (hl : l.length ≤ 1000000)  (hp : eqD s (nth l k) = true) : LoopT C1 ixB (ixS l s k) .ret (ixH l s k) := by
  simp only [eqD, decide_eq_true_eq] at hp
  exact LoopT.fin (hs := hint [((2,0), {val := some (bl (true))}), ((4,3), {cells := some (eS (nth l k) ++ List.flatMap eS (List.drop (k + (1 : Nat)) l)), sym := true}), ((4,5), {val := some (bl (true))})]) (f := { ks := [4] }) (ps := [bl (decide ((↑k : Int) < (↑l.length : Int))) = bl (true), decide ((0 : Int) ≤ (↑k : Int) ∧ (↑k : Int) < (↑l.length : Int)) = true, ((List.drop ((↑k : Int).toNat * (1 : Nat)) (List.flatMap eS l)) : List AV) = (eS (nth l k) ++ List.flatMap eS (List.drop (k + (1 : Nat)) l)), bl (s.toList == (nth l k).toList) = bl (true), true = true]) (by kernel_rfl) ⟨(bdT (by omega)), (by exact decide_t (by omega)), (by exact flat_nth (sz := 1) (k := k) (fun _ => rfl) (by omega)), (bsT (by (simp [*]; done))), rfl, trivial⟩ (by decide)
theorem ix_end (l : List ByteArray) (s : ByteArray)  : LoopT C1 ixB (ixS l s l.length) (.exit 0) (ixS l s l.length) := by
  exact LoopT.fin (hs := hint [((2,0), {val := some (bl (false))})]) (f := { ks := [0, 1, 7, 8] }) (ps := [bl (decide ((↑l.length : Int) < (↑l.length : Int))) = bl (false), true = true]) (by kernel_rfl) ⟨(bdF (by omega)), rfl, trivial⟩ (by decide)
theorem index_ok (l : List ByteArray) (s : ByteArray) (hl : l.length ≤ 1000000) : Pu 27 [slS l, st s] (i64 (atD l s)) := by
  unfold atD
  cases h : idxD (eqD s) l with
  | some m =>
    obtain ⟨h1, h2, h3⟩ := idx_some h
    have L := LoopT.count (ixS l s) m (fun k hk => ix_step l s k (by omega) hl (h3 k hk)) (ix_hit l s m h1 hl h2) 0 (by omega)
    exact pure_of (hs := hint [((2,1000), {loop := some ({ ks := [0, 1, 7, 8] }, ixS l s (0 : Nat), Ex.ret, ixH l s m)})]) (ps := [ixS l s (0 : Nat) = ixS l s (0 : Nat), _, true = true]) (by kernel_rfl) ⟨rfl, L, rfl, trivial⟩
  | none =>
    have L := LoopT.count (ixS l s) l.length (fun k hk => ix_step l s k hk hl (idx_none h k hk)) (ix_end l s) 0 (by omega)
    exact pure_of (hs := hint [((2,1000), {loop := some ({ ks := [0, 1, 7, 8] }, ixS l s (0 : Nat), Ex.exit (0 : Nat), ixS l s l.length)})]) (ps := [ixS l s (0 : Nat) = ixS l s (0 : Nat), _, true = true]) (by kernel_rfl) ⟨rfl, L, rfl, trivial⟩
/-! the reference's others -/
def roS (a b : ByteArray) (k m : Nat) (ks : List Int) : St := ⟨mkT 25 [(0, st a), (1, st b), (5, .osl 0 0 m 1), (6, i64 k)], [.arr (m * 1) (ks.flatMap eJ) 0]⟩
def oneI (p : Nat → Bool) (i : Nat) : List Int := if p i = true then [(i : Int)] else []
def difI (a b : ByteArray) : List Int := (difL a b).map fun (i : Nat) => (i : Int)
theorem difI_flat (a b : ByteArray) : (List.range a.size).flatMap (oneI (difB a b)) = difI a b := by
  unfold difI difL
  induction List.range a.size with
  | nil => rfl
  | cons x l ih =>
    rw [List.flatMap_cons, List.filter_cons, ih]
    unfold oneI
    split <;> rfl
theorem difB_byte (a b : ByteArray) (hs : a.size = b.size) (k : Nat) (hk : k < a.size) : difB a b k = true ↔ ¬ byteAt a k = byteAt b k := by
  rw [byte_get a k hk, byte_get b k (by omega)]
  unfold difB
  rw [decide_eq_true_eq]
  omega
theorem nth_range (n k : Nat) (h : k < n) : nth (List.range n) k = k := by rw [nth_eq (by rw [List.length_range]; exact h), List.getElem_range]
theorem difI_len (a b : ByteArray) : (difI a b).length ≤ a.size := by
  unfold difI difL
  rw [List.length_map]
  exact Nat.le_trans (List.length_filter_le _ _) (by rw [List.length_range]; exact Nat.le_refl _)
def cacheA (m : Int) (l : List ByteArray) : AV := A [i64 m, slS l]
theorem len_ok (m : Int) (l : List ByteArray) : Pu 14 [cacheA m l] (i64 l.length) := by
  exact pure_of (hs := hint []) (ps := []) (by kernel_rfl) trivial
def newD (k : Int) : Int × Int := if k < 1 ∨ 64 < k then (0, 1) else (k, 0)
theorem new_ok (k : Int) : Pu 4 [i64 k] (.tup [cacheA (newD k).1 [], i64 (newD k).2]) := by
  unfold newD
  by_cases h1 : k < 1
  · rw [if_pos (.inl h1)]
    exact pure_of (hs := hint [((1,2), {val := some (bl (true))})]) (ps := [bl (decide (k < (1 : Int))) = bl (true)]) (by kernel_rfl) ⟨(bdT (by assumption)), trivial⟩
  · by_cases h2 : k > 64
    · rw [if_pos (.inr h2)]
      exact pure_of (hs := hint [((1,2), {val := some (bl (false))}), ((1,5), {val := some (bl (true))})]) (ps := [bl (decide (k < (1 : Int))) = bl (false), bl (decide (k > (64 : Int))) = bl (true)]) (by kernel_rfl) ⟨(bdF (by assumption)), (bdT (by assumption)), trivial⟩
    · rw [if_neg (by omega)]
      exact pure_of (hs := hint [((1,2), {val := some (bl (false))}), ((1,5), {val := some (bl (false))})]) (ps := [bl (decide (k < (1 : Int))) = bl (false), bl (decide (k > (64 : Int))) = bl (false)]) (by kernel_rfl) ⟨(bdF (by assumption)), (bdF (by assumption)), trivial⟩
end Go.Proofs.YtdcoomeagbjhlaaDoor.Ca
