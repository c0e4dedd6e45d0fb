/- Sorting, whatever the order: rows of ids, insertion. By the prover of this seat. -/
import Derived.Test.YtdcoomeagbjhlaaUa
set_option linter.unusedVariables false
set_option linter.unusedSimpArgs false
set_option maxRecDepth 100000
set_option maxHeartbeats 4000000
namespace Go.Proofs.Ytdcoomeagbjhlaa
open Go.RowKit Go.Pm
theorem row_cut1 (l : List Int) (k : Nat) (hk : k < l.length) : (l.take k).flatMap eU = (l.flatMap eU).take k ∧ (l.drop k).flatMap eU = (l.flatMap eU).drop k := by
  constructor
  · conv => rhs; rw [← List.take_append_drop k l, List.flatMap_append]
    rw [List.take_left' (by rw [row_len (sz := 1) (fun _ => rfl), List.length_take]; omega)]
  · conv => rhs; rw [← List.take_append_drop k l, List.flatMap_append]
    rw [List.drop_left' (by rw [row_len (sz := 1) (fun _ => rfl), List.length_take]; omega)]
theorem ld_u (l : List Int) (k x : Nat) (hx : x = k) (hk : k < l.length) : List.take 1 (List.drop x (l.flatMap eU)) = [u32 (nth l k)] := by
  subst hx
  rw [← (row_cut1 l x hk).2, List.drop_eq_getElem_cons hk, List.flatMap_cons, nth_eq hk]; rfl
theorem st_u (l : List Int) (k x : Nat) (v : Int) (hx : x = k) (hk : k < l.length) : splice (l.flatMap eU) x [u32 v] = (List.set l k v).flatMap eU := by
  subst hx
  have h2 : (l.drop (x + 1)).flatMap eU = (l.flatMap eU).drop (x + 1) := by
    conv => rhs; rw [← List.take_append_drop (x + 1) l, List.flatMap_append]
    rw [List.drop_left' (by rw [row_len (sz := 1) (fun _ => rfl), List.length_take]; omega)]
  rw [List.set_eq_take_append_cons_drop, if_pos hk, List.flatMap_append, List.flatMap_cons, (row_cut1 l x hk).1, h2]
  unfold splice
  rw [List.append_assoc]; rfl
def swp (l : List Int) (i j : Nat) : List Int := List.set (List.set l i (nth l j)) j (nth l i)
theorem swp_len (l : List Int) (i j : Nat) : (swp l i j).length = l.length := by simp [swp]
theorem nan_ok (x : Int) : Pu 95 [u32 x] (bl false) := by
  exact pure_cast (pure_of (hs := hint []) (r := bl (x != x)) (ps := []) (by kernel_rfl) trivial) (by (simp; done))
theorem less_ok (x y : Int) : Pu 84 [u32 x, u32 y] (bl (decide (x < y))) := by
  have a := nan_ok x
  have b := nan_ok y
  by_cases h : x < y
  · rw [decide_eq_true h]
    exact pure_cast (pure_of (hs := hint [((1,1), {call := some ((bl false))})]) (r := bl (decide (x < y))) (ps := [_]) (by kernel_rfl) ⟨(a), trivial⟩) (by (simp; omega))
  · rw [decide_eq_false h]
    exact pure_cast (pure_of (hs := hint [((1,1), {call := some ((bl false))})]) (r := bl (decide (x < y))) (ps := [_]) (by kernel_rfl) ⟨(a), trivial⟩) (by (simp; omega))
noncomputable def K1 : Cx := ⟨Try.prog, G0, 1⟩
/-- some loop's end, whatever it comes to -/
def Ends (C : Cx) (c : Code) (st : St) (e : Ex) (out : List Int → St) (n : Nat) : Prop := ∃ l' : List Int, l'.length = n ∧ LoopT C c st e (out l')
noncomputable def inB : Code := loopOf Try.prog 78 4
noncomputable def inOB : Code := loopOf Try.prog 78 1
def inS (n : Nat) (l : List Int) (a b i j : Nat) : St := ⟨mkT 49 [(0, .osl 0 0 n 1), (1, i64 a), (2, i64 b), (6, i64 i), (7, i64 j)], [.arr n (l.flatMap eU) 0]⟩
def inO (n : Nat) (l : List Int) (a b i : Nat) : St := ⟨mkT 49 [(0, .osl 0 0 n 1), (1, i64 a), (2, i64 b), (6, i64 i)], [.arr n (l.flatMap eU) 0]⟩
theorem in_swap (n : Nat) (l : List Int) (a b i k : Nat) (hl : l.length = n) (hn : n ≤ 1000) (h1 : a < k + 1) (h2 : k + 1 < n) (h : nth l (k + 1) < nth l k) : Tri K1 inB (inS n l a b i ((k + 1 : Nat))) .normal (inS n (swp l (k + 1) k) a b i k) := by
  have q := less_ok (nth l (k + 1)) (nth l k)
  rw [decide_eq_true h] at q
  have nn : (List.set (l) (k + 1) (nth (l) (k))).length = n := by rw [List.length_set]; exact hl
  exact runF_ok (hs := hint [((4,3), {val := some (bl (true))}), ((4,6), {sym := true}), ((4,7), { sym := true, cells := some [u32 (nth (l) (k + 1))] }), ((4,10), {val := some (i64 ((↑(k + (1 : Nat)) : Int) - (1 : Int)))}), ((4,11), {sym := true}), ((4,12), { sym := true, cells := some [u32 (nth (l) (k))] }), ((4,13), {call := some ((bl true))}), ((6,4), {val := some (i64 ((↑(k + (1 : Nat)) : Int) - (1 : Int)))}), ((6,7), {val := some (i64 ((↑(k + (1 : Nat)) : Int) - (1 : Int)))}), ((6,8), {sym := true}), ((6,9), { sym := true, cells := some [u32 (nth (l) (k))] }), ((6,12), {sym := true}), ((6,13), { sym := true, cells := some [u32 (nth (l) (k + 1))] }), ((6,14), {sym := true}), ((6,15), { sym := true, cells := some ((List.set (l) (k + 1) (nth (l) (k))).flatMap eU) }), ((6,16), {sym := true}), ((6,17), { sym := true, cells := some ((List.set (List.set (l) (k + 1) (nth (l) (k))) (k) (nth (l) (k + 1))).flatMap eU) }), ((5,1), {val := some (i64 ((↑(k + (1 : Nat)) : Int) - (1 : Int)))}), ((5,2), {val := some (i64 ((↑k : Int)))})]) (f := { ks := [0, 1, 2, 6, 7], l := [0] }) (ps := [bl (decide ((↑(k + (1 : Nat)) : Int) > (↑a : Int))) = bl (true), decide ((0 : Int) ≤ (↑(k + (1 : Nat)) : Int) ∧ (↑(k + (1 : Nat)) : Int) < (↑n : Int)) = true, ((List.take (1 : Nat) (List.drop ((0 : Nat) + (↑(k + (1 : Nat)) : Int).toNat * (1 : Nat)) (List.flatMap eU l))) : List AV) = [u32 (nth l (k + (1 : Nat)))], i64 (IntKind.i64.wrap ((↑(k + (1 : Nat)) : Int) - (1 : Int))) = i64 ((↑(k + (1 : Nat)) : Int) - (1 : Int)), decide ((0 : Int) ≤ (↑(k + (1 : Nat)) : Int) - (1 : Int) ∧ (↑(k + (1 : Nat)) : Int) - (1 : Int) < (↑n : Int)) = true, ((List.take (1 : Nat) (List.drop ((0 : Nat) + ((↑(k + (1 : Nat)) : Int) - (1 : Int)).toNat * (1 : Nat)) (List.flatMap eU l))) : List AV) = [u32 (nth l k)], _, i64 (IntKind.i64.wrap ((↑(k + (1 : Nat)) : Int) - (1 : Int))) = i64 ((↑(k + (1 : Nat)) : Int) - (1 : Int)), i64 (IntKind.i64.wrap ((↑(k + (1 : Nat)) : Int) - (1 : Int))) = i64 ((↑(k + (1 : Nat)) : Int) - (1 : Int)), decide ((0 : Int) ≤ (↑(k + (1 : Nat)) : Int) - (1 : Int) ∧ (↑(k + (1 : Nat)) : Int) - (1 : Int) < (↑n : Int)) = true, ((List.take (1 : Nat) (List.drop ((0 : Nat) + ((↑(k + (1 : Nat)) : Int) - (1 : Int)).toNat * (1 : Nat)) (List.flatMap eU l))) : List AV) = [u32 (nth l k)], decide ((0 : Int) ≤ (↑(k + (1 : Nat)) : Int) ∧ (↑(k + (1 : Nat)) : Int) < (↑n : Int)) = true, ((List.take (1 : Nat) (List.drop ((0 : Nat) + (↑(k + (1 : Nat)) : Int).toNat * (1 : Nat)) (List.flatMap eU l))) : List AV) = [u32 (nth l (k + (1 : Nat)))], decide ((0 : Int) ≤ (↑(k + (1 : Nat)) : Int) ∧ (↑(k + (1 : Nat)) : Int) < (↑n : Int)) = true, decide ((0 : Nat) + (↑(k + (1 : Nat)) : Int).toNat * (1 : Nat) + (1 : Nat) ≤ n) = true, decide ((0 : Nat) ≤ (0 : Nat) + (↑(k + (1 : Nat)) : Int).toNat * (1 : Nat)) = true, ((splice (List.flatMap eU l) ((0 : Nat) + (↑(k + (1 : Nat)) : Int).toNat * (1 : Nat)) [AV.s (Value.int IntKind.u32 (nth l k))]) : List AV) = (List.flatMap eU (l.set (k + (1 : Nat)) (nth l k))), decide ((0 : Int) ≤ (↑(k + (1 : Nat)) : Int) - (1 : Int) ∧ (↑(k + (1 : Nat)) : Int) - (1 : Int) < (↑n : Int)) = true, decide ((0 : Nat) + ((↑(k + (1 : Nat)) : Int) - (1 : Int)).toNat * (1 : Nat) + (1 : Nat) ≤ n) = true, decide ((0 : Nat) ≤ (0 : Nat) + ((↑(k + (1 : Nat)) : Int) - (1 : Int)).toNat * (1 : Nat)) = true, ((splice (List.flatMap eU (l.set (k + (1 : Nat)) (nth l k))) ((0 : Nat) + ((↑(k + (1 : Nat)) : Int) - (1 : Int)).toNat * (1 : Nat)) [AV.s (Value.int IntKind.u32 (nth l (k + (1 : Nat))))]) : List AV) = (List.flatMap eU ((l.set (k + (1 : Nat)) (nth l k)).set k (nth l (k + (1 : Nat))))), i64 (IntKind.i64.wrap ((↑(k + (1 : Nat)) : Int) - (1 : Int))) = i64 ((↑(k + (1 : Nat)) : Int) - (1 : Int)), i64 ((↑(k + (1 : Nat)) : Int) - (1 : Int)) = i64 ((↑k : Int)), true = true, pureB (Bk.arr n (List.flatMap eU ((l.set (k + (1 : Nat)) (nth l k)).set k (nth l (k + (1 : Nat))))) (0 : Fz)) = true]) (by kernel_rfl) ⟨(bdT (by omega)), (by exact decide_t (by omega)), (by (first | exact ld_u (l) (k + 1) _ (by omega) (by omega) | exact decide_t (by omega) | omega)), (intE (by exact wrap_i64 (by omega) (by omega))), (by exact decide_t (by omega)), (by (first | exact ld_u (l) (k) _ (by omega) (by omega) | exact decide_t (by omega) | omega)), (q), (intE (by exact wrap_i64 (by omega) (by omega))), (intE (by exact wrap_i64 (by omega) (by omega))), (by exact decide_t (by omega)), (by (first | exact ld_u (l) (k) _ (by omega) (by omega) | exact decide_t (by omega) | omega)), (by exact decide_t (by omega)), (by (first | exact ld_u (l) (k + 1) _ (by omega) (by omega) | exact decide_t (by omega) | omega)), (by exact decide_t (by omega)), (by (first | exact st_u (l) (k + 1) _ (nth (l) (k)) (by omega) (by omega) | exact decide_t (by omega) | omega)), (by (first | exact st_u (l) (k + 1) _ (nth (l) (k)) (by omega) (by omega) | exact decide_t (by omega) | omega)), (by (first | exact st_u (l) (k + 1) _ (nth (l) (k)) (by omega) (by omega) | exact decide_t (by omega) | omega)), (by exact decide_t (by omega)), (by (first | exact st_u (List.set (l) (k + 1) (nth (l) (k))) (k) _ (nth (l) (k + 1)) (by omega) (by omega) | exact decide_t (by omega) | omega)), (by (first | exact st_u (List.set (l) (k + 1) (nth (l) (k))) (k) _ (nth (l) (k + 1)) (by omega) (by omega) | exact decide_t (by omega) | omega)), (by (first | exact st_u (List.set (l) (k + 1) (nth (l) (k))) (k) _ (nth (l) (k + 1)) (by omega) (by omega) | exact decide_t (by omega) | omega)), (intE (by exact wrap_i64 (by omega) (by omega))), (by (simp; done)), rfl, (by exact row_pureB (fun _ => rfl) _ _ _), trivial⟩
theorem in_less (n : Nat) (l : List Int) (a b i k : Nat) (hl : l.length = n) (hn : n ≤ 1000) (h1 : a < k + 1) (h2 : k + 1 < n) (h : ¬ nth l (k + 1) < nth l k) : LoopT K1 inB (inS n l a b i ((k + 1 : Nat))) (.exit 2) (inO n l a b i) := by
  have q := less_ok (nth l (k + 1)) (nth l k)
  rw [decide_eq_false h] at q
  exact LoopT.fin (hs := hint [((4,3), {val := some (bl (true))}), ((4,6), {sym := true}), ((4,7), { sym := true, cells := some [u32 (nth (l) (k + 1))] }), ((4,10), {val := some (i64 ((↑(k + (1 : Nat)) : Int) - (1 : Int)))}), ((4,11), {sym := true}), ((4,12), { sym := true, cells := some [u32 (nth (l) (k))] }), ((4,13), {call := some ((bl false))})]) (f := { ks := [0, 1, 2, 6], l := [0] }) (ps := [bl (decide ((↑(k + (1 : Nat)) : Int) > (↑a : Int))) = bl (true), decide ((0 : Int) ≤ (↑(k + (1 : Nat)) : Int) ∧ (↑(k + (1 : Nat)) : Int) < (↑n : Int)) = true, ((List.take (1 : Nat) (List.drop ((0 : Nat) + (↑(k + (1 : Nat)) : Int).toNat * (1 : Nat)) (List.flatMap eU l))) : List AV) = [u32 (nth l (k + (1 : Nat)))], i64 (IntKind.i64.wrap ((↑(k + (1 : Nat)) : Int) - (1 : Int))) = i64 ((↑(k + (1 : Nat)) : Int) - (1 : Int)), decide ((0 : Int) ≤ (↑(k + (1 : Nat)) : Int) - (1 : Int) ∧ (↑(k + (1 : Nat)) : Int) - (1 : Int) < (↑n : Int)) = true, ((List.take (1 : Nat) (List.drop ((0 : Nat) + ((↑(k + (1 : Nat)) : Int) - (1 : Int)).toNat * (1 : Nat)) (List.flatMap eU l))) : List AV) = [u32 (nth l k)], _, true = true, pureB (Bk.arr n (List.flatMap eU l) (0 : Fz)) = true]) (by kernel_rfl) ⟨(bdT (by omega)), (by exact decide_t (by omega)), (by (first | exact ld_u (l) (k + 1) _ (by omega) (by omega) | exact decide_t (by omega) | omega)), (intE (by exact wrap_i64 (by omega) (by omega))), (by exact decide_t (by omega)), (by (first | exact ld_u (l) (k) _ (by omega) (by omega) | exact decide_t (by omega) | omega)), (q), rfl, (by exact row_pureB (fun _ => rfl) _ _ _), trivial⟩ (by decide)
theorem in_low (n : Nat) (l : List Int) (a b i : Nat) : LoopT K1 inB (inS n l a b i a) (.exit 2) (inO n l a b i) := by
  exact LoopT.fin (hs := hint [((4,3), {val := some (bl (false))})]) (f := { ks := [0, 1, 2, 6], l := [0] }) (ps := [bl (decide ((↑a : Int) > (↑a : Int))) = bl (false), true = true, pureB (Bk.arr n (List.flatMap eU l) (0 : Fz)) = true]) (by kernel_rfl) ⟨(bdF (by omega)), rfl, (by exact row_pureB (fun _ => rfl) _ _ _), trivial⟩ (by decide)
theorem in_all (n : Nat) (a b i : Nat) (hn : n ≤ 1000) : ∀ (j : Nat) (l : List Int), l.length = n → a ≤ j → j < n → Ends K1 inB (inS n l a b i j) (.exit 2) (fun l' => inO n l' a b i) n := by
  intro j
  induction j with
  | zero =>
    intro l hl h1 h2
    obtain rfl : a = 0 := by omega
    exact ⟨l, hl, in_low n l 0 b i⟩
  | succ k ih =>
    intro l hl h1 h2
    by_cases ha : a = k + 1
    · subst ha
      exact ⟨l, hl, in_low n l (k + 1) b i⟩
    · by_cases h : nth l (k + 1) < nth l k
      · obtain ⟨l', q1, q2⟩ := ih (swp l (k + 1) k) (by rw [swp_len]; exact hl) (by omega) (by omega)
        exact ⟨l', q1, LoopT.next (in_swap n l a b i k hl hn (by omega) h2 h) q2⟩
      · exact ⟨l, hl, in_less n l a b i k hl hn (by omega) h2 h⟩
theorem io_step (n : Nat) (l l' : List Int) (a b i : Nat) (hl : l.length = n) (hl' : l'.length = n) (hn : n ≤ 1000) (hi : i < b) (hb : b ≤ n) (L : LoopT K1 inB (inS n l a b i i) (.exit 2) (inO n l' a b i)) : Tri K1 inOB (inO n l a b i) .normal (inO n l' a b (i + 1 : Nat)) := by
  exact runF_ok (hs := hint [((1,2), {val := some (bl (true))}), ((4,1000), {loop := some ({ ks := [0, 1, 2, 6, 7], l := [0] }, inS n l a b i i, Ex.exit (2 : Nat), inO n l' a b i)}), ((2,1), {val := some (i64 ((↑i : Int) + (1 : Int)))})]) (f := { ks := [0, 1, 2, 6], l := [0] }) (ps := [bl (decide ((↑i : Int) < (↑b : Int))) = bl (true), inS n l a b i i = inS n l a b i i, _, true = true, pureB (Bk.arr n (List.flatMap eU l) (0 : Fz)) = true, i64 (IntKind.i64.wrap ((↑i : Int) + (1 : Int))) = i64 ((↑i : Int) + (1 : Int)), true = true, pureB (Bk.arr n (List.flatMap eU l') (0 : Fz)) = true]) (by kernel_rfl) ⟨(bdT (by omega)), rfl, L, rfl, (by exact row_pureB (fun _ => rfl) _ _ _), (intE (by exact wrap_i64 (by omega) (by omega))), rfl, (by exact row_pureB (fun _ => rfl) _ _ _), trivial⟩
theorem io_end (n : Nat) (l : List Int) (a b i : Nat) (hi : b ≤ i) : LoopT K1 inOB (inO n l a b i) (.exit 0) (inO n l a b i) := by
  exact LoopT.fin (hs := hint [((1,2), {val := some (bl (false))})]) (f := { ks := [0, 1, 2, 6], l := [0] }) (ps := [bl (decide ((↑i : Int) < (↑b : Int))) = bl (false), true = true, pureB (Bk.arr n (List.flatMap eU l) (0 : Fz)) = true]) (by kernel_rfl) ⟨(bdF (by omega)), rfl, (by exact row_pureB (fun _ => rfl) _ _ _), trivial⟩ (by decide)
theorem io_all (n : Nat) (a b : Nat) (hn : n ≤ 1000) (hb : b ≤ n) : ∀ (d i : Nat) (l : List Int), l.length = n → a ≤ i → b ≤ i + d → ∃ i', Ends K1 inOB (inO n l a b i) (.exit 0) (fun l' => inO n l' a b i') n := by
  intro d
  induction d with
  | zero => intro i l hl h1 h2; exact ⟨i, l, hl, io_end n l a b i h2⟩
  | succ d ih =>
    intro i l hl h1 h2
    by_cases hi : i < b
    · obtain ⟨l1, q1, q2⟩ := in_all n a b i hn i l hl h1 (by omega)
      obtain ⟨i', l2, q3, q4⟩ := ih (i + 1) l1 q1 (by omega) (by omega)
      exact ⟨i', l2, q3, LoopT.next (io_step n l l1 a b i hl q1 hn hi hb q2) q4⟩
    · exact ⟨i, l, hl, io_end n l a b i (by omega)⟩
def Srt (n : Nat) (f : FuncId) (xs : List AV) (l : List Int) (r : AV) (l' : List Int) : Prop := CallH Try.prog G0 f (.osl 0 0 n 1 :: xs) [.arr n (l.flatMap eU) 0] r [.arr n (l'.flatMap eU) 0]
theorem ins_go (n : Nat) (l l' : List Int) (a b i' : Nat) (hn : n ≤ 1000) (ha : a ≤ n) (hb : b ≤ n) (L : LoopT K1 inOB (inO n l a b (a + 1 : Nat)) (.exit 0) (inO n l' a b i')) : CallH Try.prog G0 78 [.osl 0 0 n 1, i64 a, i64 b] [.arr n (l.flatMap eU) 0] (.tup []) [.arr n (l'.flatMap eU) 0] := by
  exact (fnRun_ok (hs := hint [((0,1), {val := some (i64 ((↑a : Int) + (1 : Int)))}), ((1,1000), {loop := some ({ ks := [0, 1, 2, 6], l := [0] }, inO n l a b (a + (1 : Nat)), Ex.exit (0 : Nat), inO n l' a b i')})]) (ps := [i64 (IntKind.i64.wrap ((↑a : Int) + (1 : Int))) = i64 ((↑a : Int) + (1 : Int)), inO n l a b (a + (1 : Nat)) = inO n l a b (a + (1 : Nat)), _, true = true, pureB (Bk.arr n (List.flatMap eU l) (0 : Fz)) = true]) (by kernel_rfl) ⟨(intE (by exact wrap_i64 (by omega) (by omega))), rfl, L, rfl, (by exact row_pureB (fun _ => rfl) _ _ _), trivial⟩).1
theorem ins_ok (n : Nat) (l : List Int) (a b : Nat) (hl : l.length = n) (hn : n ≤ 1000) (ha : a ≤ n) (hb : b ≤ n) : ∃ l' : List Int, l'.length = n ∧ Srt n 78 [i64 a, i64 b] l (.tup []) l' := by
  obtain ⟨i', l', h1, h2⟩ := io_all n a b hn hb b (a + 1) l hl (by omega) (by omega)
  exact ⟨l', h1, ins_go n l l' a b i' hn ha hb h2⟩
end Go.Proofs.Ytdcoomeagbjhlaa
