/- Rows of numbers: copied, numbers, right. By the prover of this seat. -/
import Derived.Test.YtdcoomeagbjhlaaRows
import Derived.Test.YtdcoomeagbjhlaaPmF
set_option linter.unusedVariables false
set_option linter.unusedSimpArgs false
set_option maxRecDepth 100000
set_option maxHeartbeats 4000000
namespace Go.Proofs.Ytdcoomeagbjhlaa
open Go.RowKit Go.Pm
def G0 : Nat → Option (List AV) := fun _ => none
noncomputable def C0 : Cx := ⟨Try.prog, G0, 0⟩
abbrev Pu (f : FuncId) (args : List AV) (r : AV) : Prop := Pure Try.prog G0 f args r []
theorem is_nth {l : List Int} {n : Nat} (h : n = l.length) : n = l.length := h
theorem splice_i (l : List Int) (cs : List AV) (n : Nat) (hc : cs.length = l.length) (hn : l.length ≤ n) : splice cs 0 ((l.flatMap eI).take n) = l.flatMap eI := by
  rw [is_take l n hn, splice, List.take_zero, List.nil_append, is_len, Nat.zero_add, List.drop_of_length_le (by omega), List.append_nil]
theorem sl_cut (l : List Int) (a b : Int) (h0 : 0 ≤ a) (h1 : a ≤ b) (h2 : b ≤ l.length) : AV.sl (b - a).toNat (pieceA 1 a b (l.flatMap eI)) = slI ((l.drop a.toNat).take (b - a).toNat) := by
  have e : ((l.drop a.toNat).take (b - a).toNat).length = (b - a).toNat := by rw [List.length_take, List.length_drop]; omega
  unfold slI pieceA
  rw [e, flat_piece (sz := 1) len_eI]
theorem sl_from (l : List Int) (a : Int) (h0 : 0 ≤ a) (h1 : a ≤ l.length) : AV.sl ((l.length : Int) - a).toNat (pieceA 1 a l.length (l.flatMap eI)) = slI (l.drop a.toNat) := by
  rw [sl_cut l a l.length h0 h1 (Int.le_refl _), List.take_of_length_le (by rw [List.length_drop]; omega)]
theorem and_beqI {x y : Int} {p : Prop} [Decidable p] (hp : p) : bl (x == y) = bl (decide p && decide (x = y)) := by
  rw [decide_eq_true hp, Bool.true_and]; exact beq_blI Iff.rfl
theorem and_F {p q : Prop} [Decidable p] [Decidable q] (hp : ¬ p) : bl false = bl (decide p && decide q) := by
  rw [decide_eq_false hp, Bool.false_and]
theorem replZ_len (n : Nat) (v : AV) : (replZ n [v]).length = n := by
  induction n with
  | zero => rfl
  | succ n ih => simp [replZ]
theorem copied_ok (l : List Int) (hl : l.length ≤ 1000000) : Pu 33 [slI l] (slI l) := by
  have tk := is_take l (l.length * 1) (by omega)
  exact pure_cast (pure_said (hs := hint [((1,2), {sym := true}), ((2,2), { sym := true, cells := some (l.flatMap eI) })]) (r := AV.sl ((↑l.length : Int).toNat) (List.take ((↑l.length : Int).toNat * (1 : Nat)) (List.drop (0 : Nat) (List.flatMap eI l)))) (ps := [decide ((0 : Int) ≤ (↑l.length : Int) ∧ (↑l.length : Int) ≤ (↑l.length : Int) ∧ (↑l.length : Int) * (8 : Int) ≤ (140737488355328 : Int) ∧ (↑l.length : Int) ≤ (140737488355328 : Int)) = true, decide ((0 : Nat) + (↑l.length : Int).toNat * (1 : Nat) ≤ (↑l.length : Int).toNat * (1 : Nat)) = true, true = true, decide ((List.take (l.length * (1 : Nat)) (List.flatMap eI l)).length = l.length * (1 : Nat)) = true, ((splice (replZ (↑l.length : Int).toNat [AV.s (Value.int IntKind.i64 (0 : Int))]) (0 : Nat) (List.take (min l.length (↑l.length : Int).toNat * (1 : Nat)) (List.take (l.length * (1 : Nat)) (List.flatMap eI l)))) : List AV) = (List.flatMap eI l), ([(0 : Nat)].all fun (i : Nat) => (Option.map pureB [Bk.arr ((↑l.length : Int).toNat * (1 : Nat)) (List.flatMap eI l) (0 : Fz)][i]?).getD false) = true, true = true]) (by kernel_rfl) ⟨(by exact decide_t (by omega)), (by (first | exact decide_t (by omega) | exact decide_t (by rw [tk, is_len]; omega) | (rw [tk]; exact splice_i l _ _ (by rw [replZ_len]; omega) (by omega)))), rfl, (by (first | exact decide_t (by omega) | exact decide_t (by rw [tk, is_len]; omega) | (rw [tk]; exact splice_i l _ _ (by rw [replZ_len]; omega) (by omega)))), (by (first | exact decide_t (by omega) | exact decide_t (by rw [tk, is_len]; omega) | (rw [tk]; exact splice_i l _ _ (by rw [replZ_len]; omega) (by omega)))), (by exact ids_one _ _ _ rfl (is_pureB _ _ _)), rfl, trivial⟩) (by exact is_sl _ _ _ rfl (by omega))
def numD (n : Int) : Bool := decide (0 ≤ n ∧ n ≤ 4294967295)
def badD (n : Int) : Bool := !numD n
def numsD (l : List Int) : Bool := (idxD badD l).isNone
theorem number_ok (n : Int) : Pu 66 [i64 n] (bl (numD n)) := by
  by_cases h1 : n ≥ (0 : Int)
  · exact pure_cast (pure_of (hs := hint [((1,2), {val := some (bl (true))})]) (r := bl (decide (n ≤ (4294967295 : Int)))) (ps := [bl (decide (n ≥ (0 : Int))) = bl (true)]) (by kernel_rfl) ⟨(bdT h1), trivial⟩) (by exact dec_dec (by omega))
  · exact pure_cast (pure_of (hs := hint [((1,2), {val := some (bl (false))})]) (r := bl (false)) (ps := [bl (decide (n ≥ (0 : Int))) = bl (false)]) (by kernel_rfl) ⟨(bdF h1), trivial⟩) (by exact bl_ndec (by omega))
theorem cl38_ok (n : Int) : Pu 65 [i64 n] (bl (badD n)) := by
  exact pure_of (hs := hint [((1,1), {call := some ((bl (numD n)))})]) (ps := [_]) (by kernel_rfl) ⟨(number_ok (n)), trivial⟩
noncomputable def ixBody : Code := loopOf Try.prog 89 2
def fn_n : AV := .fn (.func 65) [] []
def ixSt (l : List Int) (k : Nat) : St := ⟨mkT 19 [(0, slI l), (1, fn_n), (7, i64 l.length), (8, i64 k)], []⟩
def ixHit (k : Nat) : St := ⟨mkT 19 [(4, i64 k)], []⟩
theorem ix_step (l : List Int) (k : Nat) (hk : k < l.length) (hl : l.length ≤ 1000000) (hp : ¬ badD (nth l k) = true) : Tri C0 ixBody (ixSt l k) .normal (ixSt l (k + 1)) := by
  exact runF_ok (hs := hint [((2,0), {val := some (bl (true))}), ((4,3), {cells := some (eI (nth l k) ++ List.flatMap eI (List.drop (k + (1 : Nat)) l)), sym := true}), ((4,5), {val := some (bl (false)), call := some ((bl (badD (nth l k))))}), ((6,0), {val := some (i64 ((↑k : Int) + (1 : Int)))})]) (f := { ks := [0, 1, 7, 8] }) (ps := [bl (decide ((↑k : Int) < (↑l.length : Int))) = bl (true), decide ((0 : Int) ≤ (↑k : Int) ∧ (↑k : Int) < (↑l.length : Int)) = true, ((List.drop ((↑k : Int).toNat * (1 : Nat)) (List.flatMap eI l)) : List AV) = (eI (nth l k) ++ List.flatMap eI (List.drop (k + (1 : Nat)) l)), _, bl (badD (nth l k)) = bl (false), i64 (IntKind.i64.wrap ((↑k : Int) + (1 : Int))) = i64 ((↑k : Int) + (1 : Int)), true = true]) (by kernel_rfl) ⟨(bdT (by omega)), (by exact decide_t (by omega)), (by exact flat_nth (sz := 1) (k := k) (fun _ => rfl) (by omega)), (cl38_ok (nth l k)), (bvF (by assumption)), (intE (by exact wrap_i64 (by omega) (by omega))), rfl, trivial⟩
theorem ix_hit (l : List Int) (k : Nat) (hk : k < l.length) (hl : l.length ≤ 1000000) (hp : badD (nth l k) = true) : LoopT C0 ixBody (ixSt l k) .ret (ixHit k) := by
  exact LoopT.fin (hs := hint [((2,0), {val := some (bl (true))}), ((4,3), {cells := some (eI (nth l k) ++ List.flatMap eI (List.drop (k + (1 : Nat)) l)), sym := true}), ((4,5), {val := some (bl (true)), call := some ((bl (badD (nth l k))))})]) (f := { ks := [4] }) (ps := [bl (decide ((↑k : Int) < (↑l.length : Int))) = bl (true), decide ((0 : Int) ≤ (↑k : Int) ∧ (↑k : Int) < (↑l.length : Int)) = true, ((List.drop ((↑k : Int).toNat * (1 : Nat)) (List.flatMap eI l)) : List AV) = (eI (nth l k) ++ List.flatMap eI (List.drop (k + (1 : Nat)) l)), _, bl (badD (nth l k)) = bl (true), true = true]) (by kernel_rfl) ⟨(bdT (by omega)), (by exact decide_t (by omega)), (by exact flat_nth (sz := 1) (k := k) (fun _ => rfl) (by omega)), (cl38_ok (nth l k)), (bvT (by assumption)), rfl, trivial⟩ (by decide)
theorem ix_end (l : List Int) : LoopT C0 ixBody (ixSt l l.length) (.exit 0) (ixSt l l.length) := by
  exact LoopT.fin (hs := hint [((2,0), {val := some (bl (false))})]) (f := { ks := [0, 1, 7, 8] }) (ps := [bl (decide ((↑l.length : Int) < (↑l.length : Int))) = bl (false), true = true]) (by kernel_rfl) ⟨(bdF (by omega)), rfl, trivial⟩ (by decide)
theorem ix_ok (l : List Int) (hl : l.length ≤ 1000000) : Pu 89 [slI l, fn_n] (i64 (idxI (idxD badD l))) := by
  cases h : idxD badD l with
  | some m =>
    obtain ⟨h1, h2, h3⟩ := idx_some h
    have L := LoopT.count (ixSt l) m (fun k hk => ix_step l k (by omega) hl (h3 k hk)) (ix_hit l m h1 hl h2) 0 (by omega)
    exact pure_of (hs := hint [((2,1000), {loop := some ({ ks := [0, 1, 7, 8] }, ixSt l (0 : Nat), Ex.ret, ixHit m)})]) (ps := [ixSt l (0 : Nat) = ixSt l (0 : Nat), _, true = true]) (by kernel_rfl) ⟨rfl, L, rfl, trivial⟩
  | none =>
    have L := LoopT.count (ixSt l) l.length (fun k hk => ix_step l k hk hl (idx_none h k hk)) (ix_end l) 0 (by omega)
    exact pure_of (hs := hint [((2,1000), {loop := some ({ ks := [0, 1, 7, 8] }, ixSt l (0 : Nat), Ex.exit (0 : Nat), ixSt l l.length)})]) (ps := [ixSt l (0 : Nat) = ixSt l (0 : Nat), _, true = true]) (by kernel_rfl) ⟨rfl, L, rfl, trivial⟩
theorem has_ok (l : List Int) (hl : l.length ≤ 1000000) : Pu 64 [slI l, fn_n] (bl (idxD badD l).isSome) := by
  have hx := ix_ok l hl
  cases h : idxD badD l with
  | none =>
    rw [h] at hx
    simp only [idxI] at hx
    exact pure_of (hs := hint [((1,2), {call := some ((i64 (-1 : Int)))})]) (ps := [_]) (by kernel_rfl) ⟨(hx), trivial⟩
  | some k =>
    rw [h] at hx
    simp only [idxI] at hx
    exact pure_cast (pure_of (hs := hint [((1,2), {call := some ((i64 (↑k : Int)))})]) (r := bl (decide ((↑k : Int) ≥ (0 : Int)))) (ps := [_]) (by kernel_rfl) ⟨(hx), trivial⟩) (by (simp; done))
theorem numbers_ok (l : List Int) (hl : l.length ≤ 1000000) : Pu 43 [slI l] (bl (numsD l)) := by
  have hx := has_ok l hl
  unfold numsD
  cases h : idxD badD l with
  | none =>
    rw [h, Option.isSome_none] at hx
    exact pure_of (hs := hint [((1,1), {call := some ((bl false))})]) (ps := [_]) (by kernel_rfl) ⟨(hx), trivial⟩
  | some k =>
    rw [h, Option.isSome_some] at hx
    exact pure_of (hs := hint [((1,1), {call := some ((bl true))})]) (ps := [_]) (by kernel_rfl) ⟨(hx), trivial⟩
def riSt (l : List Int) (k : Nat) : St := ⟨mkT 22 [(0, slI l), (3, i64 k)], []⟩
def riHit : St := ⟨mkT 22 [(2, bl false)], []⟩
def saSt (a b : List Int) (k : Nat) : St := ⟨mkT 26 [(0, slI a), (1, slI b), (5, i64 k)], []⟩
def saHit : St := ⟨mkT 26 [(4, bl false)], []⟩
theorem eq_of_nth {a b : List Int} (hl : a.length = b.length) (h : ∀ k, k < a.length → nth a k = nth b k) : a = b := by
  refine List.ext_getElem hl fun k h1 h2 => ?_
  have := h k h1
  rwa [nth_eq h1, nth_eq h2] at this
theorem first_diff (a b : List Int) (hl : a.length = b.length) (h : ¬ a = b) : ∃ k, k < a.length ∧ (∀ j, j < k → nth a j = nth b j) ∧ ¬ nth a k = nth b k := by
  have hex : ∃ k, k < a.length ∧ ¬ nth a k = nth b k := by
    refine Classical.byContradiction fun hn => h (eq_of_nth hl fun k hk => Classical.byContradiction fun q => hn ⟨k, hk, q⟩)
  obtain ⟨k, hk, hq⟩ := hex
  induction k using Nat.strongRecOn with
  | _ k ih =>
    by_cases hj : ∃ j, j < k ∧ ¬ nth a j = nth b j
    · obtain ⟨j, h1, h2⟩ := hj
      exact ih j h1 (by omega) h2
    · exact ⟨k, hk, fun j h1 => Classical.byContradiction fun q => hj ⟨j, h1, q⟩, hq⟩
end Go.Proofs.Ytdcoomeagbjhlaa
