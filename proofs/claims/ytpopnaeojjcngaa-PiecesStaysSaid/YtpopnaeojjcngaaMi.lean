/- The laws Full and Whole. By the prover of this seat. -/
import Derived.Test.YtpopnaeojjcngaaMh
set_option linter.unusedVariables false
set_option linter.unusedSimpArgs false
set_option maxRecDepth 100000
set_option maxHeartbeats 4000000
namespace Go.Proofs.Ytpopnaeojjcngaa
open Go.RowKit Go.Pm
/-! Full -/
theorem nums_of {l : List Int} (h : ∀ n ∈ l, 0 ≤ n ∧ n ≤ 4294967295) : numsD l = true := by
  unfold numsD
  cases hx : idxD badD l with
  | none => rfl
  | some k =>
    obtain ⟨h1, h2, _⟩ := idx_some hx
    have := h _ (nth_mem h1)
    simp only [badD, numD, Bool.not_eq_true', decide_eq_false_iff_not] at h2
    exact absurd this h2
theorem repl_cells (n : Nat) : replZ n [i64 0] = (List.replicate n (0 : Int)).flatMap eI := by
  induction n with
  | zero => rfl
  | succ n ih =>
    show [i64 0] ++ replZ n [i64 0] = _
    rw [ih, List.replicate_succ, List.flatMap_cons]; rfl
def errN (n : Nat) : Int := if n ≤ 65536 then 0 else 4
def gvN (n : Nat) : Give := if n ≤ 65536 then ⟨List.replicate n 0, 16382, 0, true⟩ else ⟨[], 0, 0, false⟩
theorem new_n (n : Nat) : Pu 11 [slI (List.replicate n 0), i64 16382] (.tup [A (giveL (gvN n)), i64 (errN n)]) := by
  unfold gvN errN
  by_cases h : n ≤ 65536
  · rw [if_pos h, if_pos h]
    exact new_good _ _ (by omega) (by rw [List.length_replicate]; omega) (nums_of fun x hx => by rw [List.eq_of_mem_replicate hx]; omega)
  · rw [if_neg h, if_neg h]
    exact new_long _ _ (by omega) (by rw [List.length_replicate]; omega)
def errM (m : Int) : Int := if m < 1 ∨ m > 16382 then 17 else 0
def gvM (m : Int) : Give := if m < 1 ∨ m > 16382 then ⟨[], 0, 0, false⟩ else ⟨[], m, 0, true⟩
theorem new_m (m : Int) : Pu 11 [slI [], i64 m] (.tup [A (giveL (gvM m)), i64 (errM m)]) := by
  unfold gvM errM
  by_cases h : m < 1 ∨ m > 16382
  · rw [if_pos h, if_pos h]; exact new_size _ _ h
  · rw [if_neg h, if_neg h]; exact new_good _ _ h (by simp) rfl
theorem full_ok (q : Int) (q0 : 0 ≤ q) (q1 : q ≤ 255) (m : Int) : Pu 4 [u8 q, i64 m] (bl true) := by
  obtain ⟨n, hn⟩ : ∃ n : Nat, (n : Int) = 65530 + q % 12 := ⟨(65530 + q % 12).toNat, by omega⟩
  have h1 := new_n n
  have h2 := new_m m
  have hz : ∀ k : Nat, k = n → replZ k [i64 0] = (List.replicate n (0 : Int)).flatMap eI := fun k hk => by rw [hk, repl_cells]
  have hlen : (List.replicate n (0 : Int)).length = n := List.length_replicate ..
  generalize List.replicate n (0 : Int) = zs at h1 hz hlen
  have hsl : AV.sl ((n : Int).toNat) (((zs.flatMap eI).drop 0).take ((n : Int).toNat * 1)) = slI zs := is_sl zs _ _ (by omega) (by omega)
  generalize gvN n = g1 at h1
  generalize gvM m = g2 at h2
  by_cases hs : n ≤ 65536
  · rw [errN, if_pos hs] at h1
    by_cases hm : m < 1 ∨ m > 16382
    · rw [errM, if_pos hm] at h2
      by_cases h3 : m ≥ (1 : Int)
      · exact pure_of (hs := hint [((1,1), {val := some (u8 (q % (12 : Int)))}), ((1,2), {val := some (i64 (q % (12 : Int)))}), ((1,3), { val := some (i64 n) }), ((2,1), { sym := true, cells := some (zs.flatMap eI) }), ((2,2), { sym := true, call := some (.tup [A (giveL g1), i64 0]), args := some [slI zs, i64 16382] }), ((3,1), {call := some (AV.tup [A (giveL g2), i64 (17 : Int)])}), ((4,5), {val := some (bl (true))}), ((4,18), {val := some (bl (true))}), ((4,24), {val := some (bl (true))}), ((4,33), {call := some (bl true)})]) (ps := [u8 (q.tmod (12 : Int)) = u8 (q % (12 : Int)), i64 (IntKind.i64.wrap (q % (12 : Int))) = i64 (q % (12 : Int)), i64 (IntKind.i64.wrap ((65530 : Int) + q % (12 : Int))) = i64 ((↑n : Int)), decide ((0 : Int) ≤ (↑n : Int) ∧ (↑n : Int) ≤ (↑n : Int) ∧ (↑n : Int) * (8 : Int) ≤ (140737488355328 : Int) ∧ (↑n : Int) ≤ (140737488355328 : Int)) = true, ((replZ (↑n : Int).toNat [AV.s (Value.int IntKind.i64 (0 : Int))]) : List AV) = (List.flatMap eI zs), ([(0 : Nat)].all fun (i : Nat) => (Option.map pureB ((fun (j : Nat) => [Bk.arr ((↑n : Int).toNat * (1 : Nat)) (List.flatMap eI zs) (0 : Nat)][j]?) i)).getD false) = true, true = true, _, ([AV.sl ((↑n : Int).toNat) (List.take ((↑n : Int).toNat * (1 : Nat)) (List.drop (0 : Nat) (List.flatMap eI zs))), i64 ((16382 : Int))] : List AV) = [AV.sl (zs.length) (List.flatMap eI zs), i64 ((16382 : Int))], _, bl (true == decide ((↑n : Int) ≤ (65536 : Int))) = bl (true), bl (decide (m ≥ (1 : Int))) = bl (true), bl (false == decide (m ≤ (16382 : Int))) = bl (true), _]) (by kernel_rfl) ⟨(intE (Int.tmod_eq_emod_of_nonneg (by omega))), (intE (by exact wrap_i64 (by omega) (by omega))), (by exact intE (by rw [hn]; first | rfl | (rw [wrap_i64 (by omega) (by omega)]))), (by (first | exact decide_t (by omega) | exact hz _ (by omega))), (by (first | exact decide_t (by omega) | exact hz _ (by omega))), (by (first | exact h1 | exact ids_one _ _ _ rfl (is_pureB _ _ _) | exact congrArg (fun x => [x, i64 16382]) hsl | rfl)), (by (first | exact h1 | exact ids_one _ _ _ rfl (is_pureB _ _ _) | exact congrArg (fun x => [x, i64 16382]) hsl | rfl)), (h1), (by (first | exact h1 | exact ids_one _ _ _ rfl (is_pureB _ _ _) | exact congrArg (fun x => [x, i64 16382]) hsl | rfl)), (h2), (beT (by (simp_all; omega))), (bdT h3), (beT (by (simp_all; omega))), (awake_ok), trivial⟩
      · exact pure_of (hs := hint [((1,1), {val := some (u8 (q % (12 : Int)))}), ((1,2), {val := some (i64 (q % (12 : Int)))}), ((1,3), { val := some (i64 n) }), ((2,1), { sym := true, cells := some (zs.flatMap eI) }), ((2,2), { sym := true, call := some (.tup [A (giveL g1), i64 0]), args := some [slI zs, i64 16382] }), ((3,1), {call := some (AV.tup [A (giveL g2), i64 (17 : Int)])}), ((4,5), {val := some (bl (true))}), ((4,18), {val := some (bl (false))}), ((4,33), {call := some (bl true)})]) (ps := [u8 (q.tmod (12 : Int)) = u8 (q % (12 : Int)), i64 (IntKind.i64.wrap (q % (12 : Int))) = i64 (q % (12 : Int)), i64 (IntKind.i64.wrap ((65530 : Int) + q % (12 : Int))) = i64 ((↑n : Int)), decide ((0 : Int) ≤ (↑n : Int) ∧ (↑n : Int) ≤ (↑n : Int) ∧ (↑n : Int) * (8 : Int) ≤ (140737488355328 : Int) ∧ (↑n : Int) ≤ (140737488355328 : Int)) = true, ((replZ (↑n : Int).toNat [AV.s (Value.int IntKind.i64 (0 : Int))]) : List AV) = (List.flatMap eI zs), ([(0 : Nat)].all fun (i : Nat) => (Option.map pureB ((fun (j : Nat) => [Bk.arr ((↑n : Int).toNat * (1 : Nat)) (List.flatMap eI zs) (0 : Nat)][j]?) i)).getD false) = true, true = true, _, ([AV.sl ((↑n : Int).toNat) (List.take ((↑n : Int).toNat * (1 : Nat)) (List.drop (0 : Nat) (List.flatMap eI zs))), i64 ((16382 : Int))] : List AV) = [AV.sl (zs.length) (List.flatMap eI zs), i64 ((16382 : Int))], _, bl (true == decide ((↑n : Int) ≤ (65536 : Int))) = bl (true), bl (decide (m ≥ (1 : Int))) = bl (false), _]) (by kernel_rfl) ⟨(intE (Int.tmod_eq_emod_of_nonneg (by omega))), (intE (by exact wrap_i64 (by omega) (by omega))), (by exact intE (by rw [hn]; first | rfl | (rw [wrap_i64 (by omega) (by omega)]))), (by (first | exact decide_t (by omega) | exact hz _ (by omega))), (by (first | exact decide_t (by omega) | exact hz _ (by omega))), (by (first | exact h1 | exact ids_one _ _ _ rfl (is_pureB _ _ _) | exact congrArg (fun x => [x, i64 16382]) hsl | rfl)), (by (first | exact h1 | exact ids_one _ _ _ rfl (is_pureB _ _ _) | exact congrArg (fun x => [x, i64 16382]) hsl | rfl)), (h1), (by (first | exact h1 | exact ids_one _ _ _ rfl (is_pureB _ _ _) | exact congrArg (fun x => [x, i64 16382]) hsl | rfl)), (h2), (beT (by (simp_all; omega))), (bdF h3), (awake_ok), trivial⟩
    · rw [errM, if_neg hm] at h2
      exact pure_of (hs := hint [((1,1), {val := some (u8 (q % (12 : Int)))}), ((1,2), {val := some (i64 (q % (12 : Int)))}), ((1,3), { val := some (i64 n) }), ((2,1), { sym := true, cells := some (zs.flatMap eI) }), ((2,2), { sym := true, call := some (.tup [A (giveL g1), i64 0]), args := some [slI zs, i64 16382] }), ((3,1), {call := some (AV.tup [A (giveL g2), i64 (0 : Int)])}), ((4,5), {val := some (bl (true))}), ((4,18), {val := some (bl (true))}), ((4,24), {val := some (bl (true))}), ((4,33), {call := some (bl true)})]) (ps := [u8 (q.tmod (12 : Int)) = u8 (q % (12 : Int)), i64 (IntKind.i64.wrap (q % (12 : Int))) = i64 (q % (12 : Int)), i64 (IntKind.i64.wrap ((65530 : Int) + q % (12 : Int))) = i64 ((↑n : Int)), decide ((0 : Int) ≤ (↑n : Int) ∧ (↑n : Int) ≤ (↑n : Int) ∧ (↑n : Int) * (8 : Int) ≤ (140737488355328 : Int) ∧ (↑n : Int) ≤ (140737488355328 : Int)) = true, ((replZ (↑n : Int).toNat [AV.s (Value.int IntKind.i64 (0 : Int))]) : List AV) = (List.flatMap eI zs), ([(0 : Nat)].all fun (i : Nat) => (Option.map pureB ((fun (j : Nat) => [Bk.arr ((↑n : Int).toNat * (1 : Nat)) (List.flatMap eI zs) (0 : Nat)][j]?) i)).getD false) = true, true = true, _, ([AV.sl ((↑n : Int).toNat) (List.take ((↑n : Int).toNat * (1 : Nat)) (List.drop (0 : Nat) (List.flatMap eI zs))), i64 ((16382 : Int))] : List AV) = [AV.sl (zs.length) (List.flatMap eI zs), i64 ((16382 : Int))], _, bl (true == decide ((↑n : Int) ≤ (65536 : Int))) = bl (true), bl (decide (m ≥ (1 : Int))) = bl (true), bl (true == decide (m ≤ (16382 : Int))) = bl (true), _]) (by kernel_rfl) ⟨(intE (Int.tmod_eq_emod_of_nonneg (by omega))), (intE (by exact wrap_i64 (by omega) (by omega))), (by exact intE (by rw [hn]; first | rfl | (rw [wrap_i64 (by omega) (by omega)]))), (by (first | exact decide_t (by omega) | exact hz _ (by omega))), (by (first | exact decide_t (by omega) | exact hz _ (by omega))), (by (first | exact h1 | exact ids_one _ _ _ rfl (is_pureB _ _ _) | exact congrArg (fun x => [x, i64 16382]) hsl | rfl)), (by (first | exact h1 | exact ids_one _ _ _ rfl (is_pureB _ _ _) | exact congrArg (fun x => [x, i64 16382]) hsl | rfl)), (h1), (by (first | exact h1 | exact ids_one _ _ _ rfl (is_pureB _ _ _) | exact congrArg (fun x => [x, i64 16382]) hsl | rfl)), (h2), (beT (by (simp_all; omega))), (bdT (by omega)), (beT (by (simp_all; done))), (awake_ok), trivial⟩
  · rw [errN, if_neg hs] at h1
    by_cases hm : m < 1 ∨ m > 16382
    · rw [errM, if_pos hm] at h2
      by_cases h3 : m ≥ (1 : Int)
      · exact pure_of (hs := hint [((1,1), {val := some (u8 (q % (12 : Int)))}), ((1,2), {val := some (i64 (q % (12 : Int)))}), ((1,3), { val := some (i64 n) }), ((2,1), { sym := true, cells := some (zs.flatMap eI) }), ((2,2), { sym := true, call := some (.tup [A (giveL g1), i64 4]), args := some [slI zs, i64 16382] }), ((3,1), {call := some (AV.tup [A (giveL g2), i64 (17 : Int)])}), ((4,5), {val := some (bl (true))}), ((4,18), {val := some (bl (true))}), ((4,24), {val := some (bl (true))}), ((4,33), {call := some (bl true)})]) (ps := [u8 (q.tmod (12 : Int)) = u8 (q % (12 : Int)), i64 (IntKind.i64.wrap (q % (12 : Int))) = i64 (q % (12 : Int)), i64 (IntKind.i64.wrap ((65530 : Int) + q % (12 : Int))) = i64 ((↑n : Int)), decide ((0 : Int) ≤ (↑n : Int) ∧ (↑n : Int) ≤ (↑n : Int) ∧ (↑n : Int) * (8 : Int) ≤ (140737488355328 : Int) ∧ (↑n : Int) ≤ (140737488355328 : Int)) = true, ((replZ (↑n : Int).toNat [AV.s (Value.int IntKind.i64 (0 : Int))]) : List AV) = (List.flatMap eI zs), ([(0 : Nat)].all fun (i : Nat) => (Option.map pureB ((fun (j : Nat) => [Bk.arr ((↑n : Int).toNat * (1 : Nat)) (List.flatMap eI zs) (0 : Nat)][j]?) i)).getD false) = true, true = true, _, ([AV.sl ((↑n : Int).toNat) (List.take ((↑n : Int).toNat * (1 : Nat)) (List.drop (0 : Nat) (List.flatMap eI zs))), i64 ((16382 : Int))] : List AV) = [AV.sl (zs.length) (List.flatMap eI zs), i64 ((16382 : Int))], _, bl (false == decide ((↑n : Int) ≤ (65536 : Int))) = bl (true), bl (decide (m ≥ (1 : Int))) = bl (true), bl (false == decide (m ≤ (16382 : Int))) = bl (true), _]) (by kernel_rfl) ⟨(intE (Int.tmod_eq_emod_of_nonneg (by omega))), (intE (by exact wrap_i64 (by omega) (by omega))), (by exact intE (by rw [hn]; first | rfl | (rw [wrap_i64 (by omega) (by omega)]))), (by (first | exact decide_t (by omega) | exact hz _ (by omega))), (by (first | exact decide_t (by omega) | exact hz _ (by omega))), (by (first | exact h1 | exact ids_one _ _ _ rfl (is_pureB _ _ _) | exact congrArg (fun x => [x, i64 16382]) hsl | rfl)), (by (first | exact h1 | exact ids_one _ _ _ rfl (is_pureB _ _ _) | exact congrArg (fun x => [x, i64 16382]) hsl | rfl)), (h1), (by (first | exact h1 | exact ids_one _ _ _ rfl (is_pureB _ _ _) | exact congrArg (fun x => [x, i64 16382]) hsl | rfl)), (h2), (beT (by (simp_all; omega))), (bdT h3), (beT (by (simp_all; omega))), (awake_ok), trivial⟩
      · exact pure_of (hs := hint [((1,1), {val := some (u8 (q % (12 : Int)))}), ((1,2), {val := some (i64 (q % (12 : Int)))}), ((1,3), { val := some (i64 n) }), ((2,1), { sym := true, cells := some (zs.flatMap eI) }), ((2,2), { sym := true, call := some (.tup [A (giveL g1), i64 4]), args := some [slI zs, i64 16382] }), ((3,1), {call := some (AV.tup [A (giveL g2), i64 (17 : Int)])}), ((4,5), {val := some (bl (true))}), ((4,18), {val := some (bl (false))}), ((4,33), {call := some (bl true)})]) (ps := [u8 (q.tmod (12 : Int)) = u8 (q % (12 : Int)), i64 (IntKind.i64.wrap (q % (12 : Int))) = i64 (q % (12 : Int)), i64 (IntKind.i64.wrap ((65530 : Int) + q % (12 : Int))) = i64 ((↑n : Int)), decide ((0 : Int) ≤ (↑n : Int) ∧ (↑n : Int) ≤ (↑n : Int) ∧ (↑n : Int) * (8 : Int) ≤ (140737488355328 : Int) ∧ (↑n : Int) ≤ (140737488355328 : Int)) = true, ((replZ (↑n : Int).toNat [AV.s (Value.int IntKind.i64 (0 : Int))]) : List AV) = (List.flatMap eI zs), ([(0 : Nat)].all fun (i : Nat) => (Option.map pureB ((fun (j : Nat) => [Bk.arr ((↑n : Int).toNat * (1 : Nat)) (List.flatMap eI zs) (0 : Nat)][j]?) i)).getD false) = true, true = true, _, ([AV.sl ((↑n : Int).toNat) (List.take ((↑n : Int).toNat * (1 : Nat)) (List.drop (0 : Nat) (List.flatMap eI zs))), i64 ((16382 : Int))] : List AV) = [AV.sl (zs.length) (List.flatMap eI zs), i64 ((16382 : Int))], _, bl (false == decide ((↑n : Int) ≤ (65536 : Int))) = bl (true), bl (decide (m ≥ (1 : Int))) = bl (false), _]) (by kernel_rfl) ⟨(intE (Int.tmod_eq_emod_of_nonneg (by omega))), (intE (by exact wrap_i64 (by omega) (by omega))), (by exact intE (by rw [hn]; first | rfl | (rw [wrap_i64 (by omega) (by omega)]))), (by (first | exact decide_t (by omega) | exact hz _ (by omega))), (by (first | exact decide_t (by omega) | exact hz _ (by omega))), (by (first | exact h1 | exact ids_one _ _ _ rfl (is_pureB _ _ _) | exact congrArg (fun x => [x, i64 16382]) hsl | rfl)), (by (first | exact h1 | exact ids_one _ _ _ rfl (is_pureB _ _ _) | exact congrArg (fun x => [x, i64 16382]) hsl | rfl)), (h1), (by (first | exact h1 | exact ids_one _ _ _ rfl (is_pureB _ _ _) | exact congrArg (fun x => [x, i64 16382]) hsl | rfl)), (h2), (beT (by (simp_all; omega))), (bdF h3), (awake_ok), trivial⟩
    · rw [errM, if_neg hm] at h2
      exact pure_of (hs := hint [((1,1), {val := some (u8 (q % (12 : Int)))}), ((1,2), {val := some (i64 (q % (12 : Int)))}), ((1,3), { val := some (i64 n) }), ((2,1), { sym := true, cells := some (zs.flatMap eI) }), ((2,2), { sym := true, call := some (.tup [A (giveL g1), i64 4]), args := some [slI zs, i64 16382] }), ((3,1), {call := some (AV.tup [A (giveL g2), i64 (0 : Int)])}), ((4,5), {val := some (bl (true))}), ((4,18), {val := some (bl (true))}), ((4,24), {val := some (bl (true))}), ((4,33), {call := some (bl true)})]) (ps := [u8 (q.tmod (12 : Int)) = u8 (q % (12 : Int)), i64 (IntKind.i64.wrap (q % (12 : Int))) = i64 (q % (12 : Int)), i64 (IntKind.i64.wrap ((65530 : Int) + q % (12 : Int))) = i64 ((↑n : Int)), decide ((0 : Int) ≤ (↑n : Int) ∧ (↑n : Int) ≤ (↑n : Int) ∧ (↑n : Int) * (8 : Int) ≤ (140737488355328 : Int) ∧ (↑n : Int) ≤ (140737488355328 : Int)) = true, ((replZ (↑n : Int).toNat [AV.s (Value.int IntKind.i64 (0 : Int))]) : List AV) = (List.flatMap eI zs), ([(0 : Nat)].all fun (i : Nat) => (Option.map pureB ((fun (j : Nat) => [Bk.arr ((↑n : Int).toNat * (1 : Nat)) (List.flatMap eI zs) (0 : Nat)][j]?) i)).getD false) = true, true = true, _, ([AV.sl ((↑n : Int).toNat) (List.take ((↑n : Int).toNat * (1 : Nat)) (List.drop (0 : Nat) (List.flatMap eI zs))), i64 ((16382 : Int))] : List AV) = [AV.sl (zs.length) (List.flatMap eI zs), i64 ((16382 : Int))], _, bl (false == decide ((↑n : Int) ≤ (65536 : Int))) = bl (true), bl (decide (m ≥ (1 : Int))) = bl (true), bl (true == decide (m ≤ (16382 : Int))) = bl (true), _]) (by kernel_rfl) ⟨(intE (Int.tmod_eq_emod_of_nonneg (by omega))), (intE (by exact wrap_i64 (by omega) (by omega))), (by exact intE (by rw [hn]; first | rfl | (rw [wrap_i64 (by omega) (by omega)]))), (by (first | exact decide_t (by omega) | exact hz _ (by omega))), (by (first | exact decide_t (by omega) | exact hz _ (by omega))), (by (first | exact h1 | exact ids_one _ _ _ rfl (is_pureB _ _ _) | exact congrArg (fun x => [x, i64 16382]) hsl | rfl)), (by (first | exact h1 | exact ids_one _ _ _ rfl (is_pureB _ _ _) | exact congrArg (fun x => [x, i64 16382]) hsl | rfl)), (h1), (by (first | exact h1 | exact ids_one _ _ _ rfl (is_pureB _ _ _) | exact congrArg (fun x => [x, i64 16382]) hsl | rfl)), (h2), (beT (by (simp_all; omega))), (bdT (by omega)), (beT (by (simp_all; done))), (awake_ok), trivial⟩
/-! Whole -/
theorem part_le (d : List Int) (m i : Nat) : (partAt d m i).length ≤ m := by unfold partAt; rw [List.length_take]; omega
theorem nums_part {d : List Int} (h : ∀ n ∈ d, 0 ≤ n ∧ n ≤ 4294967295) (m i : Nat) : numsD (partAt d m i) = true := nums_of fun n hn => h n (List.mem_of_mem_drop (List.mem_of_mem_take hn))
theorem kind_all {d : List Int} (h : ∀ n ∈ d, 0 ≤ n ∧ n ≤ 4294967295) {m k : Nat} (m0 : 1 ≤ m) (m1 : m ≤ 16382) (hl : d.length ≤ 65536) (hk : k < (allD d m).length) :
    kindD (nth (allD d m) k) = if d.length ≤ m then 0 else if k = 0 then 1 else if k = cntD d m + 1 then 3 else 2 := by
  have hlen := all_len d m
  have hn := nums_of h
  unfold allD at hk hlen ⊢
  by_cases hs : d.length ≤ m
  · simp only [hs, if_true] at hk hlen ⊢
    obtain rfl : k = 0 := by omega
    show kindD (wholeP d) = 0
    unfold kindD kindT wholeP
    simp only
    rw [if_neg (by omega), if_pos hn, if_pos trivial]
  · simp only [hs, if_false] at hk hlen ⊢
    by_cases h0 : k = 0
    · subst h0
      rw [if_pos rfl]
      show kindD (annP d) = 1
      unfold kindD kindT annP
      simp only [List.length_nil]
      have a1 : 1 ≤ (d.length : Int) := by omega
      have a2 : (d.length : Int) ≤ 65536 := by omega
      simp [a1, a2, numsD_nil]
    · rw [if_neg h0]
      obtain ⟨j, rfl⟩ : ∃ j, k = j + 1 := ⟨k - 1, by omega⟩
      show kindD (nth (List.map (partP d m) (List.range (cntD d m)) ++ [endP]) j) = _
      by_cases hj : j < cntD d m
      · rw [if_neg (by omega)]
        have e : nth (List.map (partP d m) (List.range (cntD d m)) ++ [endP]) j = partP d m j := by
          simp [nth, List.getD_eq_getElem?_getD, List.getElem?_append_left, hj]
        rw [e]
        have h1 := (cnt_lt (d := d) m0 j).1 hj
        have h2 := part_le d m j
        have h3 : 1 ≤ (partAt d m j).length := by unfold partAt; rw [List.length_take, List.length_drop]; omega
        have h4 := nums_part h m j
        unfold kindD kindT partP
        simp only
        rw [if_neg (by omega), if_pos h4, if_neg (by omega), if_pos trivial]
      · have hj' : j = cntD d m := by omega
        subst hj'
        rw [if_pos rfl]
        have e : nth (List.map (partP d m) (List.range (cntD d m)) ++ [endP]) (cntD d m) = endP := by
          simp [nth, List.getD_eq_getElem?_getD]
        rw [e]; rfl
/-- what a take has behind k pieces -/
def takeAt (d : List Int) (m k : Nat) : Take :=
  if k = 0 then ⟨[], 0, 0⟩ else if d.length ≤ m then ⟨d, d.length, 2⟩ else if k = cntD d m + 2 then ⟨d, d.length, 2⟩ else ⟨d.take ((k - 1) * m), d.length, 1⟩
theorem part_snoc (d : List Int) (m j : Nat) : d.take (j * m) ++ partAt d m j = d.take ((j + 1) * m) := by
  unfold partAt
  rw [Nat.add_one_mul, List.take_add]
theorem take_all (d : List Int) (m : Nat) (m0 : 1 ≤ m) : d.take (cntD d m * m) = d := List.take_of_length_le (Nat.le_of_not_lt fun q => Nat.lt_irrefl _ ((cnt_lt (d := d) m0 (cntD d m)).2 q))
theorem got_all {d : List Int} (h : ∀ n ∈ d, 0 ≤ n ∧ n ≤ 4294967295) {m k : Nat} (m0 : 1 ≤ m) (m1 : m ≤ 16382) (hl : d.length ≤ 65536) (hk : k < (allD d m).length) :
    gotK (takeAt d m k) (nth (allD d m) k) (kindD (nth (allD d m) k)) = (takeAt d m (k + 1), 0) := by
  rw [kind_all h m0 m1 hl hk]
  have hlen := all_len d m
  by_cases hs : d.length ≤ m
  · simp only [hs, if_true] at hlen
    obtain rfl : k = 0 := by omega
    have e : nth (allD d m) 0 = wholeP d := by unfold allD; rw [if_pos hs]; rfl
    rw [e]
    simp [gotK, takeAt, hs, wholeP]
  · simp only [hs, if_false] at hlen
    have hc := cnt_pos m0 hs
    by_cases h0 : k = 0
    · subst h0
      have e : nth (allD d m) 0 = annP d := by unfold allD; rw [if_neg hs]; rfl
      rw [e]
      have : ¬ (0 + 1 : Nat) = cntD d m + 2 := by omega
      simp [gotK, takeAt, hs, annP]
    · obtain ⟨j, rfl⟩ : ∃ j, k = j + 1 := ⟨k - 1, by omega⟩
      have en : nth (allD d m) (j + 1) = nth (List.map (partP d m) (List.range (cntD d m)) ++ [endP]) j := by unfold allD; rw [if_neg hs]; rfl
      by_cases hj : j < cntD d m
      · have e : nth (List.map (partP d m) (List.range (cntD d m)) ++ [endP]) j = partP d m j := by
          simp [nth, List.getD_eq_getElem?_getD, List.getElem?_append_left, hj]
        rw [en, e]
        have n1 : ¬ j + 1 = cntD d m + 1 := by omega
        have n2 : ¬ j + 1 = cntD d m + 2 := by omega
        have n3 : ¬ j + 1 + 1 = cntD d m + 2 := by omega
        have n4 : ¬ j + 1 = 0 := by omega
        have n5 : ¬ j + 1 + 1 = 0 := by omega
        have hle : ((d.take (j * m)).length : Int) + (partAt d m j).length ≤ d.length := by
          have := congrArg List.length (part_snoc d m j)
          rw [List.length_append, List.length_take (l := d) (i := (j + 1) * m)] at this
          omega
        unfold gotK takeAt
        simp only [if_neg hs, if_neg n1, if_neg n2, if_neg n3, if_neg n4, if_neg n5, partP, if_true, if_false]
        simp only [show ¬ ((1 : Int) = 2 ∨ (1 : Int) = 3) by omega, show ((2 : Int) = 2 ∨ (2 : Int) = 3) by omega, show ¬ (2 : Int) = 4 by omega, if_true, if_false, true_or, or_true]
        rw [show j + 1 - 1 = j by omega, show j + 1 + 1 - 1 = j + 1 by omega, if_neg (by omega), part_snoc]
      · have hj' : j = cntD d m := by omega
        subst hj'
        have e : nth (List.map (partP d m) (List.range (cntD d m)) ++ [endP]) (cntD d m) = endP := by
          simp [nth, List.getD_eq_getElem?_getD]
        rw [en, e]
        have n2 : ¬ cntD d m + 1 = cntD d m + 2 := by omega
        have n4 : ¬ cntD d m + 1 = 0 := by omega
        have n5 : ¬ cntD d m + 1 + 1 = 0 := by omega
        unfold gotK takeAt
        simp only [if_neg hs, if_neg n2, if_neg n4, if_neg n5, if_true, if_false]
        simp only [show ¬ ((1 : Int) = 2 ∨ (1 : Int) = 3) by omega, show ((3 : Int) = 2 ∨ (3 : Int) = 3) by omega, show ¬ (3 : Int) = 4 by omega, show ¬ (3 : Int) = 2 by omega, if_true, if_false, true_or, or_true]
        rw [show cntD d m + 1 - 1 = cntD d m by omega, take_all d m m0, if_neg (by omega)]
theorem take_end (d : List Int) (m : Nat) (m0 : 1 ≤ m) : (takeAt d m (allD d m).length).data = d ∧ (takeAt d m (allD d m).length).state = 2 := by
  rw [all_len]
  unfold takeAt
  by_cases hs : d.length ≤ m
  · simp [hs]
  · simp [hs]
theorem take_mid {d : List Int} {m k : Nat} (m0 : 1 ≤ m) (hk : k < (allD d m).length) : ¬ (takeAt d m k).state = 2 := by
  rw [all_len] at hk
  unfold takeAt
  by_cases h0 : k = 0
  · simp [h0]
  · by_cases hs : d.length ≤ m
    · rw [if_pos hs] at hk; omega
    · rw [if_neg hs] at hk
      rw [if_neg h0, if_neg hs, if_neg (by omega)]
      simp
theorem take_len (d : List Int) (m k : Nat) : (takeAt d m k).data.length ≤ d.length := by
  unfold takeAt
  repeat' split
  all_goals simp <;> omega
noncomputable def w1Body : Code := loopOf Try.prog 9 5
def w1St (l : List Int) (q : Int) (k m : Nat) (ks : List Int) : St := ⟨mkT 119 [(0, slU l), (1, u16 q), (5, .osl 0 0 m 1), (6, i64 k)], [.arr (m * 1) (ks.flatMap eI) 0]⟩
theorem w1_step (l ks : List Int) (q : Int) (k m : Nat) (hk : k < l.length) (hl : l.length ≤ 1000) (hm : m = ks.length) (hm2 : m ≤ k) (hb : 0 ≤ nth l k ∧ nth l k ≤ 4294967295) : Tri C0 w1Body (w1St l q k m ks) .normal (w1St l q (k + 1) (m + 1) (ks ++ [nth l k])) := by
  have e1 : (ks ++ [nth l k]).flatMap eI = ks.flatMap eI ++ eI (nth l k) := by simp
  exact runF_ok (hs := hint [((5,3), {val := some (bl (true))}), ((7,3), {cells := some (eU (nth l k) ++ List.flatMap eU (List.drop (k + (1 : Nat)) l)), sym := true}), ((7,5), {val := some (i64 (nth l k))}), ((7,7), { sym := true, cells := some ((ks ++ [nth l k]).flatMap eI) }), ((6,1), {val := some (i64 ((↑k : Int) + (1 : Int)))})]) (f := { ks := [0, 1, 5, 6], l := [2] }) (ps := [bl (decide ((↑k : Int) < (↑l.length : Int))) = bl (true), decide ((0 : Int) ≤ (↑k : Int) ∧ (↑k : Int) < (↑l.length : Int)) = true, ((List.drop ((↑k : Int).toNat * (1 : Nat)) (List.flatMap eU l)) : List AV) = (eU (nth l k) ++ List.flatMap eU (List.drop (k + (1 : Nat)) l)), i64 (IntKind.i64.wrap (nth l k)) = i64 (nth l k), decide (m * (1 : Nat) = m * (1 : Nat) ∧ (0 : Nat) ≤ m * (1 : Nat) ∧ m * (1 : Nat) = (List.flatMap eI ks).length) = true, decide ((m + (1 : Nat)) * (8 : Nat) ≤ (140737488355328 : Nat)) = true, true = true, ((List.flatMap eI ks ++ [AV.s (Value.int IntKind.i64 (nth l k))]) : List AV) = (List.flatMap eI (ks ++ [nth l k])), i64 (IntKind.i64.wrap ((↑k : Int) + (1 : Int))) = i64 ((↑k : Int) + (1 : Int)), true = true, pureB (Bk.arr ((m + (1 : Nat)) * (1 : Nat)) (List.flatMap eI (ks ++ [nth l k])) (0 : Nat)) = true]) (by kernel_rfl) ⟨(bdT (by omega)), (by exact decide_t (by omega)), (by exact flat_nth (sz := 1) (k := k) (fun _ => rfl) (by omega)), (intE (by exact wrap_i64 (by omega) (by omega))), (by (first | exact e1.symm | exact decide_t (by omega) | exact decide_t ⟨by omega, by omega, by rw [is_len]; omega⟩)), (by (first | exact e1.symm | exact decide_t (by omega) | exact decide_t ⟨by omega, by omega, by rw [is_len]; omega⟩)), rfl, (by (first | exact e1.symm | exact decide_t (by omega) | exact decide_t ⟨by omega, by omega, by rw [is_len]; omega⟩)), (intE (by exact wrap_i64 (by omega) (by omega))), rfl, (by exact is_pureB _ _ _), trivial⟩
theorem w1_end (l ks : List Int) (q : Int) (m : Nat) : LoopT C0 w1Body (w1St l q l.length m ks) (.exit 0) (w1St l q l.length m ks) := by
  exact LoopT.fin (hs := hint [((5,3), {val := some (bl (false))})]) (f := { ks := [0, 1, 5, 6], l := [0] }) (ps := [bl (decide ((↑l.length : Int) < (↑l.length : Int))) = bl (false), true = true, pureB (Bk.arr (m * (1 : Nat)) (List.flatMap eI ks) (0 : Nat)) = true]) (by kernel_rfl) ⟨(bdF (by omega)), rfl, (by exact is_pureB _ _ _), trivial⟩ (by decide)
theorem w1_all (l : List Int) (q : Int) (hl : l.length ≤ 1000) (hb : ∀ n ∈ l, 0 ≤ n ∧ n ≤ 4294967295) : LoopT C0 w1Body (w1St l q 0 0 []) (.exit 0) (w1St l q l.length l.length l) := by
  have L := LoopT.count (fun k => w1St l q k k (l.take k)) l.length (fun k hk => by
    simp only [take_nth hk]
    exact w1_step l _ q k k hk hl (by rw [List.length_take]; omega) (Nat.le_refl _) (hb _ (nth_mem hk))) (w1_end l _ q _) 0 (by omega)
  rw [List.take_length] at L
  exact L
noncomputable def w2Body : Code := loopOf Try.prog 9 13
def w2St (d : List Int) (g : Give) (k : Take) (n : Nat) : St := ⟨mkT 119 [(5, .osl 0 0 d.length 1), (7, .ptr 1 0), (9, .ptr 2 0), (10, i64 n)], [.arr (d.length * 1) (d.flatMap eI) (d.length * 1), .arr 4 (giveL g) 0, .arr 3 (takeL k) 0]⟩
def w2Out (d : List Int) (g : Give) (k : Take) : St := ⟨mkT 119 [(5, .osl 0 0 d.length 1), (7, .ptr 1 0), (9, .ptr 2 0)], [.arr (d.length * 1) (d.flatMap eI) (d.length * 1), .arr 4 (giveL g) 0, .arr 3 (takeL k) 0]⟩
theorem w2_step (d : List Int) (g g' : Give) (k k' : Take) (p : Piece) (c : List Int) (n : Nat) (hn : n ≤ d.length + 2) (hd : d.length ≤ 1000) (hk : k.data.length ≤ 1000) (hs : ¬ k.state = 2)
    (h1 : Pu 13 [A (giveL g)] (putR (p, true))) (h2 : Pu 14 [A (giveL g)] (bl false)) (h3 : Pu 17 [A (giveL g)] (A (giveL g'))) (h4 : Pu 18 [A (pieceL p)] (slI c)) (h5 : Pu 21 [slI c] (pieceR (p, 0))) (h6 : Pu 23 [A (takeL k), A (pieceL p)] (takeR (k', 0))) : Tri C0 w2Body (w2St d g k n) .normal (w2St d g' k' (n + 1)) := by
  have h7 := data_ok k (by omega)
  exact runF_ok (hs := hint [((13,3), {val := some (i64 ((↑d.length : Int) + (2 : Int)))}), ((13,4), {val := some (bl (true))}), ((15,1), {call := some (putR (p, true))}), ((16,1), {call := some (AV.tup [slI k.data, i64 k.state])}), ((17,4), {val := some (bl (false))}), ((17,6), {call := some (bl false)}), ((20,1), {call := some (slI c)}), ((20,2), {call := some (pieceR (p, (0 : Int)))}), ((21,2), {call := some (takeR (k', (0 : Int)))}), ((24,2), {call := some (A (giveL g'))}), ((14,1), {val := some (i64 ((↑n : Int) + (1 : Int)))})]) (f := { ks := [5, 7, 9, 10], l := [0, 1, 2] }) (ps := [i64 (IntKind.i64.wrap ((↑d.length : Int) + (2 : Int))) = i64 ((↑d.length : Int) + (2 : Int)), bl (decide ((↑n : Int) ≤ (↑d.length : Int) + (2 : Int))) = bl (true), _, _, bl (true == (k.state == (2 : Int))) = bl (false), _, _, _, _, _, i64 (IntKind.i64.wrap ((↑n : Int) + (1 : Int))) = i64 ((↑n : Int) + (1 : Int)), true = true, pureB (Bk.arr (d.length * (1 : Nat)) (List.flatMap eI d) (d.length * (1 : Nat))) = true, true = true, true = true]) (by kernel_rfl) ⟨(intE (by exact wrap_i64 (by omega) (by omega))), (bdT (by omega)), (h1), (h7), (beF (by (simp [hs]; done))), (h2), (h4), (h5), (h6), (h3), (intE (by exact wrap_i64 (by omega) (by omega))), rfl, (by exact is_pureB _ _ _), rfl, rfl, trivial⟩
theorem w2_end (d : List Int) (g : Give) (k : Take) (n : Nat) (hn : n ≤ d.length + 2) (hd : d.length ≤ 1000) (hk : k.data.length ≤ 1000) (hs : k.state = 2) (h1 : Pu 13 [A (giveL g)] (putR (p0, false))) (h2 : Pu 14 [A (giveL g)] (bl true)) : LoopT C0 w2Body (w2St d g k n) (.exit 2) (w2Out d g k) := by
  have h7 := data_ok k (by omega)
  exact LoopT.fin (hs := hint [((13,3), {val := some (i64 ((↑d.length : Int) + (2 : Int)))}), ((13,4), {val := some (bl (true))}), ((15,1), {call := some (putR (p0, false))}), ((16,1), {call := some (AV.tup [slI k.data, i64 k.state])}), ((17,4), {val := some (bl (false))}), ((17,6), {call := some (bl true)})]) (f := { ks := [5, 7, 9], l := [0, 1, 2] }) (ps := [i64 (IntKind.i64.wrap ((↑d.length : Int) + (2 : Int))) = i64 ((↑d.length : Int) + (2 : Int)), bl (decide ((↑n : Int) ≤ (↑d.length : Int) + (2 : Int))) = bl (true), _, _, bl (false == (k.state == (2 : Int))) = bl (false), _, true = true, pureB (Bk.arr (d.length * (1 : Nat)) (List.flatMap eI d) (d.length * (1 : Nat))) = true, true = true, true = true]) (by kernel_rfl) ⟨(intE (by exact wrap_i64 (by omega) (by omega))), (bdT (by omega)), (h1), (h7), (beF (by (simp [hs]; done))), (h2), rfl, (by exact is_pureB _ _ _), rfl, rfl, trivial⟩ (by decide)
theorem whole_good (d : List Int) (q : Int) (q0 : 0 ≤ q) (q1 : q ≤ 65535) (hd : d.length ≤ 400) (hb : ∀ n ∈ d, 0 ≤ n ∧ n ≤ 4294967295) : Pu 9 [slU d, u16 q] (bl true) := by
  have L1 := w1_all d q (by omega) hb
  obtain ⟨m, hm⟩ : ∃ m : Nat, (m : Int) = 1 + q % 300 := ⟨(1 + q % 300).toNat, by omega⟩
  have m0 : 1 ≤ m := by omega
  have m1 : m ≤ 16382 := by omega
  have h0 := new_good d m (by omega) (by omega) (nums_of hb)
  rw [hm] at h0
  have hw := all_le (d := d) m0
  have L2 := LoopT.count (fun k => w2St d (gvAt d m k) (takeAt d m k) k) (allD d m).length (fun k hk => by
    have g := gv_at (d := d) (m := m) (k := k) m0 m1 (by omega) (by omega)
    have p1 := put_ok _ g
    have p2 := done_ok _ g
    have p3 := gone_ok _ g
    rw [put_at m0 hk] at p1
    rw [done_at m0, decide_eq_false (by omega)] at p2
    rw [gone_at m0 hk] at p3
    have hkd : ¬ kindD (nth (allD d m) k) = 4 := by
      rw [kind_all hb m0 m1 (by omega) hk]
      repeat' split
      all_goals simp
    have hdl := all_data hk
    have p4 := code_ok (nth (allD d m) k) (by omega)
    have hcl : (codeD (nth (allD d m) k)).length ≤ 300000 := by unfold codeD; rw [if_neg hkd]; simp; omega
    have p5 := read_ok _ hcl
    rw [read_code _ hkd] at p5
    have htl := take_len d m k
    have p6 := got_ok (takeAt d m k) (nth (allD d m) k) (by omega) (by omega)
    rw [got_all hb m0 m1 (by omega) hk] at p6
    exact w2_step d _ _ _ _ _ _ k (by omega) (by omega) (by omega) (take_mid m0 hk) p1 p2 p3 p4 p5 p6) (by
    have g := gv_at (d := d) (m := m) (k := (allD d m).length) m0 m1 (by omega) (by omega)
    have p1 := put_ok _ g
    have p2 := done_ok _ g
    rw [put_end m0] at p1
    rw [done_at m0, decide_eq_true (Nat.le_refl _)] at p2
    have htl := take_len d m (allD d m).length
    exact w2_end d _ _ _ hw (by omega) (by omega) (take_end d m m0).2 p1 p2) 0 (by omega)
  have hz : gvAt d m 0 = ⟨d, m, 0, true⟩ := rfl
  have ht : takeAt d m 0 = ⟨[], 0, 0⟩ := rfl
  rw [hz, ht, hm] at L2
  have p2 := done_ok _ (gv_at (d := d) (m := m) (k := (allD d m).length) m0 m1 (by omega) (by omega))
  rw [done_at m0, decide_eq_true (Nat.le_refl _)] at p2
  obtain ⟨e1, e2⟩ := take_end d m m0
  have p3 := data_ok (takeAt d m (allD d m).length) (by rw [e1]; omega)
  rw [e1, e2] at p3
  have p4 := same1_ok d d (by omega)
  rw [decide_eq_true rfl] at p4
  generalize takeAt d m (allD d m).length = te at L2 p3
  generalize gvAt d m (allD d m).length = ge at L2 p2
  have hsl : AV.sl d.length (((d.flatMap eI).drop 0).take (d.length * 1)) = slI d := is_sl d _ _ rfl (by omega)
  exact pure_of (hs := hint [((1,2), {val := some (bl (false))}), ((5,1000), {loop := some ({ ks := [0, 1, 6], gh := [(5, 1)] }, w1St d q (0 : Nat) (0 : Nat) [], Ex.exit (0 : Nat), w1St d q d.length d.length d)}), ((8,2), {val := some (u16 (q % (300 : Int)))}), ((8,3), {val := some (i64 (q % (300 : Int)))}), ((8,4), {val := some (i64 ((1 : Int) + q % (300 : Int)))}), ((8,5), { sym := true, call := some (.tup [A (giveL ⟨d, 1 + q % 300, 0, true⟩), i64 0]), args := some [slI d, i64 (1 + q % 300)] }), ((13,1000), {loop := some ({ ks := [5, 7, 9, 10], l := [0, 1, 2], mx := [2] }, w2St d { data := d, most := (1 : Int) + q % (300 : Int), at_ := (0 : Int), live := true : Give } { data := [], total := (0 : Int), state := (0 : Int) : Take } (0 : Nat), Ex.exit (2 : Nat), w2Out d ge te)}), ((25,1), {call := some (AV.tup [slI d, i64 (2 : Int)])}), ((26,5), { sym := true, call := some (bl true), args := some [slI d, slI d] }), ((26,9), {call := some (bl true)}), ((26,12), {call := some (bl true)})]) (ps := [bl (decide ((↑d.length : Int) > (400 : Int))) = bl (false), w1St d q (0 : Nat) (0 : Nat) [] = w1St d q (0 : Nat) (0 : Nat) [], _, true = true, u16 (q.tmod (300 : Int)) = u16 (q % (300 : Int)), i64 (IntKind.i64.wrap (q % (300 : Int))) = i64 (q % (300 : Int)), i64 (IntKind.i64.wrap ((1 : Int) + q % (300 : Int))) = i64 ((1 : Int) + q % (300 : Int)), ([(0 : Nat)].all fun (i : Nat) => (Option.map pureB ((fun (j : Nat) => [Bk.arr (d.length * (1 : Nat)) (List.flatMap eI d) (0 : Nat)][j]?) i)).getD false) = true, true = true, _, ([AV.sl (d.length) (List.take (d.length * (1 : Nat)) (List.drop (0 : Nat) (List.flatMap eI d))), i64 ((1 : Int) + q % (300 : Int))] : List AV) = [AV.sl (d.length) (List.flatMap eI d), i64 ((1 : Int) + q % (300 : Int))], w2St d { data := d, most := (1 : Int) + q % (300 : Int), at_ := (0 : Int), live := true : Give } { data := [], total := (0 : Int), state := (0 : Int) : Take } (0 : Nat) = w2St d { data := d, most := (1 : Int) + q % (300 : Int), at_ := (0 : Int), live := true : Give } { data := [], total := (0 : Int), state := (0 : Int) : Take } (0 : Nat), _, true = true, pureB (Bk.arr (d.length * (1 : Nat)) (List.flatMap eI d) (d.length * (1 : Nat))) = true, true = true, _, ([(0 : Nat)].all fun (i : Nat) => (Option.map pureB ((fun (j : Nat) => [Bk.arr (d.length * (1 : Nat)) (List.flatMap eI d) (d.length * (1 : Nat)), Bk.arr (4 : Nat) [AV.sl ge.data.length (List.flatMap eI ge.data), AV.s (Value.int IntKind.i64 ge.most), AV.s (Value.int IntKind.i64 ge.at_), AV.s (Value.bool ge.live)] (0 : Nat), Bk.arr (3 : Nat) [AV.sl te.data.length (List.flatMap eI te.data), AV.s (Value.int IntKind.i64 te.total), AV.s (Value.int IntKind.i64 te.state)] (0 : Nat)][j]?) i)).getD false) = true, true = true, _, ([AV.sl (d.length) (List.flatMap eI d), AV.sl (d.length) (List.take (d.length * (1 : Nat)) (List.drop (0 : Nat) (List.flatMap eI d)))] : List AV) = [AV.sl (d.length) (List.flatMap eI d), AV.sl (d.length) (List.flatMap eI d)], _, _]) (by kernel_rfl) ⟨(bdF (by omega)), rfl, L1, rfl, (intE (Int.tmod_eq_emod_of_nonneg (by omega))), (intE (by exact wrap_i64 (by omega) (by omega))), (intE (by exact wrap_i64 (by omega) (by omega))), (by (first | exact h0 | exact ids_one _ _ _ rfl (is_pureB _ _ _) | exact congrArg (fun x => [x, i64 (1 + q % 300)]) hsl | rfl)), (by (first | exact h0 | exact ids_one _ _ _ rfl (is_pureB _ _ _) | exact congrArg (fun x => [x, i64 (1 + q % 300)]) hsl | rfl)), (h0), (by (first | exact h0 | exact ids_one _ _ _ rfl (is_pureB _ _ _) | exact congrArg (fun x => [x, i64 (1 + q % 300)]) hsl | rfl)), rfl, L2, rfl, (by exact is_pureB _ _ _), rfl, (p3), (by (first | exact p4 | exact ids_one _ _ _ rfl (is_pureB _ _ _) | exact congrArg (fun x => [slI d, x]) hsl | rfl)), (by (first | exact p4 | exact ids_one _ _ _ rfl (is_pureB _ _ _) | exact congrArg (fun x => [slI d, x]) hsl | rfl)), (p4), (by (first | exact p4 | exact ids_one _ _ _ rfl (is_pureB _ _ _) | exact congrArg (fun x => [slI d, x]) hsl | rfl)), (p2), (awake_ok), trivial⟩
theorem whole_law (d : List Int) (hb : ∀ n ∈ d, 0 ≤ n ∧ n ≤ 4294967295) (q : Int) (q0 : 0 ≤ q) (q1 : q ≤ 65535) : Pu 9 [slU d, u16 q] (bl true) := by
  by_cases h : (d.length : Int) > 400
  · exact pure_of (hs := hint [((1,2), {val := some (bl (true))}), ((2,0), {call := some (bl true)})]) (ps := [bl (decide ((↑d.length : Int) > (400 : Int))) = bl (true), _]) (by kernel_rfl) ⟨(bdT (by assumption)), (awake_ok), trivial⟩
  · exact whole_good d q q0 q1 (by omega) hb
end Go.Proofs.Ytpopnaeojjcngaa
