/- Paths. By the prover of this seat. -/
import Derived.Test.YtfalaahbacdbjaaQd
set_option linter.unusedVariables false
set_option linter.unusedSimpArgs false
set_option maxRecDepth 100000
set_option maxHeartbeats 4000000
namespace Go.Proofs.Ytfalaahbacdbjaa
open Go.RowKit Go.Pm
theorem idx_of {α : Type} [Inhabited α] {p : α → Bool} {l : List α} {k : Nat} (h1 : k < l.length) (h2 : p (nth l k) = true) (h3 : ∀ j, j < k → ¬ p (nth l j) = true) : idxD p l = some k := by
  cases h : idxD p l with
  | none => exact absurd h2 (idx_none h k h1)
  | some m =>
    obtain ⟨m1, m2, m3⟩ := idx_some h
    rcases Nat.lt_trichotomy m k with q | q | q
    · exact absurd m2 (h3 m q)
    · rw [q]
    · exact absurd h2 (m3 k q)
theorem nth_app {α : Type} [Inhabited α] (a b : List α) (k : Nat) (hk : k < a.length) : nth (a ++ b) k = nth a k := by
  rw [nth_eq (by rw [List.length_append]; omega), nth_eq hk, List.getElem_append_left hk]
theorem nth_takeA {α : Type} [Inhabited α] (a : List α) (m k : Nat) (hm : m ≤ a.length) (hk : k < m) : nth (a.take m) k = nth a k := by
  rw [nth_eq (by rw [List.length_take]; omega), nth_eq (by omega), List.getElem_take]
theorem hit_zero {l : List Row} (h : LOk l) (n : Nat) : ¬ hitF l n 0 = true := by
  have hw : whoR l 0 n = [] := List.filter_eq_nil_iff.2 fun k _ q => by
    unfold whoP at q
    rw [mask_bad h k 0 (by omega)] at q
    unfold hasN at q
    obtain ⟨i, _, q⟩ := List.any_eq_true.1 q
    rw [bit_test, Nat.zero_testBit, Bool.false_and] at q
    cases q
  unfold hitF
  rw [hw, mask_bad h 0 0 (by omega)]
  intro q
  have : hasN 0 n = true := by simpa using q
  unfold hasN at this
  obtain ⟨i, _, q⟩ := List.any_eq_true.1 this
  rw [bit_test, Nat.zero_testBit, Bool.false_and] at q
  cases q
theorem find_0 {l : List Row} (h : LOk l) (path : List Int) (n : Nat) (h0 : (findR l path n).1 = 0) : (findR l path n).2 = [] := by
  unfold findR at h0 ⊢
  cases hk : idxD (hitF l n) path with
  | none => rfl
  | some k =>
    obtain ⟨k1, k2, _⟩ := idx_some hk
    rw [hk] at h0
    simp only at h0 ⊢
    split at h0
    · rename_i hw
      have h0 : nth path k = 0 := h0
      rw [h0] at k2
      exact absurd k2 (hit_zero h n)
    · rename_i hw
      rw [if_neg hw]
theorem find_at {l : List Row} (path : List Int) (n : Nat) (h0 : ¬ (findR l path n).1 = 0) : ∃ k, k < path.length ∧ idxD (hitF l n) path = some k ∧ 0 < (whoR l (nth path k) n).length ∧ findR l path n = (nth path k, whoR l (nth path k) n) := by
  unfold findR at h0 ⊢
  cases hk : idxD (hitF l n) path with
  | none => rw [hk] at h0; exact absurd rfl h0
  | some k =>
    rw [hk] at h0
    simp only at h0
    split at h0
    · rename_i hw
      exact ⟨k, (idx_some hk).1, rfl, hw, if_pos hw⟩
    · exact absurd rfl h0
theorem find_far {l : List Row} {path : List Int} {n k : Nat} (more : List Int) (hk : idxD (hitF l n) path = some k) : findR l (path ++ more) n = findR l path n := by
  obtain ⟨k1, k2, k3⟩ := idx_some hk
  have : idxD (hitF l n) (path ++ more) = some k := idx_of (by rw [List.length_append]; omega) (by rw [nth_app _ _ _ k1]; exact k2) fun j hj => by rw [nth_app _ _ _ (by omega)]; exact k3 j hj
  unfold findR
  rw [this, hk]
  simp only [nth_app _ _ _ k1]
theorem find_cut {l : List Row} {path : List Int} {n k : Nat} (hk : idxD (hitF l n) path = some k) : findR l (path.take k) n = (0, []) := by
  obtain ⟨k1, k2, k3⟩ := idx_some hk
  have : idxD (hitF l n) (path.take k) = none := by
    cases h : idxD (hitF l n) (path.take k) with
    | none => rfl
    | some m =>
      obtain ⟨m1, m2, _⟩ := idx_some h
      have hm : m < k := by rw [List.length_take] at m1; omega
      rw [nth_takeA _ _ _ (by omega) hm] at m2
      exact absurd m2 (k3 m hm)
  unfold findR
  rw [this]
noncomputable def pmB : Code := loopOf Try.prog 4 7
def pmS (acts : List Act) (path more : List Int) (b p : Int) (k : Nat) : St := ⟨mkT 141 [(0, slA acts), (1, slI path), (2, slI more), (3, u8 b), (9, i64 p), (10, i64 k)], []⟩
theorem pm_step (acts : List Act) (path more : List Int) (b j p p' : Int) (k : Nat) (b0 : 0 ≤ b) (b1 : b ≤ 255) (hj : b.tmod 13 = j) (hj2 : j < 13) (hk : (k : Int) < j) (hp : IntKind.i64.wrap (2 * p) = p') : Tri C0 pmB (pmS acts path more b p k) .normal (pmS acts path more b p' (k + 1)) := by
  exact runF_ok (hs := hint [((7,2), {val := some (i64 (b))}), ((7,3), { val := some (i64 j) }), ((7,4), {val := some (bl (true))}), ((9,1), { val := some (i64 p') }), ((8,1), {val := some (i64 ((↑k : Int) + (1 : Int)))})]) (f := { ks := [0, 1, 2, 3, 9, 10] }) (ps := [i64 (IntKind.i64.wrap b) = i64 (b), i64 (b.tmod (13 : Int)) = i64 (j), bl (decide ((↑k : Int) < j)) = bl (true), i64 (IntKind.i64.wrap ((2 : Int) * p)) = i64 (p'), i64 (IntKind.i64.wrap ((↑k : Int) + (1 : Int))) = i64 ((↑k : Int) + (1 : Int)), true = true]) (by kernel_rfl) ⟨(intE (by exact wrap_i64 (by omega) (by omega))), (by exact intE hj), (bdT (by assumption)), (by exact intE hp), (intE (by exact wrap_i64 (by omega) (by omega))), rfl, trivial⟩
theorem pm_end (acts : List Act) (path more : List Int) (b p : Int) (k : Nat) (b0 : 0 ≤ b) (b1 : b ≤ 255) (hj : b.tmod 13 = (k : Int)) : LoopT C0 pmB (pmS acts path more b p k) (.exit 0) (pmS acts path more b p k) := by
  exact LoopT.fin (hs := hint [((7,2), {val := some (i64 (b))}), ((7,3), { val := some (i64 k) }), ((7,4), {val := some (bl (false))})]) (f := { ks := [0, 1, 2, 3, 9, 10] }) (ps := [i64 (IntKind.i64.wrap b) = i64 (b), i64 (b.tmod (13 : Int)) = i64 ((↑k : Int)), bl (decide ((↑k : Int) < (↑k : Int))) = bl (false), true = true]) (by kernel_rfl) ⟨(intE (by exact wrap_i64 (by omega) (by omega))), (by exact intE hj), (bdF (by omega)), rfl, trivial⟩ (by decide)
noncomputable def paB : Code := loopOf Try.prog 4 18
def paS (l : List Row) (path : List Int) (p id : Int) (k : Nat) : St := ⟨mkT 141 [(1, slI path), (9, i64 p), (11, .ptr 0 0), (14, u32 id), (18, i64 k)], [boxA l]⟩
def paH : St := ⟨mkT 141 [(8, bl true)], []⟩
theorem pa_step (l : List Row) (path : List Int) (p id : Int) (k : Nat) (v q : Int) (hk : k < path.length) (hl : path.length ≤ 20) (hp : p ≠ 0) (hx : ¬ nth path k = id) (hW : Pu 14 [tabC l, u32 (nth path k), i64 p] (slJ [])) (hT : Pu 15 [tabC l, u32 (nth path k)] (i64 v)) (hq : IntKind.i64.wrap (v.tdiv p) = q) (hr : q.tmod 2 = 0) : Tri C0 paB (paS l path p id k) .normal (paS l path p id (k + 1)) := by
  exact runF_ok (hs := hint [((18,3), {val := some (bl (true))}), ((20,2), {cells := some (eI (nth path k) ++ List.flatMap eI (List.drop (k + (1 : Nat)) path)), sym := true}), ((20,5), {val := some (bl (false))}), ((23,3), {cells := some (eI (nth path k) ++ List.flatMap eI (List.drop (k + (1 : Nat)) path)), sym := true}), ((23,6), {call := some ((slJ []))}), ((23,13), {cells := some (eI (nth path k) ++ List.flatMap eI (List.drop (k + (1 : Nat)) path)), sym := true}), ((23,15), {call := some ((i64 v))}), ((23,17), { sym := true, val := some (i64 q) }), ((23,18), { val := some (i64 0) }), ((19,1), {val := some (i64 ((↑k : Int) + (1 : Int)))})]) (f := { ks := [1, 9, 11, 14, 18], l := [0] }) (ps := [bl (decide ((↑k : Int) < (↑path.length : Int))) = bl (true), decide ((0 : Int) ≤ (↑k : Int) ∧ (↑k : Int) < (↑path.length : Int)) = true, ((List.drop ((↑k : Int).toNat * (1 : Nat)) (List.flatMap eI path)) : List AV) = (eI (nth path k) ++ List.flatMap eI (List.drop (k + (1 : Nat)) path)), bl (nth path k == id) = bl (false), decide ((0 : Int) ≤ (↑k : Int) ∧ (↑k : Int) < (↑path.length : Int)) = true, ((List.drop ((↑k : Int).toNat * (1 : Nat)) (List.flatMap eI path)) : List AV) = (eI (nth path k) ++ List.flatMap eI (List.drop (k + (1 : Nat)) path)), _, decide ((0 : Int) ≤ (↑k : Int) ∧ (↑k : Int) < (↑path.length : Int)) = true, ((List.drop ((↑k : Int).toNat * (1 : Nat)) (List.flatMap eI path)) : List AV) = (eI (nth path k) ++ List.flatMap eI (List.drop (k + (1 : Nat)) path)), _, decide (p ≠ (0 : Int)) = true, i64 (IntKind.i64.wrap (v.tdiv p)) = i64 (q), i64 (q.tmod (2 : Int)) = i64 ((0 : Int)), i64 (IntKind.i64.wrap ((↑k : Int) + (1 : Int))) = i64 ((↑k : Int) + (1 : Int)), true = true, true = true]) (by kernel_rfl) ⟨(bdT (by omega)), (by exact decide_t (by omega)), (by exact flat_nth (sz := 1) (k := k) (fun _ => rfl) (by omega)), (beF (by assumption)), (by exact decide_t (by omega)), (by exact flat_nth (sz := 1) (k := k) (fun _ => rfl) (by omega)), (hW), (by exact decide_t (by omega)), (by exact flat_nth (sz := 1) (k := k) (fun _ => rfl) (by omega)), (hT), (by (first | exact intE hq | exact decide_t hp)), (by (first | exact intE hq | exact decide_t hp)), (by exact intE hr), (intE (by exact wrap_i64 (by omega) (by omega))), rfl, rfl, trivial⟩
theorem pa_hit (l : List Row) (path : List Int) (p id : Int) (k : Nat) (hk : k < path.length) (hl : path.length ≤ 20) (hx : nth path k = id) (hN : Pu 11 [tabC l, .sl ((k : Int) - 0).toNat (pieceA 1 0 k (path.flatMap eI)), i64 p] (.tup [u32 0, slJ []])) : LoopT C0 paB (paS l path p id k) .ret paH := by
  exact LoopT.fin (hs := hint [((18,3), {val := some (bl (true))}), ((20,2), {cells := some (eI (nth path k) ++ List.flatMap eI (List.drop (k + (1 : Nat)) path)), sym := true}), ((20,5), {val := some (bl (true))}), ((21,3), {sym := true}), ((21,5), {call := some (AV.tup [(u32 (0 : Int)), (slJ [])])})]) (f := { ks := [8] }) (ps := [bl (decide ((↑k : Int) < (↑path.length : Int))) = bl (true), decide ((0 : Int) ≤ (↑k : Int) ∧ (↑k : Int) < (↑path.length : Int)) = true, ((List.drop ((↑k : Int).toNat * (1 : Nat)) (List.flatMap eI path)) : List AV) = (eI (nth path k) ++ List.flatMap eI (List.drop (k + (1 : Nat)) path)), bl (nth path k == id) = bl (true), (decide ((0 : Int) ≤ (0 : Int) ∧ (0 : Int) ≤ (↑k : Int) ∧ (↑k : Int) ≤ (↑path.length : Int) ∧ (↑path.length : Int) ≤ (↑path.length : Int)) && true) = true, _, true = true]) (by kernel_rfl) ⟨(bdT (by omega)), (by exact decide_t (by omega)), (by exact flat_nth (sz := 1) (k := k) (fun _ => rfl) (by omega)), (beT (by assumption)), (by (simp; omega)), (hN), rfl, trivial⟩ (by decide)
theorem paths_0 (acts : List Act) (path more : List Int) (b p : Int) (j : Nat) (l : List Row) (hl : acts.length ≤ 40) (h1 : path.length ≤ 20) (h2 : more.length ≤ 20) (hP : Pu 10 [slA acts] (playA l)) (L0 : LoopT C0 pmB (pmS acts path more b 1 0) (.exit 0) (pmS acts path more b p j)) (hF : Pu 11 [tabC l, slI path, i64 p] (.tup [u32 0, slJ []])) : Pu 4 [slA acts, slI path, slI more, u8 b] (bl true) := by
  exact pure_of (hs := hint [((1,0), {call := some ((bl true))}), ((3,3), {val := some (bl (false))}), ((3,8), {val := some (bl (false))}), ((3,12), {val := some (bl (false))}), ((7,1000), {loop := some ({ ks := [0, 1, 2, 3, 9, 10] }, pmS acts path more b (1 : Int) (0 : Nat), Ex.exit (0 : Nat), pmS acts path more b p j)}), ((10,1), {call := some ((playA l))}), ((11,3), {call := some (AV.tup [(u32 (0 : Int)), (slJ [])])})]) (ps := [_, bl (decide ((↑acts.length : Int) > (40 : Int))) = bl (false), bl (decide ((↑path.length : Int) > (20 : Int))) = bl (false), bl (decide ((↑more.length : Int) > (20 : Int))) = bl (false), pmS acts path more b (1 : Int) (0 : Nat) = pmS acts path more b (1 : Int) (0 : Nat), _, true = true, _, _]) (by kernel_rfl) ⟨(awake_ok), (bdF (by omega)), (bdF (by omega)), (bdF (by omega)), rfl, L0, rfl, (hP), (hF), trivial⟩
theorem paths_1 (acts : List Act) (path more : List Int) (b p id : Int) (w : List Int) (j : Nat) (l : List Row) (hl : acts.length ≤ 40) (h1 : path.length ≤ 20) (h2 : more.length ≤ 20) (h0 : ¬ id = 0) (hw : 0 < w.length) (hP : Pu 10 [slA acts] (playA l)) (L0 : LoopT C0 pmB (pmS acts path more b 1 0) (.exit 0) (pmS acts path more b p j)) (hF : Pu 11 [tabC l, slI path, i64 p] (.tup [u32 id, slJ w])) (hG : Pu 11 [tabC l, .sl (0 + path.length + more.length) (List.take ((0 + path.length + more.length) * 1) (List.drop 0 ((path ++ more).flatMap eI))), i64 p] (.tup [u32 id, slJ w])) (hS : Pu 13 [slJ w, slJ w] (bl true)) (hW : Pu 14 [tabC l, u32 id, i64 p] (slJ w)) (L : LoopT C0 paB (paS l path p id 0) .ret paH) : Pu 4 [slA acts, slI path, slI more, u8 b] (bl true) := by
  have e1 : (path ++ more).flatMap eI = path.flatMap eI ++ more.flatMap eI := List.flatMap_append
  have e3 : (path.flatMap eI).length = path.length * 1 := row_len (sz := 1) (fun _ => rfl) path
  have e2 : (path.flatMap eI).take (path.length * 1) = path.flatMap eI := List.take_of_length_le (by omega)
  have e5 : (more.flatMap eI).length = more.length * 1 := row_len (sz := 1) (fun _ => rfl) more
  have e4 : (more.flatMap eI).take (more.length * 1) = more.flatMap eI := List.take_of_length_le (by omega)
  exact pure_of (hs := hint [((1,0), {call := some ((bl true))}), ((3,3), {val := some (bl (false))}), ((3,8), {val := some (bl (false))}), ((3,12), {val := some (bl (false))}), ((7,1000), {loop := some ({ ks := [0, 1, 2, 3, 9, 10] }, pmS acts path more b (1 : Int) (0 : Nat), Ex.exit (0 : Nat), pmS acts path more b p j)}), ((10,1), {call := some ((playA l))}), ((11,3), {call := some (AV.tup [(u32 id), (slJ w)])}), ((12,1), {val := some (bl (false))}), ((14,3), { sym := true, cells := some (path.flatMap eI) }), ((14,5), { sym := true, cells := some ((path ++ more).flatMap eI) }), ((14,7), {call := some (AV.tup [(u32 id), (slJ w)]), sym := true}), ((15,3), {val := some (bl (false))}), ((15,6), {call := some ((bl true))}), ((15,14), {call := some ((slJ w))}), ((15,15), {call := some ((bl true))}), ((15,22), {val := some (bl (false))}), ((18,1000), {loop := some ({ ks := [1, 9, 11, 14, 18], l := [0] }, paS l path p id (0 : Nat), Ex.ret, paH)})]) (ps := [_, bl (decide ((↑acts.length : Int) > (40 : Int))) = bl (false), bl (decide ((↑path.length : Int) > (20 : Int))) = bl (false), bl (decide ((↑more.length : Int) > (20 : Int))) = bl (false), pmS acts path more b (1 : Int) (0 : Nat) = pmS acts path more b (1 : Int) (0 : Nat), _, true = true, _, _, bl (id == (0 : Int)) = bl (false), true = true, decide (((0 : Nat) + path.length) * (4 : Nat) ≤ (140737488355328 : Nat)) = true, decide ((List.take (path.length * (1 : Nat)) (List.flatMap eI path)).length = path.length * (1 : Nat)) = true, ((List.take (path.length * (1 : Nat)) (List.flatMap eI path)) : List AV) = (List.flatMap eI path), decide (((0 : Nat) + path.length) * (1 : Nat) = ((0 : Nat) + path.length) * (1 : Nat) ∧ (0 : Nat) ≤ ((0 : Nat) + path.length) * (1 : Nat) ∧ ((0 : Nat) + path.length) * (1 : Nat) = (List.flatMap eI path).length) = true, decide (((0 : Nat) + path.length + more.length) * (4 : Nat) ≤ (140737488355328 : Nat)) = true, decide ((List.take (more.length * (1 : Nat)) (List.flatMap eI more)).length = more.length * (1 : Nat)) = true, ((List.flatMap eI path ++ List.take (more.length * (1 : Nat)) (List.flatMap eI more)) : List AV) = (List.flatMap eI (path ++ more)), ([(3 : Nat)].all fun (i : Nat) => (Option.map pureB ((fun (j : Nat) => [Bk.arr (2 : Nat) [AV.mp (rowsK l), AV.mp (rowsT l)] (0 : Nat), Bk.dead, Bk.dead, Bk.arr (((0 : Nat) + path.length + more.length) * (1 : Nat)) (List.flatMap eI (path ++ more)) (0 : Nat)][j]?) i)).getD false) = true, true = true, _, bl (id != id) = bl (false), _, _, _, bl ((↑w.length : Int) == (0 : Int)) = bl (false), paS l path p id (0 : Nat) = paS l path p id (0 : Nat), _, true = true, true = true]) (by kernel_rfl) ⟨(awake_ok), (bdF (by omega)), (bdF (by omega)), (bdF (by omega)), rfl, L0, rfl, (hP), (hF), (beF (by assumption)), (by (first | rfl | exact e2 | (rw [e2]; exact decide_t e3) | exact decide_t (by omega) | exact decide_t ⟨by omega, by omega, by rw [row_len (sz := 1) (fun _ => rfl)]; omega⟩)), (by (first | rfl | exact e2 | (rw [e2]; exact decide_t e3) | exact decide_t (by omega) | exact decide_t ⟨by omega, by omega, by rw [row_len (sz := 1) (fun _ => rfl)]; omega⟩)), (by (first | rfl | exact e2 | (rw [e2]; exact decide_t e3) | exact decide_t (by omega) | exact decide_t ⟨by omega, by omega, by rw [row_len (sz := 1) (fun _ => rfl)]; omega⟩)), (by (first | rfl | exact e2 | (rw [e2]; exact decide_t e3) | exact decide_t (by omega) | exact decide_t ⟨by omega, by omega, by rw [row_len (sz := 1) (fun _ => rfl)]; omega⟩)), (by (first | exact e1.symm | (rw [e4]; exact e1.symm) | (rw [e4]; exact decide_t e5) | exact decide_t (by omega) | exact decide_t ⟨by omega, by omega, by rw [row_len (sz := 1) (fun _ => rfl)]; omega⟩)), (by (first | exact e1.symm | (rw [e4]; exact e1.symm) | (rw [e4]; exact decide_t e5) | exact decide_t (by omega) | exact decide_t ⟨by omega, by omega, by rw [row_len (sz := 1) (fun _ => rfl)]; omega⟩)), (by (first | exact e1.symm | (rw [e4]; exact e1.symm) | (rw [e4]; exact decide_t e5) | exact decide_t (by omega) | exact decide_t ⟨by omega, by omega, by rw [row_len (sz := 1) (fun _ => rfl)]; omega⟩)), (by (first | exact e1.symm | (rw [e4]; exact e1.symm) | (rw [e4]; exact decide_t e5) | exact decide_t (by omega) | exact decide_t ⟨by omega, by omega, by rw [row_len (sz := 1) (fun _ => rfl)]; omega⟩)), (by exact row_ids (fun _ => rfl) _ _ _ _ _ rfl), rfl, (hG), (neT (by omega)), (hS), (hW), (hS), (beF (by omega)), rfl, L, rfl, rfl, trivial⟩
theorem dbl (k : Nat) (hk : k < 13) : IntKind.i64.wrap (2 * ((2 ^ k : Nat) : Int)) = ((2 ^ (k + 1) : Nat) : Int) := by
  have : 2 ^ k < 8192 := by rw [show 8192 = 2 ^ 13 from rfl]; exact Nat.pow_lt_pow_right (by omega) hk
  rw [Nat.pow_succ]
  generalize 2 ^ k = x at *
  rw [wrap_i64 (by omega) (by omega)]
  omega
theorem bit_quo (v k : Nat) (hv : v < 8192) : IntKind.i64.wrap ((v : Int).tdiv ((2 ^ k : Nat) : Int)) = ((v / 2 ^ k : Nat) : Int) := by
  have h : v / 2 ^ k ≤ v := Nat.div_le_self _ _
  rw [Int.tdiv_eq_ediv_of_nonneg (by omega), show (v : Int) / ((2 ^ k : Nat) : Int) = ((v / 2 ^ k : Nat) : Int) from rfl]
  generalize v / 2 ^ k = n at h ⊢
  rw [wrap_i64 (by omega) (by omega)]
theorem paths_ok (acts : List Act) (ha : ∀ a ∈ acts, AOk a) (path : List Int) (hi : ∀ x ∈ path, 0 ≤ x ∧ x ≤ 4294967295) (more : List Int) (hj : ∀ x ∈ more, 0 ≤ x ∧ x ≤ 4294967295) (b : Int) (b0 : 0 ≤ b) (b1 : b ≤ 255) : Pu 4 [slA acts, slI path, slI more, u8 b] (bl true) := by
  by_cases hl : acts.length ≤ 40
  · by_cases h1 : path.length ≤ 20
    · by_cases h2 : more.length ≤ 20
      · have hP := played_ok acts ha hl
        obtain ⟨q1, q2⟩ := run_ok acts ha hl
        generalize runR acts = l at *
        obtain ⟨j, hb⟩ : ∃ j : Nat, (j : Int) = b.tmod 13 := ⟨(b.tmod 13).toNat, by rw [Int.tmod_eq_emod_of_nonneg b0]; omega⟩
        have hj13 : j < 13 := by rw [Int.tmod_eq_emod_of_nonneg b0] at hb; omega
        have hp : 2 ^ j < 8192 := by rw [show 8192 = 2 ^ 13 from rfl]; exact Nat.pow_lt_pow_right (by omega) hj13
        have hp0 : 0 < 2 ^ j := Nat.pow_pos (by omega)
        have L0 := LoopT.count (fun k => pmS acts path more b ((2 ^ k : Nat) : Int) k) j (fun k hk => pm_step acts path more b j _ _ k b0 b1 hb.symm (by omega) (by omega) (dbl k (by omega))) (pm_end acts path more b _ j b0 b1 hb.symm) 0 (by omega)
        rw [show ((2 ^ 0 : Nat) : Int) = 1 from rfl] at L0
        have hF := pfind_ok l q1 path hi (by omega) ((2 ^ j : Nat) : Int)
        rw [mN_nat _ hp] at hF
        by_cases h0 : (findR l path (2 ^ j)).1 = 0
        · rw [h0, find_0 q1 path _ h0] at hF
          exact paths_0 acts path more b _ j l hl h1 h2 hP L0 hF
        · obtain ⟨k, k1, k2, k3, k4⟩ := find_at path _ h0
          obtain ⟨_, s2, s3⟩ := idx_some k2
          rw [k4] at h0
          have hG := pfind_ok l q1 (path ++ more) (fun x hx => by
            rcases List.mem_append.1 hx with q | q
            · exact hi x q
            · exact hj x q) (by rw [List.length_append]; omega) ((2 ^ j : Nat) : Int)
          rw [mN_nat _ hp, find_far more k2, k4, slI_own (path ++ more) (0 + path.length + more.length) (by rw [List.length_append]; omega)] at hG
          rw [k4] at hF
          have hn := hi _ (nth_mem k1)
          have hW := pwho_ok l q1 (nth path k) ((2 ^ j : Nat) : Int) hn.1 hn.2
          rw [mN_nat _ hp] at hW
          have hS := same_ok (whoR l (nth path k) (2 ^ j)) (by have := who_len l (nth path k) (2 ^ j); omega)
          have hN := pfind_ok l q1 (path.take k) (fun x hx => hi x (List.mem_of_mem_take hx)) (by rw [List.length_take]; omega) ((2 ^ j : Nat) : Int)
          have ec : AV.sl ((k : Int) - 0).toNat (pieceA 1 0 k (path.flatMap eI)) = slI (path.take k) := row_to (enc := eI) (sz := 1) (fun _ => rfl) path (k : Int) (by omega) (by omega)
          rw [mN_nat _ hp, find_cut k2, ← ec] at hN
          have L := LoopT.count (paS l path ((2 ^ j : Nat) : Int) (nth path k)) k (fun i hik => by
            have hn := hi _ (nth_mem (show i < path.length by omega))
            have hno := s3 i hik
            have hx : ¬ nth path i = nth path k := fun q => hno (q ▸ s2)
            obtain ⟨e1, e2⟩ := hit_no hno
            have w := pwho_ok l q1 (nth path i) ((2 ^ j : Nat) : Int) hn.1 hn.2
            rw [mN_nat _ hp, e1] at w
            have st := stopped_ok l q1 (nth path i) hn.1 hn.2
            have hle := maskR_le (fun r hr => (q1.row r hr).2.2.2.2) 0 (nth path i)
            refine pa_step l path _ _ i _ _ (by omega) h1 (by omega) hx w st (bit_quo _ j (by omega)) ?_
            rw [hasN_eq _ _ (by omega), decide_eq_false_iff_not] at e2
            have hb := bit_pow (maskR l 0 (nth path i)) j hj13
            rw [← bit_test] at hb
            unfold bitN at hb
            have hz : ¬ maskR l 0 (nth path i) / 2 ^ j % 2 = 1 := fun q => e2 (hb.2 (decide_eq_true q))
            generalize maskR l 0 (nth path i) / 2 ^ j = v at hz
            rw [Int.tmod_eq_emod_of_nonneg (by omega)]
            omega) (pa_hit l path _ _ k k1 h1 rfl hN) 0 (by omega)
          exact paths_1 acts path more b _ _ _ j l hl h1 h2 h0 k3 hP L0 hF hG hS hW L
      · exact pure_of (hs := hint [((1,0), {call := some ((bl true))}), ((3,3), {val := some (bl (false))}), ((3,8), {val := some (bl (false))}), ((3,12), {val := some (bl (true))})]) (ps := [_, bl (decide ((↑acts.length : Int) > (40 : Int))) = bl (false), bl (decide ((↑path.length : Int) > (20 : Int))) = bl (false), bl (decide ((↑more.length : Int) > (20 : Int))) = bl (true)]) (by kernel_rfl) ⟨(awake_ok), (bdF (by omega)), (bdF (by omega)), (bdT (by omega)), trivial⟩
    · exact pure_of (hs := hint [((1,0), {call := some ((bl true))}), ((3,3), {val := some (bl (false))}), ((3,8), {val := some (bl (true))})]) (ps := [_, bl (decide ((↑acts.length : Int) > (40 : Int))) = bl (false), bl (decide ((↑path.length : Int) > (20 : Int))) = bl (true)]) (by kernel_rfl) ⟨(awake_ok), (bdF (by omega)), (bdT (by omega)), trivial⟩
  · exact pure_of (hs := hint [((1,0), {call := some ((bl true))}), ((3,3), {val := some (bl (true))})]) (ps := [_, bl (decide ((↑acts.length : Int) > (40 : Int))) = bl (true)]) (by kernel_rfl) ⟨(awake_ok), (bdT (by omega)), trivial⟩
end Go.Proofs.Ytfalaahbacdbjaa
