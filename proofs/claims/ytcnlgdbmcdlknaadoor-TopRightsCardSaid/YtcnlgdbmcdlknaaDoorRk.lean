/- All rounds of selecting; all windows of a client. By the prover of this seat. -/
import Derived.Test.YtcnlgdbmcdlknaaDoorRj
set_option linter.unusedVariables false
set_option linter.unusedSimpArgs false
set_option maxRecDepth 100000
set_option maxHeartbeats 4000000
namespace Go.Proofs.YtcnlgdbmcdlknaaDoor.Tr
open Go.RowKit Go.Pm Go.Proofs.YtcnlgdbmcdlknaaDoor.Ch
def SOk (S : List Sel) : Prop := ∀ s ∈ S, 0 ≤ s.c ∧ s.c ≤ 255 ∧ 0 ≤ s.on ∧ s.on ≤ 255
theorem selI_mem {ids : List Int} {s : Sel} (h : 1 ≤ ids.length) : selI ids s ∈ ids := by
  unfold selI
  have h1 := Int.emod_nonneg s.on (b := (ids.length : Int)) (by omega)
  have h2 := Int.emod_lt_of_pos s.on (b := (ids.length : Int)) (by omega)
  exact nth_mem (by omega)
theorem andI_want {m : Int} (h0 : 0 ≤ m) (h1 : m ≤ 8191) : (andI m 2048 = 0) ↔ ¬ wantB m = true := by
  have h := andI_nat m.toNat 2048 (by omega) (by omega)
  rw [show ((m.toNat : Nat) : Int) = m by omega] at h
  rw [show (((2048 : Nat) : Int)) = 2048 from rfl] at h
  unfold wantB
  rw [h, decide_eq_true_eq]
  constructor
  · intro q z; exact z (by omega)
  · intro q
    have := Classical.not_not.1 q
    omega
theorem ts_any (n : Int) (K : List Kid) (U : List Up) (ids : List Int) (S : List Sel) (l : List Row) (R : List Rd) (k : Nat) (hS : S.length ≤ 10) (hk : k < S.length) (ho : SOk S) (hi : ids.length ≤ 100) (hi0 : 1 ≤ ids.length) (hids : ∀ a ∈ ids, 1 ≤ a ∧ a ≤ 4294967295) (h : RI k l R) : Tri CT tsB (tsS n K U ids S l R k) .normal (tsS n K U ids S (selD ids l R (nth S k)).1 (selD ids l R (nth S k)).2 (k + 1)) := by
  obtain ⟨c0, c1, o0, o1⟩ := ho _ (nth_mem hk)
  obtain ⟨i0, i1⟩ := hids _ (selI_mem (s := nth S k) hi0)
  have hR : ∀ x ∈ R, 0 ≤ x.id ∧ x.id ≤ 4294967295 := fun x hx => ⟨(h.red x hx).1, (h.red x hx).2.1⟩
  have hs : PT 7 [tabC l, i64 (selC (nth S k)), u32 (selI ids (nth S k)), i64 (nth S k).m] (outA (setD l (selC (nth S k)) (selI ids (nth S k)) (nth S k).m).1 (setD l (selC (nth S k)) (selI ids (nth S k)) (nth S k).m).2) := lift (pset_ok l h.row (selC (nth S k)) (selI ids (nth S k)) (nth S k).m (by omega) i1)
  have hv := rd_look R (selI ids (nth S k))
  unfold selD
  by_cases hz : (setD l (selC (nth S k)) (selI ids (nth S k)) (nth S k).m).2 = 0
  · rw [if_neg (fun q => q hz)]
    rw [hz] at hs
    obtain ⟨-, m0, m1, -⟩ := setD_zero hz
    have hw := andI_want m0 m1
    simp only
    by_cases hw1 : wantB (nth S k).m = true
    · rw [if_pos hw1]
      have hm := mput_row (ev := evR) ke_U h.apart (⟨selI ids (nth S k), selC (nth S k)⟩ : Rd)
      rcases no_other h hz hw1 with q | q
      · exact ts_w0 n K U ids S l _ R _ k hk hS hi hi0 c0 c1 o0 o1 _ _ _ _ rfl rfl rfl rfl (by show 0 ≤ selI ids (nth S k); omega) i1 hR hs _ _ rfl hv (fun z => hw.1 z hw1) q hm
      · by_cases q0 : rdD R (selI ids (nth S k)) = 0
        · exact ts_w0 n K U ids S l _ R _ k hk hS hi hi0 c0 c1 o0 o1 _ _ _ _ rfl rfl rfl rfl (by show 0 ≤ selI ids (nth S k); omega) i1 hR hs _ _ rfl hv (fun z => hw.1 z hw1) q0 hm
        · exact ts_w1 n K U ids S l _ R _ k hk hS hi hi0 c0 c1 o0 o1 _ _ _ _ rfl rfl rfl rfl (by show 0 ≤ selI ids (nth S k); omega) i1 hR hs _ _ rfl hv (fun z => hw.1 z hw1) q0 q hm
    · rw [if_neg hw1]
      by_cases hr : rdD R (selI ids (nth S k)) = selC (nth S k)
      · rw [if_pos hr]
        have hm := mput_row (ev := evR) ke_U h.apart (⟨selI ids (nth S k), 0⟩ : Rd)
        exact ts_n0 n K U ids S l _ R _ k hk hS hi hi0 c0 c1 o0 o1 _ _ _ _ rfl rfl rfl rfl (by show 0 ≤ selI ids (nth S k); omega) i1 hR hs _ _ rfl hv (hw.2 hw1) hr hm
      · rw [if_neg hr]
        exact ts_n1 n K U ids S l _ R R k hk hS hi hi0 c0 c1 o0 o1 _ _ _ _ rfl rfl rfl rfl (by show 0 ≤ selI ids (nth S k); omega) i1 hR hs _ _ rfl hv (hw.2 hw1) hr
  · rw [if_pos hz]
    exact ts_err n K U ids S l _ R R k hk hS hi hi0 c0 c1 o0 o1 _ _ _ _ rfl rfl rfl rfl (by show 0 ≤ selI ids (nth S k); omega) i1 hR _ hz hs
/-- behind k rounds -/
def selN (ids : List Int) (S : List Sel) : Nat → List Row × List Rd
  | 0 => ([], [])
  | k + 1 => selD ids (selN ids S k).1 (selN ids S k).2 (nth S k)
theorem sel_keeps (ids : List Int) (S : List Sel) (ho : SOk S) (hS : S.length ≤ 10) (hi0 : 1 ≤ ids.length) (hids : ∀ a ∈ ids, 1 ≤ a ∧ a ≤ 4294967295) : ∀ k, k ≤ S.length → RI k (selN ids S k).1 (selN ids S k).2
  | 0, _ => RI.nil 0
  | k + 1, h => (sel_keeps ids S ho hS hi0 hids k (by omega)).next (by omega) (hids _ (selI_mem hi0)) (ho _ (nth_mem (by omega))).1
theorem ts_all (n : Int) (K : List Kid) (U : List Up) (ids : List Int) (S : List Sel) (hS : S.length ≤ 10) (ho : SOk S) (hi : ids.length ≤ 100) (hi0 : 1 ≤ ids.length) (hids : ∀ a ∈ ids, 1 ≤ a ∧ a ≤ 4294967295) : LoopT CT tsB (tsS n K U ids S [] [] 0) (.exit 0) (tsS n K U ids S (selN ids S S.length).1 (selN ids S S.length).2 S.length) :=
  LoopT.count (fun k => tsS n K U ids S (selN ids S k).1 (selN ids S k).2 k) S.length (fun k hk => ts_any n K U ids S _ _ k hS hk ho hi hi0 hids (sel_keeps ids S ho hS hi0 hids k (by omega))) (ts_end n K U ids S _ _) 0 (by omega)
/-! rules of numbers -/
def rootF : Fa := ⟨false, true, false, false, false⟩
theorem rule_rng (n : Int) : 0 ≤ ruleD n ∧ ruleD n ≤ 8 := by
  unfold ruleD
  split
  · omega
  · rename_i h
    have h59 : ∀ k : Nat, k < 59 → 0 ≤ ruleN k ∧ ruleN k ≤ 8 := by decide
    exact h59 n.toNat (by omega)
def mayR (r : Int) : Bool := decide (r = 1 ∨ r = 3 ∨ r = 5 ∨ r = 6)
theorem may_root (n : Int) : PT 11 [i64 n, faA rootF] (bl (mayR (ruleD n))) := by
  have h := rule_ok n
  obtain ⟨r0, r1⟩ := rule_rng n
  generalize ruleD n = r at h r0 r1
  have : r = 0 ∨ r = 1 ∨ r = 2 ∨ r = 3 ∨ r = 4 ∨ r = 5 ∨ r = 6 ∨ r = 7 ∨ r = 8 := by omega
  rcases this with rfl | rfl | rfl | rfl | rfl | rfl | rfl | rfl | rfl
  · exact may_r_0 n h
  · exact may_r_1 n h
  · exact may_r_2 n h
  · exact may_r_3 n h
  · exact may_r_4 n h
  · exact may_r_5 n h
  · exact may_r_6 n h
  · exact may_r_7 n h
  · exact may_r_8 n h
def spec (n : Int) : Prop := n = 0 ∨ n = 1 ∨ (13 ≤ n ∧ n ≤ 16) ∨ n = 53
theorem rule_in : ∀ k : Nat, k < 59 → (ruleN k ≠ 0) ∧ (k = 0 → ruleN k = 5) ∧ ((k = 0 ∨ k = 1 ∨ (13 ≤ k ∧ k ≤ 16) ∨ k = 53) ↔ (ruleN k = 3 ∨ ruleN k = 5 ∨ ruleN k = 6)) := by decide
theorem rule_spec (n : Int) : (spec n ↔ (ruleD n = 3 ∨ ruleD n = 5 ∨ ruleD n = 6)) ∧ (1 ≤ n ∧ n ≤ 58 → ruleD n ≠ 0) ∧ (¬ (1 ≤ n ∧ n ≤ 58) → ruleD n = 0 ∨ (ruleD n = 5 ∧ n = 0)) := by
  unfold ruleD spec
  by_cases h : n < 0 ∨ n > 58
  · rw [if_pos h]
    refine ⟨⟨fun q => by omega, fun q => by omega⟩, fun q => by omega, fun q => .inl rfl⟩
  · rw [if_neg h]
    obtain ⟨a, b, c⟩ := rule_in n.toNat (by omega)
    obtain ⟨k, rfl⟩ : ∃ k : Nat, n = (k : Int) := ⟨n.toNat, by omega⟩
    rw [Int.toNat_natCast] at a b c ⊢
    refine ⟨Iff.trans ⟨fun q => by omega, fun q => by omega⟩ c, fun _ => a, fun q => .inr ⟨b (by omega), by omega⟩⟩
/-! whose an id is -/
theorem mine_id {c x : Int} (h : x = 1 ∨ (1 ≤ x / 1048576 ∧ x / 1048576 ≤ 3 ∧ ¬ x % 1048576 = 0)) (hc : 1 ≤ c) : mineD c x = decide (x / 1048576 = c) := by
  unfold mineD clientD
  rcases h with rfl | h
  · rw [if_pos rfl, show ((1 : Int) / 1048576) = 0 from rfl, decide_eq_false (p := (0 : Int) = c) (by omega)]
    simp
  · rw [if_neg (by intro q; subst q; omega), if_neg h.2.2, if_pos (by omega)]
    have h1 := h.1
    rw [Bool.true_and, decide_eq_true (p := x / 1048576 ≠ 0) (by omega), Bool.true_and]
theorem ids_own {k : Nat} {K : List Kid} {U : List Up} {ids : List Int} (h : MI k K U ids) : ∀ x ∈ ids, x = 1 ∨ (1 ≤ x / 1048576 ∧ x / 1048576 ≤ 3 ∧ ¬ x % 1048576 = 0) := by
  intro x hx
  rw [h.row] at hx
  rcases List.mem_cons.1 hx with hx | hx
  · exact .inl hx
  · obtain ⟨y, hy, rfl⟩ := List.mem_map.1 hx
    exact .inr (h.own y hy)
theorem up_none {k : Nat} {K : List Kid} {U : List Up} {ids : List Int} (h : MI k K U ids) : findM Up.id U 1 = none := by
  unfold findM
  refine List.find?_eq_none.2 fun x hx q => ?_
  have := h.own x hx
  simp only [decide_eq_true_eq] at q
  rw [q] at this
  omega
theorem up_some {k : Nat} {K : List Kid} {U : List Up} {ids : List Int} (h : MI k K U ids) {x : Int} (hx : x ∈ ids) (h1 : ¬ x = 1) : ∃ y ∈ U, findM Up.id U x = some y ∧ y.id = x := by
  rw [h.row] at hx
  rcases List.mem_cons.1 hx with hx | hx
  · exact absurd hx h1
  · obtain ⟨y, hy, rfl⟩ := List.mem_map.1 hx
    cases hq : findM Up.id U y.id with
    | none =>
      have := List.find?_eq_none.1 hq y hy
      simp at this
    | some z => exact ⟨z, List.mem_of_find?_eq_some hq, rfl, by simpa using List.find?_some hq⟩
theorem look_up (U : List Up) (x : Int) : lookV false (mfind (U.map rowU) (u32 x)) (u32 0) = u32 (((findM Up.id U x).map Up.up).getD 0) := by
  rw [show (u32 x) = ekU x from rfl, mfind_row ke_U]
  cases findM Up.id U x <;> rfl
end Go.Proofs.YtcnlgdbmcdlknaaDoor.Tr
