/- All windows of all clients. By the prover of this seat. -/
import Derived.Test.YtcnlgdbmcdlknaaDoorRk
set_option linter.unusedVariables false
set_option linter.unusedSimpArgs false
set_option maxRecDepth 100000
set_option maxHeartbeats 4000000
namespace Go.Proofs.YtcnlgdbmcdlknaaDoor.Tr
open Go.RowKit Go.Pm Go.Proofs.YtcnlgdbmcdlknaaDoor.Ch
def inB (n : Int) : Bool := decide (1 ≤ n ∧ n ≤ 58)
theorem ti_root {kk : Nat} {K : List Kid} {U : List Up} {ids : List Int} (hM : MI kk K U ids) {j : Nat} {l : List Row} {R : List Rd} (h : RI j l R) (n c : Int) (c1 : 1 ≤ c) (c4 : c ≤ 4) (k : Nat) (hk : k < ids.length) (h1 : nth ids k = 1) : Tri CT tiB (tiS n (inB n) K U ids l R c k) .normal (tiS n (inB n) K U ids l R c (k + 1)) := by
  have hi : ids.length ≤ 100 := by have := hM.rng.1; have := hM.few; omega
  have hU := hM.tree.up.2
  have hR : ∀ x ∈ R, 0 ≤ x.id ∧ x.id ≤ 4294967295 := fun x hx => ⟨(h.red x hx).1, (h.red x hx).2.1⟩
  have hn := up_none hM
  have hu : lookV false (mfind (U.map rowU) (u32 1)) (u32 0) = u32 0 := by rw [look_up, hn]; rfl
  have hof := of_root K U hM.tree.up l h.row c c1 (by omega) hn
  have hv := rd_look R 0
  have hv1 := rd_look R 1
  have ht := h.tell c 1 c1 c4
  have g1 : ¬ (0 : Int) = c := by omega
  by_cases g5 : rdD R 1 = c
  · exact ti_d n _ K U ids l R c c1 c4 k hk hi hU hR 1 0 0 0 h1 (by omega) (by omega) rfl (by omega) (by omega) rfl hu _ hof _ _ hv hv1 g1 rfl g5
  · rw [show (decide (¬ maskR l c 1 &&& 2048 = 0)) = false from decide_eq_false fun q => g5 (ht.2 q)] at hof
    have hm := may_root n
    have hF := fault_ok n
    obtain ⟨s1, s2, s3⟩ := rule_spec n
    obtain ⟨r0, r1⟩ := rule_rng n
    unfold faultD at hF
    unfold mayR at hm
    by_cases hs : spec n
    · have hr := s1.1 hs
      rw [decide_eq_true (by omega)] at hm
      by_cases hb : 1 ≤ n ∧ n ≤ 58
      · rw [if_neg (by omega), if_neg (by omega)] at hF
        rw [show inB n = true from decide_eq_true hb]
        exact ti_k n K U ids l R c c1 c4 k hk hi hU hR 1 0 0 0 h1 (by omega) (by omega) rfl (by omega) (by omega) rfl hu _ hof _ _ hv hv1 g1 rfl g5 hs hF hm
      · rw [show inB n = false from decide_eq_false hb]
        exact ti_l n K U ids l R c c1 c4 k hk hi hU hR 1 0 0 0 h1 (by omega) (by omega) rfl (by omega) (by omega) rfl hu _ hof _ _ hv hv1 g1 rfl g5 hs hm
    · have hr : ¬ (ruleD n = 3 ∨ ruleD n = 5 ∨ ruleD n = 6) := fun q => hs (s1.2 q)
      unfold spec at hs
      by_cases hb : 1 ≤ n ∧ n ≤ 58
      · have h0 := s2 hb
        rw [show inB n = true from decide_eq_true hb]
        by_cases hr1 : ruleD n = 1
        · rw [decide_eq_true (by omega)] at hm
          rw [if_neg (by omega), if_pos hr1] at hF
          exact ti_h n K U ids l R c c1 c4 k hk hi hU hR 1 0 0 0 h1 (by omega) (by omega) rfl (by omega) (by omega) rfl hu _ hof _ _ hv hv1 g1 rfl g5 (by omega) (by omega) (by omega) (by omega) hF hm
        · rw [decide_eq_false (by omega)] at hm
          rw [if_neg (by omega), if_neg hr1] at hF
          exact ti_i n K U ids l R c c1 c4 k hk hi hU hR 1 0 0 0 h1 (by omega) (by omega) rfl (by omega) (by omega) rfl hu _ hof _ _ hv hv1 g1 rfl g5 (by omega) (by omega) (by omega) (by omega) hF hm
      · have h0 := s3 hb
        rw [decide_eq_false (by omega)] at hm
        rw [show inB n = false from decide_eq_false hb]
        exact ti_j n K U ids l R c c1 c4 k hk hi hU hR 1 0 0 0 h1 (by omega) (by omega) rfl (by omega) (by omega) rfl hu _ hof _ _ hv hv1 g1 rfl g5 (by omega) (by omega) (by omega) (by omega) hm
theorem ti_kid {kk : Nat} {K : List Kid} {U : List Up} {ids : List Int} (hM : MI kk K U ids) {j : Nat} {l : List Row} {R : List Rd} (h : RI j l R) (n c : Int) (c1 : 1 ≤ c) (c4 : c ≤ 4) (k : Nat) (hk : k < ids.length) (h1 : ¬ nth ids k = 1) : Tri CT tiB (tiS n (inB n) K U ids l R c k) .normal (tiS n (inB n) K U ids l R c (k + 1)) := by
  have hi : ids.length ≤ 100 := by have := hM.rng.1; have := hM.few; omega
  have hU := hM.tree.up.2
  have hR : ∀ x ∈ R, 0 ≤ x.id ∧ x.id ≤ 4294967295 := fun x hx => ⟨(h.red x hx).1, (h.red x hx).2.1⟩
  have hmem := nth_mem hk
  obtain ⟨d0, d1⟩ := hM.rng.2 _ hmem
  obtain ⟨y, hy, hf, hyi⟩ := up_some hM hmem h1
  have hup := (hM.up y hy).2
  obtain ⟨u0, u1⟩ := hM.rng.2 _ hup
  have hu : lookV false (mfind (U.map rowU) (u32 (nth ids k))) (u32 0) = u32 y.up := by rw [look_up, hf]; rfl
  have hof := of_up K U hM.tree.up l h.row c (nth ids k) c1 (by omega) (by omega) d1 y hf (by omega) u1
  have hv := rd_look R y.up
  have hv1 := rd_look R 1
  have ht := h.tell c y.up c1 c4
  have ho := ids_own hM
  have m1 := mine_id (ho _ hmem) c1
  have m2 := mine_id (ho _ hup) c1
  by_cases g1 : nth ids k / 1048576 = c
  · exact ti_a n _ K U ids l R c c1 c4 k hk hi hU hR _ _ _ _ rfl d0 d1 rfl (by omega) u1 rfl hu _ hof _ _ hv hv1 g1
  · by_cases g3 : y.up / 1048576 = c
    · exact ti_b n _ K U ids l R c c1 c4 k hk hi hU hR _ _ _ _ rfl d0 d1 rfl (by omega) u1 rfl hu _ hof _ _ hv hv1 g1 h1 g3
    · by_cases g4 : rdD R y.up = c
      · exact ti_c n _ K U ids l R c c1 c4 k hk hi hU hR _ _ _ _ rfl d0 d1 rfl (by omega) u1 rfl hu _ hof _ _ hv hv1 g1 h1 g3 g4
      · have hz : (⟨mineD c (nth ids k), decide (nth ids k = 1), decide (¬ maskR l c y.up &&& 2048 = 0), mineD c y.up, false⟩ : Fa) = noneF := by
          rw [m1, m2, decide_eq_false g1, decide_eq_false g3, decide_eq_false h1, decide_eq_false (fun q => g4 (ht.2 q))]
          rfl
        rw [hz] at hof
        have hm := may_none n _ (rule_ok n)
        have hF := fault_ok n
        obtain ⟨s1, s2, s3⟩ := rule_spec n
        unfold faultD at hF
        by_cases hb : 1 ≤ n ∧ n ≤ 58
        · have h0 := s2 hb
          rw [show inB n = true from decide_eq_true hb]
          by_cases hr1 : ruleD n = 1
          · rw [decide_eq_true hr1] at hm
            rw [if_neg (by omega), if_pos hr1] at hF
            exact ti_e n K U ids l R c c1 c4 k hk hi hU hR _ _ _ _ rfl d0 d1 rfl (by omega) u1 rfl hu _ hof _ _ hv hv1 g1 h1 g3 g4 hF hm
          · rw [decide_eq_false hr1] at hm
            rw [if_neg (by omega), if_neg hr1] at hF
            exact ti_f n K U ids l R c c1 c4 k hk hi hU hR _ _ _ _ rfl d0 d1 rfl (by omega) u1 rfl hu _ hof _ _ hv hv1 g1 h1 g3 g4 hF hm
        · have h0 := s3 hb
          rw [decide_eq_false (by omega)] at hm
          rw [show inB n = false from decide_eq_false hb]
          exact ti_g n K U ids l R c c1 c4 k hk hi hU hR _ _ _ _ rfl d0 d1 rfl (by omega) u1 rfl hu _ hof _ _ hv hv1 g1 h1 g3 g4 hm
theorem ti_all {kk : Nat} {K : List Kid} {U : List Up} {ids : List Int} (hM : MI kk K U ids) {j : Nat} {l : List Row} {R : List Rd} (h : RI j l R) (n c : Int) (c1 : 1 ≤ c) (c4 : c ≤ 4) : LoopT CT tiB (tiS n (inB n) K U ids l R c 0) (.exit 4) (tiS n (inB n) K U ids l R c ids.length) :=
  LoopT.count (fun k => tiS n (inB n) K U ids l R c k) ids.length (fun k hk => by
    by_cases h1 : nth ids k = 1
    · exact ti_root hM h n c c1 c4 k hk h1
    · exact ti_kid hM h n c c1 c4 k hk h1) (ti_end n _ K U ids l R c) 0 (by omega)
theorem tc_one {kk : Nat} {K : List Kid} {U : List Up} {ids : List Int} (hM : MI kk K U ids) {j : Nat} {l : List Row} {R : List Rd} (h : RI j l R) (n c : Int) (c1 : 1 ≤ c) (c4 : c ≤ 4) : Tri CT tcB (tcS n (inB n) K U ids l R c) .normal (tcS n (inB n) K U ids l R (c + 1)) := by
  have hR : ∀ x ∈ R, 0 ≤ x.id ∧ x.id ≤ 4294967295 := fun x hx => ⟨(h.red x hx).1, (h.red x hx).2.1⟩
  have L := ti_all hM h n c c1 c4
  have hof := of_root K U hM.tree.up l h.row c c1 (by omega) (up_none hM)
  have ht := h.tell c 1 c1 c4
  by_cases g : rdD R 1 = c
  · rw [decide_eq_true (ht.1 g)] at hof
    exact tc_t n _ K U ids l R c c1 c4 hR L _ (rd_look R 1) hof (may_rm_8 56 rule_56) g
  · rw [decide_eq_false (fun q => g (ht.2 q))] at hof
    exact tc_f n _ K U ids l R c c1 c4 hR L _ (rd_look R 1) hof (may_r_8 56 rule_56) g
theorem tc_all {kk : Nat} {K : List Kid} {U : List Up} {ids : List Int} (hM : MI kk K U ids) {j : Nat} {l : List Row} {R : List Rd} (h : RI j l R) (n : Int) : LoopT CT tcB (tcS n (inB n) K U ids l R 1) (.exit 2) (tcS n (inB n) K U ids l R 5) :=
  LoopT.next (tc_one hM h n 1 (by omega) (by omega)) (LoopT.next (tc_one hM h n 2 (by omega) (by omega)) (LoopT.next (tc_one hM h n 3 (by omega) (by omega)) (LoopT.next (tc_one hM h n 4 (by omega) (by omega)) (tc_end n _ K U ids l R))))
end Go.Proofs.YtcnlgdbmcdlknaaDoor.Tr
