/- How many bytes a form has at least, by both. By the prover of this seat. -/
import Derived.Test.YtjgjcpbkmeillaaDoorSy
set_option linter.unusedVariables false
set_option linter.unusedSimpArgs false
set_option maxRecDepth 100000
set_option maxHeartbeats 4000000
namespace Go.Proofs.YtjgjcpbkmeillaaDoor
open Go.RowKit Go.Pm
theorem check_zero {f : Fm} (h : checkD f = 0) : f.fixed.length ≤ 16 ∧ (∀ k, k < f.fixed.length → szB (nth f.fixed k) = true) := by
  have := kno_zero (o := 0) (f := f) (by unfold knoD; rw [if_pos (.inl rfl)]; exact h)
  exact ⟨this.2.1, this.2.2.1⟩
theorem le_loop (f : Fm) (hl : f.fixed.length ≤ 16) (hz : ∀ k, k < f.fixed.length → szB (nth f.fixed k) = true) : LoopT C1 leB (leS f 0 0) (.exit 0) (leS f f.fixed.length (sumW f.fixed f.fixed.length)) :=
  LoopT.count (fun k => leS f k (sumW f.fixed k)) f.fixed.length (fun k hk => by
    have := sumW_le (zs := f.fixed) k (fun j hj => hz j (by omega))
    exact le_step f k (sumW f.fixed k) _ hk hl (by omega) (wd_le (hz k hk)).2 (wide_ok _ (hz k hk))) (le_end f _) 0 (Nat.zero_le _)
theorem lr_loop (f : Fm) (hl : f.fixed.length ≤ 16) (hz : ∀ k, k < f.fixed.length → szB (nth f.fixed k) = true) : LoopT C1 lrB (lrS f 0 0) (.exit 0) (lrS f f.fixed.length (sumW f.fixed f.fixed.length)) :=
  LoopT.count (fun k => lrS f k (sumW f.fixed k)) f.fixed.length (fun k hk => by
    have := sumW_le (zs := f.fixed) k (fun j hj => hz j (by omega))
    exact lr_step f k (sumW f.fixed k) _ hk hl (by omega) (wd_le (hz k hk)).2 (rbytes_ok _ (hz k hk))) (lr_end f _) 0 (Nat.zero_le _)
theorem lp_loop (f : Fm) : ∀ (q n : Nat), n ≤ 1000 → (n + q) % 4 = 0 → q < 4 → LoopT C1 lpB (lpS f n) (.exit 2) (lpS f (n + q))
  | 0, n, h1, h2, h3 => lp_end f n (by omega) h2
  | q + 1, n, h1, h2, h3 => by
    have h : ¬ n % 4 = 0 := by omega
    by_cases hq : q = 0
    · subst hq
      exact LoopT.next (lp_step f n (by omega) h) (lp_end f (n + 1) (by omega) h2)
    · by_cases hq1 : q = 1
      · subst hq1
        exact LoopT.next (lp_step f n (by omega) h) (LoopT.next (lp_step f (n + 1) (by omega) (by omega)) (lp_end f (n + 2) (by omega) h2))
      · obtain rfl : q = 2 := by omega
        exact LoopT.next (lp_step f n (by omega) h) (LoopT.next (lp_step f (n + 1) (by omega) (by omega)) (LoopT.next (lp_step f (n + 2) (by omega) (by omega)) (lp_end f (n + 3) (by omega) h2)))
theorem least_ok (f : Fm) : Pu 16 [fmA f] (i64 (leastD f)) := by
  have h := fc_ok f
  unfold leastD
  by_cases h0 : checkD f = 0
  · rw [if_pos h0]
    rw [h0] at h
    obtain ⟨hl, hz⟩ := check_zero h0
    have L := le_loop f hl hz
    have hs := sumW_le (zs := f.fixed) f.fixed.length hz
    have hp := pad_ok (sumW f.fixed f.fixed.length)
    rw [padD_nat] at hp
    have hp3 := padN_le (sumW f.fixed f.fixed.length)
    cases hb : f.bytes with
    | false =>
      by_cases hL : f.list = 0
      · rw [if_pos hL]; exact least_00 f (sumW f.fixed f.fixed.length) (padN (sumW f.fixed f.fixed.length)) (by omega) hp3 h hp hb hL L
      · rw [if_neg hL]; exact least_01 f (sumW f.fixed f.fixed.length) (padN (sumW f.fixed f.fixed.length)) (by omega) hp3 h hp hb hL L
    | true =>
      by_cases hL : f.list = 0
      · rw [if_pos hL]; exact least_10 f (sumW f.fixed f.fixed.length) (padN (sumW f.fixed f.fixed.length)) (by omega) hp3 h hp hb hL L
      · rw [if_neg hL]; exact least_11 f (sumW f.fixed f.fixed.length) (padN (sumW f.fixed f.fixed.length)) (by omega) hp3 h hp hb hL L
  · rw [if_neg h0]
    exact least_e f _ h0 h
theorem rleast_ok (f : Fm) : Pu 17 [fmA f] (i64 (leastD f)) := by
  have h := rc_ok f
  unfold leastD
  by_cases h0 : checkD f = 0
  · rw [if_pos h0]
    rw [h0] at h
    obtain ⟨hl, hz⟩ := check_zero h0
    have L := lr_loop f hl hz
    have hs := sumW_le (zs := f.fixed) f.fixed.length hz
    have hp3 := padN_le (sumW f.fixed f.fixed.length)
    have L2 := lp_loop f (padN (sumW f.fixed f.fixed.length)) (sumW f.fixed f.fixed.length) (by omega) (by unfold padN; omega) (by omega)
    cases hb : f.bytes with
    | false =>
      by_cases hL : f.list = 0
      · rw [if_pos hL]; exact rleast_00 f (sumW f.fixed f.fixed.length + padN (sumW f.fixed f.fixed.length)) (sumW f.fixed f.fixed.length) (by omega) (by omega) h hb hL L L2
      · rw [if_neg hL]; exact rleast_01 f (sumW f.fixed f.fixed.length + padN (sumW f.fixed f.fixed.length)) (sumW f.fixed f.fixed.length) (by omega) (by omega) h hb hL L L2
    | true =>
      by_cases hL : f.list = 0
      · rw [if_pos hL]; exact rleast_10 f (sumW f.fixed f.fixed.length + padN (sumW f.fixed f.fixed.length)) (sumW f.fixed f.fixed.length) (by omega) (by omega) h hb hL L L2
      · rw [if_neg hL]; exact rleast_11 f (sumW f.fixed f.fixed.length + padN (sumW f.fixed f.fixed.length)) (sumW f.fixed f.fixed.length) (by omega) (by omega) h hb hL L L2
  · rw [if_neg h0]
    exact rleast_e f _ h0 h
end Go.Proofs.YtjgjcpbkmeillaaDoor
