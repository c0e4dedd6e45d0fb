/- What a tree keeps. By the prover of this seat. -/
import Derived.Test.YtcnlgdbmcdlknaaDoorRa
set_option linter.unusedVariables false
set_option linter.unusedSimpArgs false
set_option maxRecDepth 100000
set_option maxHeartbeats 4000000
namespace Go.Proofs.YtcnlgdbmcdlknaaDoor.Tr
open Go.RowKit Go.Pm
theorem kids_len {K : List Kid} {U : List Up} (h : TOk K U) (p : Int) : (kidsD K p).length ≤ U.length := by
  unfold kidsD
  cases hq : findM Kid.p K p with
  | none => simp
  | some y => exact h.few y (findM_some hq).1
theorem has_none {U : List Up} {id : Int} (h : ¬ hasD U id = true) : ∀ y ∈ U, y.id ≠ id := by
  intro y hy e
  rw [Bool.not_eq_true] at h
  unfold hasD at h
  rw [Bool.or_eq_false_iff] at h
  cases hq : findM Up.id U id with
  | none =>
    have := List.find?_eq_none.1 hq y hy
    simp [e] at this
  | some z => rw [hq] at h; exact absurd h.1 (by simp)
theorem add_keeps {K : List Kid} {U : List Up} (h : TOk K U) {id p : Int} (i0 : 0 ≤ id) (i1 : id ≤ 4294967295) (p0 : 0 ≤ p) (p1 : p ≤ 4294967295) : TOk (addD K U id p).1 (addD K U id p).2.1 := by
  unfold addD
  split
  · exact h
  · split
    · exact h
    · rename_i c1
      split
      · exact h
      · split
        · exact h
        · rename_i c3
          have hk := kids_len h p
          have hn := has_none c1
          refine ⟨⟨List.pairwise_append.2 ⟨h.up.1, List.pairwise_singleton .., fun a ha b hb => ?_⟩, fun x hx => ?_⟩, ⟨apart_put h.kid.1 _, fun x hx => ?_⟩, fun x hx => ?_⟩
          · rw [List.mem_singleton] at hb
            subst hb
            exact hn a ha
          · rcases List.mem_append.1 hx with hx | hx
            · exact h.up.2 x hx
            · rw [List.mem_singleton] at hx; subst hx; exact ⟨i0, i1⟩
          · rcases mem_putM hx with rfl | ⟨hx, _⟩
            · refine ⟨p0, p1, by simp, ?_⟩
              simp only [List.length_append, List.length_singleton]
              omega
            · exact h.kid.2 x hx
          · rcases mem_putM hx with rfl | ⟨hx, _⟩
            · simp only [List.length_append, List.length_singleton]
              omega
            · have := h.few x hx
              simp only [List.length_append, List.length_singleton]
              omega
end Go.Proofs.YtcnlgdbmcdlknaaDoor.Tr
