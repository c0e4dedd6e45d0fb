/- What is wrong with fields, by the program: whole. What a number's bytes are like. By the prover of this seat. -/
import Derived.Test.YtcnlgdbmcdlknaaDoorFp
set_option linter.unusedVariables false
set_option linter.unusedSimpArgs false
set_option maxRecDepth 100000
set_option maxHeartbeats 4000000
namespace Go.Proofs.YtcnlgdbmcdlknaaDoor.Fo
open Go.RowKit Go.Pm
theorem nth_range (n k : Nat) (h : k < n) : nth (List.range n) k = k := by rw [nth_eq (by rw [List.length_range]; exact h), List.getElem_range]
theorem put_sz {o z v : Int} (h : (putD o z v).2 = 0) : (putD o z v).1.size = wdD z ∧ 1 ≤ wdD z ∧ wdD z ≤ 4 ∧ (o = 0 ∨ o = 1) ∧ szB z = true := by
  unfold putD at h ⊢
  by_cases ho : o ≠ 0 ∧ o ≠ 1
  · rw [if_pos ho] at h; cases h
  · rw [if_neg ho] at h ⊢
    cases hk : knownD z with
    | none => rw [hk] at h; cases h
    | some s =>
      rw [hk] at h
      simp only at h ⊢
      by_cases hh : hasD s v = true
      · rw [if_pos hh] at h ⊢
        refine ⟨?_, ?_, ?_, by omega, by unfold szB; rw [hk]; rfl⟩
        · have e : s.wd = wdD z := by
            rcases known_cases hk with ⟨rfl, rfl⟩ | ⟨rfl, rfl⟩ | ⟨rfl, rfl⟩ | ⟨rfl, rfl⟩ | ⟨rfl, rfl⟩ | ⟨rfl, rfl⟩ <;> rfl
          rw [← e]
          exact put_size o v s.wd
        all_goals (rcases known_cases hk with ⟨rfl, _⟩ | ⟨rfl, _⟩ | ⟨rfl, _⟩ | ⟨rfl, _⟩ | ⟨rfl, _⟩ | ⟨rfl, _⟩ <;> decide)
      · rw [if_neg hh] at h; cases h
end Go.Proofs.YtcnlgdbmcdlknaaDoor.Fo
