/- The machine of plain values: a slice is nil or not. By the prover of this seat. -/
import Derived.Test.YtjjmidhpilmnbaaDoorPm28
set_option linter.unusedVariables false
namespace Go.Pm
open Go Go.RowKit
theorem VR.split {M : Mem} {ρ : Nm} {n : Nat} {cs : List AV} {v : Value} (h : VR M ρ (.sl n cs) v) : VR M ρ (.sx n cs) v ∨ (v = .slice none 0 0 ∧ n = 0 ∧ cs = []) := by
  cases h with
  | sl_e a b =>
    rename_i A cap
    cases A with
    | none =>
      obtain rfl := b rfl
      obtain rfl := Nat.le_zero.1 a
      exact .inr ⟨rfl, rfl, rfl⟩
    | some A => exact .inl (.sx_e a)
  | sl f a b d => exact .inl (.sx f a b d)
/-- a function upon one slice: the slice is nil or not -/
theorem pure_nil1 {P : Program} {G : Nat → Option (List AV)} {f : FuncId} {n : Nat} {cs : List AV} {r : AV} (h1 : Pure P G f [.sx n cs] r []) (h2 : n = 0 → cs = [] → Pure P G f [.s (.slice none 0 0)] r []) : Pure P G f [.sl n cs] r [] := by
  refine ⟨h1.1, fun w0 ρ M W vals hw hg hargs => ?_⟩
  obtain ⟨v, us, rfl, q1, q2⟩ := hargs.inv_cons
  obtain rfl : us = [] := by have := q2.len; cases us <;> simp at this; rfl
  rcases q1.split with q | ⟨rfl, rfl, rfl⟩
  · exact h1.2 w0 ρ M W _ hw hg (.cons q .nil)
  · exact (h2 rfl rfl).2 w0 ρ M W _ hw hg (.cons (.s _ _) .nil)
end Go.Pm
