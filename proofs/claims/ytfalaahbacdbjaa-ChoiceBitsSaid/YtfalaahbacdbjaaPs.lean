/- Drop's closures. By the prover of this seat. -/
import Derived.Test.YtfalaahbacdbjaaPr
set_option linter.unusedVariables false
set_option linter.unusedSimpArgs false
set_option maxRecDepth 100000
set_option maxHeartbeats 4000000
namespace Go.Proofs.Ytfalaahbacdbjaa
open Go.RowKit Go.Pm
/-- the windows that are gone, each once -/
def rowG (x : Int) : AV × AV := rowM (fun y : Int => y) ekS (fun _ => bl true) x
theorem look_g (g : List Int) (b : Int) : lookV false (mfind (g.map rowG) (u32 b)) (bl false) = bl (decide (b ∈ g)) := by
  rw [show g.map rowG = g.map (rowM (fun y : Int => y) ekS (fun _ => bl true)) from rfl, show u32 b = ekS b from rfl, mfind_row ke_s]
  unfold findM
  by_cases h : b ∈ g
  · rw [decide_eq_true h]
    cases hf : g.find? (fun x => decide (x = b)) with
    | none => exact absurd (decide_eq_true rfl) (List.find?_eq_none.1 hf b h)
    | some y => rfl
  · rw [decide_eq_false h]
    have : g.find? (fun x => decide (x = b)) = none := List.find?_eq_none.2 fun x hx q => h (by simp only [decide_eq_true_eq] at q; exact q ▸ hx)
    rw [this]; rfl
theorem clo34 (g : List Int) (hg : ∀ x ∈ g, 0 ≤ x ∧ x ≤ 4294967295) (x v : Int) (hx : kwf Try.prog 33 (u32 x) = true) : Pu 34 [u32 x, i64 v, .fptr [.mp (g.map rowG)]] (bl (decide (x ∈ g))) := by
  have q2 : allK Try.prog 33 (g.map rowG) = true := allK_row fun y hy => kwfS (hg y hy).1 (hg y hy).2
  have q3 := look_g g x
  exact pure_of (hs := hint [((1,2), { sym := true, val := some (bl (decide (x ∈ g))) })]) (ps := [true = true, kwf Try.prog (33 : Nat) (AV.s (Value.int IntKind.u32 x)) = true, allK Try.prog (33 : Nat) (List.map rowG g) = true, (match mfind (List.map rowG g) (AV.s (Value.int IntKind.u32 x)) with
  | some v => if false = true then AV.tup [v, AV.s (Value.bool true)] else v
  | none => if false = true then AV.tup [ofV (Value.bool false), AV.s (Value.bool false)] else ofV (Value.bool false)) = bl (decide (x ∈ g))]) (by kernel_rfl) ⟨(by (first | assumption | exact q3 | rfl)), (by (first | assumption | exact q3 | rfl)), (by (first | assumption | exact q3 | rfl)), (by (first | assumption | exact q3 | rfl)), trivial⟩
theorem clo32_y (g : List Int) (c a b v : Int) (h : a = c) : Pu 32 [A [i64 a, u32 b], i64 v, .fptr [i64 c], .fptr [.mp (g.map rowG)]] (bl true) := by
  exact pure_of (hs := hint [((1,4), {val := some (bl (true))})]) (ps := [bl (a == c) = bl (true)]) (by kernel_rfl) ⟨(beT (by assumption)), trivial⟩
theorem clo32_n (g : List Int) (hg : ∀ x ∈ g, 0 ≤ x ∧ x ≤ 4294967295) (c a b v : Int) (h : ¬ a = c) (hx : kwf Try.prog 33 (u32 b) = true) : Pu 32 [A [i64 a, u32 b], i64 v, .fptr [i64 c], .fptr [.mp (g.map rowG)]] (bl (decide (b ∈ g))) := by
  have q2 : allK Try.prog 33 (g.map rowG) = true := allK_row fun y hy => kwfS (hg y hy).1 (hg y hy).2
  have q3 := look_g g b
  exact pure_of (hs := hint [((1,4), {val := some (bl (false))}), ((1,8), { sym := true, val := some (bl (decide (b ∈ g))) })]) (ps := [bl (a == c) = bl (false), true = true, kwf Try.prog (33 : Nat) (AV.s (Value.int IntKind.u32 b)) = true, allK Try.prog (33 : Nat) (List.map rowG g) = true, (match mfind (List.map rowG g) (AV.s (Value.int IntKind.u32 b)) with
  | some v => if false = true then AV.tup [v, AV.s (Value.bool true)] else v
  | none => if false = true then AV.tup [ofV (Value.bool false), AV.s (Value.bool false)] else ofV (Value.bool false)) = bl (decide (b ∈ g))]) (by kernel_rfl) ⟨(beF (by assumption)), (by (first | assumption | exact q3 | rfl)), (by (first | assumption | exact q3 | rfl)), (by (first | assumption | exact q3 | rfl)), (by (first | assumption | exact q3 | rfl)), trivial⟩
end Go.Proofs.Ytfalaahbacdbjaa
