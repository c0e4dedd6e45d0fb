/- Claims' rows. By the prover of this seat. -/
import Derived.Test.YtdcoomeagbjhlaaVc
set_option linter.unusedVariables false
set_option linter.unusedSimpArgs false
set_option maxRecDepth 100000
set_option maxHeartbeats 4000000
namespace Go.Proofs.Ytdcoomeagbjhlaa.Cl
open Go.RowKit Go.Pm
def rpS (l : List Rec) (x : Rec) (k m : Nat) (ks : List Rec) : St := ⟨mkT 32 [(0, slE recL l), (3, .ptr 0 0), (5, .osl 1 0 m 4), (6, i64 k)], [.arr 4 (recL x) 0, .arr (m * 4) (ks.flatMap recL) 0]⟩
def apartF (a : Int) (x : Rec) : List Rec := if x.sel = a then [] else [x]
theorem apart_le (a : Int) (x : Rec) : (apartF a x).length ≤ 1 := by unfold apartF; split <;> simp
theorem drop_flat (l : List Rec) (a : Int) : l.flatMap (apartF a) = dropM Rec.sel l a := by
  unfold dropM
  induction l with
  | nil => rfl
  | cons x l ih =>
    rw [List.flatMap_cons, List.filter_cons, ih]
    by_cases h : x.sel = a <;> simp [apartF, h]
end Go.Proofs.Ytdcoomeagbjhlaa.Cl
