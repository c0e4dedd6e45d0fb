/- Turned bytes are the other order's. By the prover of this seat. -/
import Derived.Test.YtjjmidhpilmnbaaDoorKg
set_option linter.unusedVariables false
set_option maxRecDepth 100000
namespace Go.Proofs.YtjjmidhpilmnbaaDoor
open Go.RowKit Go.Pm
def putB (o : Int) (w : Nat) (v : Int) : ByteArray := strA (bytesOf o w v)
theorem turn_bytes (w : Nat) (v : Int) (hw : w = 1 ∨ w = 2 ∨ w = 4) : revB (putB 1 w v) (putB 1 w v).size = putB 0 w v := by
  rcases hw with rfl | rfl | rfl <;> rfl
theorem putB_size (o : Int) (w : Nat) (v : Int) : (putB o w v).size = w := by
  simp [putB, strA, bytesOf, ByteArray.size]
theorem turned_put (w : Nat) (v : Int) (hw : w = 1 ∨ w = 2 ∨ w = 4) : Pu 11 [st (putB 1 w v)] (st (putB 0 w v)) := by
  have h := turned_ok (putB 1 w v) (by rw [putB_size]; omega)
  rwa [turn_bytes w v hw] at h
end Go.Proofs.YtjjmidhpilmnbaaDoor
