/- The example. By the prover of this seat. -/
import Derived.Test.YtjgjcpbkmeillaaDoorTd
import Derived.Test.YtjgjcpbkmeillaaDoorTj
set_option linter.unusedVariables false
set_option linter.unusedSimpArgs false
set_option maxRecDepth 100000
set_option maxHeartbeats 4000000
namespace Go.Proofs.YtjgjcpbkmeillaaDoor
open Go.RowKit Go.Pm
def exF : Fm := ⟨[2, -1], true, 0⟩
def exX : Fl := ⟨[258, -1], ⟨#[97, 98]⟩, []⟩
def exS : ByteArray := ⟨#[1, 2, 255, 0, 0, 0, 0, 2, 97, 98, 0, 0]⟩
theorem ex_put : putF 1 exF exX = (exS, 0) := by kernel_rfl
theorem ex_get : getF 1 exF exS = (exX, 0) := by kernel_rfl
theorem ex_least : leastD exF = 8 := by kernel_rfl
theorem awake_ok : Pu 9 [] (bl true) := by
  have P : Pu 11 [i64 1, fmA exF, flA exX] (.tup [st exS, i64 0]) := by have := pput_ok 1 exF exX; rw [ex_put] at this; exact this
  have G : Pu 18 [i64 1, fmA exF, st exS] (.tup [flA exX, i64 0]) := by have := pget_ok 1 exF exS; rw [ex_get] at this; exact this
  have E : Pu 16 [fmA exF] (i64 8) := by have := least_ok exF; rw [ex_least] at this; exact this
  exact pure_of (hs := hint [((2,3), {call := some (AV.tup [(st exS), (i64 (0 : Int))])}), ((3,2), {call := some (AV.tup [(flA exX), (i64 (0 : Int))])}), ((4,37), {call := some ((i64 (8 : Int)))})]) (ps := [_, _, _]) (by kernel_rfl) ⟨(P), (G), (E), trivial⟩
end Go.Proofs.YtjgjcpbkmeillaaDoor
