/- The law Puts. By the prover of this seat. -/
import Derived.Test.YtjgjcpbkmeillaaDoorTo
import Derived.Test.YtjgjcpbkmeillaaDoorSx
set_option linter.unusedVariables false
set_option linter.unusedSimpArgs false
set_option maxRecDepth 100000
set_option maxHeartbeats 4000000
namespace Go.Proofs.YtjgjcpbkmeillaaDoor
open Go.RowKit Go.Pm
theorem puts_ok (o : Int) (f : Fm) (x : Fl) : Pu 3 [i64 o, fmA f, flA x] (bl true) := by
  rcases light_or x with hd | ⟨hd, h1, h2, h3⟩
  · exact puts_dark o f x hd
  · by_cases hl : f.fixed.length > 30
    · exact puts_long o f x hd hl
    · exact puts_main o f x hd hl _ _ _ _ (pput_ok o f x) (rput_ok o f x) (fc_ok f) (rc_ok f) (least_ok f) (rleast_ok f)
end Go.Proofs.YtjgjcpbkmeillaaDoor
