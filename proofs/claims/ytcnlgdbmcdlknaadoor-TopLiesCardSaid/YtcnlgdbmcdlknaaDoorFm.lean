/- A number, and noughts, written behind. By the prover of this seat. -/
import Derived.Test.YtcnlgdbmcdlknaaDoorFlq
set_option linter.unusedVariables false
set_option linter.unusedSimpArgs false
set_option maxRecDepth 100000
set_option maxHeartbeats 4000000
namespace Go.Proofs.YtcnlgdbmcdlknaaDoor.Fo
open Go.RowKit Go.Pm
end Go.Proofs.YtcnlgdbmcdlknaaDoor.Fo
