/- The bytes of a number, upon plain values. By the prover of this seat. -/
import Derived.Test.YtcnlgdbmcdlknaaDoorFb
set_option linter.unusedVariables false
set_option linter.unusedSimpArgs false
set_option maxRecDepth 100000
set_option maxHeartbeats 4000000
namespace Go.Proofs.YtcnlgdbmcdlknaaDoor.Fo
open Go.RowKit Go.Pm
def bytesOf (o : Int) (w : Nat) (v : Int) : List AV := (List.range w).map fun k => byteV v (if o = 1 then w - 1 - k else k)
end Go.Proofs.YtcnlgdbmcdlknaaDoor.Fo
