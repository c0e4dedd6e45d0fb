/- The law Gets. By the prover of this seat. -/
import Derived.Test.YtjgjcpbkmeillaaDoorTo
import Derived.Test.YtjgjcpbkmeillaaDoorTi
set_option linter.unusedVariables false
set_option linter.unusedSimpArgs false
set_option maxRecDepth 100000
set_option maxHeartbeats 4000000
namespace Go.Proofs.YtjgjcpbkmeillaaDoor
open Go.RowKit Go.Pm
theorem gets_ok (o : Int) (f : Fm) (s : ByteArray) : Pu 4 [i64 o, fmA f, st s] (bl true) := by
  have P := pget_ok o f s
  have R := rget_ok o f s
  have S := rsame_self _ (get_light o f s).1 (get_light o f s).2
  by_cases h1 : s.size > 5000
  · by_cases h2 : s.size ≤ 65536
    · exact gets_mid o f s h1 h2
    · by_cases h3 : s.size > 70000
      · exact gets_big o f s h3
      · by_cases hl : f.fixed.length > 30
        · exact gets_longb o f s h1 h2 h3 hl
        · exact gets_mainb o f s h1 h2 h3 hl _ _ P R S
  · by_cases hl : f.fixed.length > 30
    · exact gets_longa o f s h1 hl
    · exact gets_maina o f s h1 hl _ _ P R S
end Go.Proofs.YtjgjcpbkmeillaaDoor
