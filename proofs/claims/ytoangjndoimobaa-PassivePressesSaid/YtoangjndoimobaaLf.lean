/- What comes in: grabs, windows, acts. By the prover of this seat. -/
import Derived.Test.YtoangjndoimobaaLe
set_option linter.unusedVariables false
set_option linter.unusedSimpArgs false
set_option maxRecDepth 100000
set_option maxHeartbeats 4000000
namespace Go.Proofs.Ytoangjndoimobaa
open Go.RowKit Go.Pm
def shGrab : Sh := .seq (.int .i64) (.seq (.int .u32) (.seq .bool (.seq (.int .i64) (.seq (.int .i64) (.seq .bool (.seq (.int .i64) (.seq (.int .i64) (.seq (.int .i64) .unit))))))))
theorem fits_grab {cs : List AV} (h : Fits shGrab cs) : ∃ g : Grab, cs = grabL g := by
  obtain ⟨_, _, rfl, ⟨a, rfl, _⟩, _, _, rfl, ⟨b, rfl, _⟩, _, _, rfl, ⟨c, rfl⟩, _, _, rfl, ⟨d, rfl, _⟩, _, _, rfl, ⟨e, rfl, _⟩, _, _, rfl, ⟨f, rfl⟩, _, _, rfl, ⟨g, rfl, _⟩, _, _, rfl, ⟨i, rfl, _⟩, _, _, rfl, ⟨j, rfl, _⟩, rfl⟩ := h
  exact ⟨⟨a, b, c, d, e, f, g, i, j⟩, rfl⟩
theorem fits_ids {cs : List AV} (h : Fits (.sl (.int .u32)) cs) : ∃ l : List Int, cs = [slU l] := by
  obtain ⟨l, h1, _, _⟩ := fits_list (enc := eU) (Q := fun _ => True) (fun cs hc => by obtain ⟨n, rfl, _⟩ := hc; exact ⟨n, rfl, trivial⟩) h
  exact ⟨l, h1⟩
end Go.Proofs.Ytoangjndoimobaa
