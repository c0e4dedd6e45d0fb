/- Handed over: the shapes of what comes in. By the prover of this seat. -/
import Derived.Test.YtdcoomeagbjhlaaWj
set_option linter.unusedVariables false
set_option linter.unusedSimpArgs false
set_option maxRecDepth 100000
set_option maxHeartbeats 4000000
namespace Go.Proofs.Ytdcoomeagbjhlaa
open Go.RowKit Go.Pm
theorem fits_u32 {cs : List AV} (h : Fits (.int .u32) cs) : ∃ n : Int, cs = [u32 n] ∧ 0 ≤ n ∧ n ≤ 4294967295 := by
  obtain ⟨n, rfl, hw⟩ := h
  simp [Lit.wf, IntKind.min, IntKind.max, IntKind.signed, IntKind.bits] at hw
  exact ⟨n, rfl, by omega, by omega⟩
theorem fits_i64 {cs : List AV} (h : Fits (.int .i64) cs) : ∃ n : Int, cs = [i64 n] ∧ -9223372036854775808 ≤ n ∧ n ≤ 9223372036854775807 := by
  obtain ⟨n, rfl, hw⟩ := h
  simp [Lit.wf, IntKind.min, IntKind.max, IntKind.signed, IntKind.bits] at hw
  exact ⟨n, rfl, by omega, by omega⟩
theorem fits_u8 {cs : List AV} (h : Fits (.int .u8) cs) : ∃ n : Int, cs = [u8 n] ∧ 0 ≤ n ∧ n ≤ 255 := by
  obtain ⟨n, rfl, hw⟩ := h
  simp [Lit.wf, IntKind.min, IntKind.max, IntKind.signed, IntKind.bits] at hw
  exact ⟨n, rfl, by omega, by omega⟩
theorem fits_ids {cs : List AV} (h : Fits (.sl (.int .u32)) cs) : ∃ l : List Int, cs = [slU l] ∧ ∀ x ∈ l, 0 ≤ x ∧ x ≤ 4294967295 := by
  obtain ⟨l, h1, _, h2⟩ := fits_list (enc := eU) (Q := fun x => 0 ≤ x ∧ x ≤ 4294967295) (fun cs hc => by obtain ⟨n, rfl, a, b⟩ := fits_u32 hc; exact ⟨n, rfl, a, b⟩) h
  exact ⟨l, h1, h2⟩
theorem fits_bl {cs : List AV} (h : Fits .bool cs) : ∃ b : Bool, cs = [bl b] := h
def shMw : Sh := .seq (.int .u8) (.seq .bool (.seq (.int .u32) .unit))
theorem fits_mw {cs : List AV} (h : Fits shMw cs) : ∃ a : Mw, cs = mwL a ∧ MOk a := by
  obtain ⟨_, _, rfl, h1, _, _, rfl, h2, _, _, rfl, h3, rfl⟩ := h
  obtain ⟨a1, rfl, p1, q1⟩ := fits_u8 h1
  obtain ⟨a2, rfl⟩ := fits_bl h2
  obtain ⟨a3, rfl, p3, q3⟩ := fits_u32 h3
  exact ⟨⟨a1, a2, a3⟩, rfl, p1, q1, p3, q3⟩
theorem fits_mws {cs : List AV} (h : Fits (.sl shMw) cs) : ∃ l : List Mw, cs = [slM l] ∧ ∀ a ∈ l, MOk a := by
  obtain ⟨l, h1, _, h2⟩ := fits_list (enc := mwL) (Q := MOk) (fun cs hc => by obtain ⟨a, rfl, p⟩ := fits_mw hc; exact ⟨a, rfl, p⟩) h
  exact ⟨l, h1, h2⟩
end Go.Proofs.Ytdcoomeagbjhlaa
