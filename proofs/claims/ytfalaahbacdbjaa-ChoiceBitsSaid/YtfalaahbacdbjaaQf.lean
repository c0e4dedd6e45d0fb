/- What comes in. By the prover of this seat. -/
import Derived.Test.YtfalaahbacdbjaaQe
set_option linter.unusedVariables false
set_option linter.unusedSimpArgs false
set_option maxRecDepth 100000
set_option maxHeartbeats 4000000
namespace Go.Proofs.Ytfalaahbacdbjaa
open Go.RowKit Go.Pm
theorem fits_u32 {cs : List AV} (h : Fits (.int .u32) cs) : ∃ n : Int, cs = [u32 n] ∧ 0 ≤ n ∧ n ≤ 4294967295 := by
  obtain ⟨n, rfl, hw⟩ := h
  simp [Lit.wf, IntKind.min, IntKind.max, IntKind.signed, IntKind.bits] at hw
  exact ⟨n, rfl, by omega, by omega⟩
theorem fits_i64 {cs : List AV} (h : Fits (.int .i64) cs) : ∃ n : Int, cs = [i64 n] ∧ -9223372036854775808 ≤ n ∧ n ≤ 9223372036854775807 := by
  obtain ⟨n, rfl, hw⟩ := h
  simp [Lit.wf, IntKind.min, IntKind.max, IntKind.signed, IntKind.bits] at hw
  exact ⟨n, rfl, by omega, by omega⟩
theorem fits_u8 {cs : List AV} (h : Fits (.int .u8) cs) : ∃ n : Int, cs = [u8 n] ∧ 0 ≤ n ∧ n ≤ 255 := by
  obtain ⟨n, rfl, hw⟩ := h
  simp [Lit.wf, IntKind.min, IntKind.max, IntKind.signed, IntKind.bits] at hw
  exact ⟨n, rfl, by omega, by omega⟩
theorem fits_u16 {cs : List AV} (h : Fits (.int .u16) cs) : ∃ n : Int, cs = [u16 n] ∧ 0 ≤ n ∧ n ≤ 65535 := by
  obtain ⟨n, rfl, hw⟩ := h
  simp [Lit.wf, IntKind.min, IntKind.max, IntKind.signed, IntKind.bits] at hw
  exact ⟨n, rfl, by omega, by omega⟩
theorem fits_ids {cs : List AV} (h : Fits (.sl (.int .u32)) cs) : ∃ l : List Int, cs = [slI l] ∧ ∀ x ∈ l, 0 ≤ x ∧ x ≤ 4294967295 := by
  obtain ⟨l, h1, _, h2⟩ := fits_list (enc := eI) (Q := fun x => 0 ≤ x ∧ x ≤ 4294967295) (fun cs hc => by obtain ⟨n, rfl, a, b⟩ := fits_u32 hc; exact ⟨n, rfl, a, b⟩) h
  exact ⟨l, h1, h2⟩
def shAct : Sh := .seq (.int .i64) (.seq (.int .i64) (.seq (.int .u32) (.seq (.int .i64) .unit)))
theorem fits_act {cs : List AV} (h : Fits shAct cs) : ∃ a : Act, cs = actL a ∧ AOk a := by
  obtain ⟨_, _, rfl, h1, _, _, rfl, h2, _, _, rfl, h3, _, _, rfl, h4, rfl⟩ := h
  obtain ⟨a1, rfl, _⟩ := fits_i64 h1
  obtain ⟨a2, rfl, c1, c2⟩ := fits_i64 h2
  obtain ⟨a3, rfl, p, q⟩ := fits_u32 h3
  obtain ⟨a4, rfl, _⟩ := fits_i64 h4
  exact ⟨⟨a1, a2, a3, a4⟩, rfl, ⟨c1, c2⟩, p, q⟩
theorem fits_acts {cs : List AV} (h : Fits (.sl shAct) cs) : ∃ l : List Act, cs = [slA l] ∧ ∀ a ∈ l, AOk a := by
  obtain ⟨l, h1, _, h2⟩ := fits_list (enc := actL) (Q := AOk) (fun cs hc => by obtain ⟨a, rfl, p⟩ := fits_act hc; exact ⟨a, rfl, p⟩) h
  exact ⟨l, h1, h2⟩
end Go.Proofs.Ytfalaahbacdbjaa
