/- What comes in: numbers, rows, pieces. By the prover of this seat. -/
import Derived.Test.YtpopnaeojjcngaaMg
set_option linter.unusedVariables false
set_option linter.unusedSimpArgs false
set_option maxRecDepth 100000
set_option maxHeartbeats 4000000
namespace Go.Proofs.Ytpopnaeojjcngaa
open Go.RowKit Go.Pm
theorem fits_i64 {cs : List AV} (h : Fits (.int .i64) cs) : ∃ n : Int, cs = [i64 n] ∧ -9223372036854775808 ≤ n ∧ n ≤ 9223372036854775807 := by
  obtain ⟨n, rfl, hw⟩ := h
  simp [Lit.wf, IntKind.min, IntKind.max, IntKind.signed, IntKind.bits] at hw
  exact ⟨n, rfl, by omega, by omega⟩
theorem fits_u8 {cs : List AV} (h : Fits (.int .u8) cs) : ∃ n : Int, cs = [u8 n] ∧ 0 ≤ n ∧ n ≤ 255 := by
  obtain ⟨n, rfl, hw⟩ := h
  simp [Lit.wf, IntKind.min, IntKind.max, IntKind.signed, IntKind.bits] at hw
  exact ⟨n, rfl, by omega, by omega⟩
theorem fits_u16 {cs : List AV} (h : Fits (.int .u16) cs) : ∃ n : Int, cs = [u16 n] ∧ 0 ≤ n ∧ n ≤ 65535 := by
  obtain ⟨n, rfl, hw⟩ := h
  simp [Lit.wf, IntKind.min, IntKind.max, IntKind.signed, IntKind.bits] at hw
  exact ⟨n, rfl, by omega, by omega⟩
theorem fits_nums {cs : List AV} (h : Fits (.sl (.int .i64)) cs) : ∃ l : List Int, cs = [slI l] := by
  obtain ⟨l, h1, _, _⟩ := fits_list (enc := eI) (Q := fun _ => True) (fun cs hc => by obtain ⟨n, rfl, _⟩ := hc; exact ⟨n, rfl, trivial⟩) h
  exact ⟨l, h1⟩
theorem fits_u32s {cs : List AV} (h : Fits (.sl (.int .u32)) cs) : ∃ l : List Int, cs = [slU l] ∧ ∀ n ∈ l, 0 ≤ n ∧ n ≤ 4294967295 := by
  obtain ⟨l, h1, _, h2⟩ := fits_list (enc := eU) (Q := fun n => 0 ≤ n ∧ n ≤ 4294967295) (fun cs hc => by
    obtain ⟨n, rfl, hw⟩ := hc
    simp [Lit.wf, IntKind.min, IntKind.max, IntKind.signed, IntKind.bits] at hw
    exact ⟨n, rfl, by omega, by omega⟩) h
  exact ⟨l, h1, h2⟩
def shPiece : Sh := .seq .bool (.seq (.int .i64) (.seq (.sl (.int .i64)) (.seq .bool .unit)))
theorem fits_piece {cs : List AV} (h : Fits shPiece cs) : ∃ p : Piece, cs = pieceL p := by
  obtain ⟨_, _, rfl, ⟨a, rfl⟩, _, _, rfl, ⟨t, rfl, _⟩, _, _, rfl, h3, _, _, rfl, ⟨b, rfl⟩, rfl⟩ := h
  obtain ⟨l, rfl⟩ := fits_nums h3
  exact ⟨⟨a, t, l, b⟩, rfl⟩
theorem fits_pieces {cs : List AV} (h : Fits (.sl shPiece) cs) : ∃ l : List Piece, cs = [slP l] := by
  obtain ⟨l, h1, _, _⟩ := fits_list (enc := pieceL) (Q := fun _ => True) (fun cs hc => by obtain ⟨p, rfl⟩ := fits_piece hc; exact ⟨p, rfl, trivial⟩) h
  exact ⟨l, h1⟩
end Go.Proofs.Ytpopnaeojjcngaa
