/- A number put down as bytes, upon plain values. By the prover of this seat. -/
import Derived.Test.YtcnlgdbmcdlknaaDoorFc
set_option linter.unusedVariables false
set_option linter.unusedSimpArgs false
set_option maxRecDepth 100000
set_option maxHeartbeats 4000000
namespace Go.Proofs.YtcnlgdbmcdlknaaDoor.Fo
open Go.RowKit Go.Pm
def s0 : AV := st ⟨#[]⟩
theorem byteV_u8 (v : Int) (j : Nat) : isU8 (byteV v j) = true := by
  simp only [byteV, isU8, IntKind.wrap, IntKind.signed, IntKind.bits]
  simp
  omega
theorem bytesOf_u8 (o : Int) (w : Nat) (v : Int) : (bytesOf o w v).all isU8 = true := by
  simp [bytesOf, byteV_u8]
theorem known_wide {n : Int} {s : Span} (h : knownD n = some s) : ∃ w : Nat, (w = 1 ∨ w = 2 ∨ w = 4) ∧ s.wide w ∧ s.size = n := by
  unfold knownD at h
  split at h
  · cases h; exact ⟨1, by simp, .inl rfl, by simp [*]⟩
  · split at h
    · cases h; exact ⟨2, by simp, .inl rfl, by simp [*]⟩
    · split at h
      · cases h; exact ⟨4, by simp, .inl rfl, by simp [*]⟩
      · split at h
        · cases h; exact ⟨1, by simp, .inr rfl, by simp [*]⟩
        · split at h
          · cases h; exact ⟨2, by simp, .inr rfl, by simp [*]⟩
          · split at h
            · cases h; exact ⟨4, by simp, .inr rfl, by simp [*]⟩
            · cases h
/-! the padding -/
def padD (n : Int) : Int := if n < 0 then 0 else (4 - n.tmod 4).tmod 4
end Go.Proofs.YtcnlgdbmcdlknaaDoor.Fo
