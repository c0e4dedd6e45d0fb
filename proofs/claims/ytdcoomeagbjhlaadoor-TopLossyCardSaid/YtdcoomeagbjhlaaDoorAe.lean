/- Put, by the program and by the reference: one answer. By the prover of this seat. -/
import Derived.Test.YtdcoomeagbjhlaaDoorAd
set_option linter.unusedVariables false
set_option linter.unusedSimpArgs false
set_option maxRecDepth 100000
set_option maxHeartbeats 4000000
namespace Go.Proofs.YtdcoomeagbjhlaaDoor.Or
open Go.RowKit Go.Pm
theorem wrap_small {n : Int} (h0 : -9223372036854775808 ≤ n) (h : n ≤ 9223372036854775807) : IntKind.i64.wrap n = n := by
  simp only [IntKind.wrap, IntKind.signed, IntKind.bits]
  simp
  omega
theorem i64_wrap {k : Int} (h0 : -9223372036854775808 ≤ k) (h : k ≤ 9223372036854775807) : i64 (IntKind.i64.wrap k) = i64 k := by rw [wrap_small h0 h]
def putB (o : Int) (w : Nat) (v : Int) : ByteArray := strA (bytesOf o w v)
theorem putB_size (o : Int) (w : Nat) (v : Int) : (putB o w v).size = w := by
  simp [putB, strA, bytesOf, ByteArray.size]
theorem strA_size (l : List AV) : (strA l).size = l.length := by simp [strA, ByteArray.size]
theorem strA_app (a b : List AV) : strA a ++ strA b = strA (a ++ b) := by
  apply ByteArray.ext
  simp [strA, ByteArray.data_append]
theorem nil_app (b : ByteArray) : (ByteArray.mk (Array.mk [])) ++ b = b := by
  apply ByteArray.ext
  simp [ByteArray.data_append]
theorem isU8_mod (n : Int) : isU8 (AV.s (.int .u8 (n % 256))) = true := by
  simp only [isU8]; simp; omega
theorem byteV_eq (v : Int) (j : Nat) (hj : j < 8) : byteV v j = u8 ((v % 18446744073709551616) / 2 ^ (8 * j) % 256) := by
  rw [byteV, wrap_u8_mod, wrap_u64_mod, show min (8 * j) 64 = 8 * j by omega, Int.fdiv_eq_ediv_of_nonneg _ (by exact Int.pow_nonneg (by omega))]

theorem known_cases {n : Int} {s : Span} (h : knownD n = some s) : (n = 1 ∧ s = ⟨1, 0, 255⟩) ∨ (n = 2 ∧ s = ⟨2, 0, 65535⟩) ∨ (n = 4 ∧ s = ⟨4, 0, 4294967295⟩) ∨ (n = -1 ∧ s = ⟨-1, -128, 127⟩) ∨ (n = -2 ∧ s = ⟨-2, -32768, 32767⟩) ∨ (n = -4 ∧ s = ⟨-4, -2147483648, 2147483647⟩) := by
  unfold knownD at h
  split at h
  · cases h; exact .inl ⟨by assumption, rfl⟩
  · split at h
    · cases h; exact .inr (.inl ⟨by assumption, rfl⟩)
    · split at h
      · cases h; exact .inr (.inr (.inl ⟨by assumption, rfl⟩))
      · split at h
        · cases h; exact .inr (.inr (.inr (.inl ⟨by assumption, rfl⟩)))
        · split at h
          · cases h; exact .inr (.inr (.inr (.inr (.inl ⟨by assumption, rfl⟩))))
          · split at h
            · cases h; exact .inr (.inr (.inr (.inr (.inr ⟨by assumption, rfl⟩))))
            · cases h
theorem known_not {n : Int} (h : knownD n = none) : n ≠ 1 ∧ n ≠ 2 ∧ n ≠ 4 ∧ n ≠ -1 ∧ n ≠ -2 ∧ n ≠ -4 := by
  refine ⟨?_, ?_, ?_, ?_, ?_, ?_⟩ <;> (rintro rfl; exact absurd h (by decide))
def Span.wd (s : Span) : Nat := s.size.natAbs
def e0 : ByteArray := ⟨#[]⟩
def putD (o n v : Int) : ByteArray × Int :=
  if o ≠ 0 ∧ o ≠ 1 then (e0, 10) else match knownD n with
  | none => (e0, 17)
  | some s => if hasD s v = true then (strA (bytesOf o s.wd v), 0) else (e0, 1)
def putR (r : ByteArray × Int) : AV := .tup [st r.1, i64 r.2]
theorem wide_wd {n : Int} {s : Span} (h : knownD n = some s) : (s.wd = 1 ∨ s.wd = 2 ∨ s.wd = 4) ∧ s.wide s.wd := by
  rcases known_cases h with ⟨rfl, rfl⟩ | ⟨rfl, rfl⟩ | ⟨rfl, rfl⟩ | ⟨rfl, rfl⟩ | ⟨rfl, rfl⟩ | ⟨rfl, rfl⟩ <;> exact ⟨by decide, by simp [Span.wide, Span.wd]⟩
theorem span_low {n : Int} {s : Span} (h : knownD n = some s) {v : Int} (hv : hasD s v = true) : ¬ v < s.low ∧ ¬ v > s.high ∧ (s.wd = 1 → -128 ≤ v ∧ v < 256) ∧ (s.wd = 2 → -32768 ≤ v ∧ v < 65536) ∧ (s.wd = 4 → -2147483648 ≤ v ∧ v < 4294967296) := by
  simp only [hasD, Bool.and_eq_true, decide_eq_true_eq] at hv
  rcases known_cases h with ⟨rfl, rfl⟩ | ⟨rfl, rfl⟩ | ⟨rfl, rfl⟩ | ⟨rfl, rfl⟩ | ⟨rfl, rfl⟩ | ⟨rfl, rfl⟩ <;> simp [Span.wd] at hv ⊢ <;> omega
theorem put_all (o n v : Int) : Pu 18 [i64 o, i64 n, i64 v] (putR (putD o n v)) := by
  unfold putD
  by_cases h : o ≠ 0 ∧ o ≠ 1
  · rw [if_pos h]; exact put_odd o n v h.1 h.2
  · rw [if_neg h]
    have ho : o = 0 ∨ o = 1 := by omega
    cases hk : knownD n with
    | none => exact put_none o n v ho hk
    | some s =>
      by_cases hv : hasD s v = true
      · simp only [hv, if_true]
        exact put_ok o n v s s.wd ho hk (wide_wd hk).1 (wide_wd hk).2 hv
      · simp only [hv]
        exact put_out o n v s ho hk (by simpa using hv)
end Go.Proofs.YtdcoomeagbjhlaaDoor.Or
