/- Bits of masks. By the prover of this seat. -/
import Derived.Test.YtcnlgdbmcdlknaaDoorGa
set_option linter.unusedVariables false
set_option linter.unusedSimpArgs false
set_option maxRecDepth 100000
set_option maxHeartbeats 4000000
namespace Go.Proofs.YtcnlgdbmcdlknaaDoor.Ch
open Go.RowKit Go.Pm
/-- & of two numbers -/
def andI (a b : Int) : Int := IntKind.i64.wrap ((BitVec.ofInt 64 a &&& BitVec.ofInt 64 b).toNat : Int)
theorem mask13 (x : Nat) : x &&& 8191 = x % 8192 := Nat.and_two_pow_sub_one_eq_mod x 13
theorem andI_mask (a : Int) : andI a 8191 = a % 8192 := by
  unfold andI
  rw [BitVec.toNat_and, BitVec.toNat_ofInt, BitVec.toNat_ofInt, show ((8191 : Int) % (2 ^ 64 : Nat)).toNat = 8191 by decide, mask13]
  rw [wrap_i64 (by omega) (by omega)]
  omega
theorem andI_nat (a b : Nat) (ha : a ≤ 8191) (hb : b < 2 ^ 64) : andI a b = ((a &&& b : Nat) : Int) := by
  have h1 : a &&& b ≤ a := Nat.and_le_left
  unfold andI
  rw [BitVec.toNat_and, BitVec.toNat_ofInt, BitVec.toNat_ofInt, show ((a : Int) % (2 ^ 64 : Nat)).toNat = a by omega, show ((b : Int) % (2 ^ 64 : Nat)).toNat = b by omega]
  rw [wrap_i64 (by omega) (by omega)]
/-! has, by the document -/
def bitN (a i : Nat) : Bool := decide (a / 2 ^ i % 2 = 1)
def hasN (a b : Nat) : Bool := (List.range 13).any fun i => bitN a i && bitN b i
theorem bit_test (a i : Nat) : bitN a i = a.testBit i := by unfold bitN; rw [Nat.testBit_eq_decide_div_mod_eq]
theorem bit_lt {a i : Nat} (ha : a < 8192) (hi : 13 ≤ i) : a.testBit i = false := Nat.testBit_lt_two_pow (Nat.lt_of_lt_of_le ha (by rw [show 8192 = 2 ^ 13 from rfl]; exact Nat.pow_le_pow_right (by omega) hi))
theorem and_bits (a b : Nat) : (a &&& b) ≠ 0 ↔ ∃ i, a.testBit i = true ∧ b.testBit i = true := by
  constructor
  · intro h
    refine Classical.byContradiction fun q => h (Nat.eq_of_testBit_eq fun i => ?_)
    rw [Nat.testBit_and, Nat.zero_testBit]
    cases h1 : a.testBit i with
    | false => rfl
    | true =>
      cases h2 : b.testBit i with
      | false => rfl
      | true => exact absurd ⟨i, h1, h2⟩ q
  · rintro ⟨i, h1, h2⟩ h
    have : (a &&& b).testBit i = true := by rw [Nat.testBit_and, h1, h2]; rfl
    rw [h] at this
    simp at this
theorem hasN_eq (a b : Nat) (ha : a < 8192) : hasN a b = decide ((a &&& b) ≠ 0) := by
  unfold hasN
  by_cases h : (a &&& b) ≠ 0
  · rw [decide_eq_true h]
    obtain ⟨i, h1, h2⟩ := (and_bits a b).1 h
    have hi : i < 13 := by
      rcases Nat.lt_or_ge i 13 with q | q
      · exact q
      · rw [bit_lt ha q] at h1; cases h1
    exact List.any_eq_true.2 ⟨i, List.mem_range.2 hi, by rw [bit_test, bit_test, h1, h2]; rfl⟩
  · rw [decide_eq_false h]
    refine List.any_eq_false.2 fun i hi q => h ((and_bits a b).2 ⟨i, ?_⟩)
    rw [bit_test, bit_test, Bool.and_eq_true] at q
    exact q
def hsS (a b k : Nat) : St := ⟨mkT 22 [(0, i64 ((a / 2 ^ k : Nat) : Int)), (1, i64 ((b / 2 ^ k : Nat) : Int)), (5, i64 k)], []⟩
def hsH : St := ⟨mkT 22 [(4, bl true)], []⟩
theorem mod2 (a k : Nat) : ((a / 2 ^ k : Nat) : Int).tmod 2 = ((a / 2 ^ k % 2 : Nat) : Int) := by
  generalize a / 2 ^ k = n
  rw [Int.tmod_eq_emod_of_nonneg (by omega)]; omega
theorem quo2 (a k : Nat) (ha : a < 8192) : IntKind.i64.wrap (((a / 2 ^ k : Nat) : Int).tdiv 2) = ((a / 2 ^ (k + 1) : Nat) : Int) := by
  have h : a / 2 ^ k ≤ a := Nat.div_le_self _ _
  rw [Nat.pow_succ, ← Nat.div_div_eq_div_mul]
  generalize a / 2 ^ k = n at h ⊢
  rw [Int.tdiv_eq_ediv_of_nonneg (by omega)]
  rw [wrap_i64 (by omega) (by omega)]
  omega
theorem nth_range (n k : Nat) (h : k < n) : nth (List.range n) k = k := by rw [nth_eq (by rw [List.length_range]; exact h), List.getElem_range]
theorem bit_int (a k : Nat) : bitN a k = true ↔ ((a / 2 ^ k % 2 : Nat) : Int) = 1 := by unfold bitN; rw [decide_eq_true_eq]; omega
theorem ismask_ok (m : Int) : PS 22 [i64 m] (bl (decide (0 ≤ m ∧ m ≤ 8191))) := by
  by_cases h : 0 ≤ m ∧ m ≤ 8191
  · rw [decide_eq_true h]
    exact pure_cast (pure_of (hs := hint [((1,2), {val := some (bl (true))})]) (r := bl (decide (m ≤ (8191 : Int)))) (ps := [bl (decide (m ≥ (0 : Int))) = bl (true)]) (by kernel_rfl) ⟨(bdT (by omega)), trivial⟩) (by (simp; omega))
  · rw [decide_eq_false h]
    by_cases h1 : m ≥ (0 : Int)
    · exact pure_cast (pure_of (hs := hint [((1,2), {val := some (bl (true))})]) (r := bl (decide (m ≤ (8191 : Int)))) (ps := [bl (decide (m ≥ (0 : Int))) = bl (true)]) (by kernel_rfl) ⟨(bdT h1), trivial⟩) (by (simp; omega))
    · exact pure_of (hs := hint [((1,2), {val := some (bl (false))})]) (ps := [bl (decide (m ≥ (0 : Int))) = bl (false)]) (by kernel_rfl) ⟨(bdF h1), trivial⟩
end Go.Proofs.YtcnlgdbmcdlknaaDoor.Ch
