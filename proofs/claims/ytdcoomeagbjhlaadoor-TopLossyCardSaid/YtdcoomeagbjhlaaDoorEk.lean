/- Packets: how they are read. By the prover of this seat. -/
import Derived.Test.YtdcoomeagbjhlaaDoorMgC
set_option linter.unusedVariables false
set_option linter.unusedSimpArgs false
set_option maxRecDepth 100000
set_option maxHeartbeats 4000000
namespace Go.Proofs.YtdcoomeagbjhlaaDoor.Lk
open Go.RowKit Go.Pm
open Go.Proofs.YtdcoomeagbjhlaaDoor.Or (G1 C1 Pu)
open Go.Proofs.YtdcoomeagbjhlaaDoor.Ca (eS slS cacheA)
theorem or_nat (a b : Nat) (hb : b ≤ 255) : (a * 256) ||| b = a * 256 + b := by
  have h := Nat.shiftLeft_add_eq_or_of_lt (i := 8) (b := b) (show b < 2 ^ 8 by omega) a
  rw [Nat.shiftLeft_eq] at h
  exact h.symm
theorem ofInt_nat (n : Nat) (h : n < 18446744073709551616) : (BitVec.ofInt 64 (n : Int)).toNat = n := by
  rw [BitVec.ofInt_natCast, BitVec.toNat_ofNat]
  exact Nat.mod_eq_of_lt h
theorem or_1 (x y : Int) (x0 : 0 ≤ x ∧ x ≤ 255) (y0 : 0 ≤ y ∧ y ≤ 255) : IntKind.i64.wrap ((BitVec.ofInt 64 (x * 256) ||| BitVec.ofInt 64 y).toNat : Int) = x * 256 + y := by
  obtain ⟨a, rfl⟩ : ∃ a : Nat, x = a := ⟨x.toNat, by omega⟩
  obtain ⟨b, rfl⟩ : ∃ b : Nat, y = b := ⟨y.toNat, by omega⟩
  rw [BitVec.toNat_or, show ((a : Int) * 256) = ((a * 256 : Nat) : Int) by omega, ofInt_nat _ (by omega), ofInt_nat _ (by omega), or_nat a b (by omega), wrap_i64 (by omega) (by omega)]
  omega
theorem or_0 (x : Int) (x0 : 0 ≤ x ∧ x ≤ 255) : IntKind.i64.wrap ((BitVec.ofInt 64 0 ||| BitVec.ofInt 64 (x * 256)).toNat : Int) = x * 256 := by
  obtain ⟨a, rfl⟩ : ∃ a : Nat, x = a := ⟨x.toNat, by omega⟩
  have e0 : (BitVec.ofInt 64 0).toNat = 0 := by decide
  rw [BitVec.toNat_or, show ((a : Int) * 256) = ((a * 256 : Nat) : Int) by omega, e0, ofInt_nat _ (by omega), Nat.zero_or, wrap_i64 (by omega) (by omega)]
theorem four_ok (b : ByteArray) (x y : Int) (hb : b.size = 4) (h0 : ((b.data.toList.getD 0 0).toNat : Int) = 0) (h1 : ((b.data.toList.getD 1 0).toNat : Int) = 0) (h2 : ((b.data.toList.getD 2 0).toNat : Int) = x) (h3 : ((b.data.toList.getD 3 0).toNat : Int) = y) (x0 : 0 ≤ x ∧ x ≤ 255) (y0 : 0 ≤ y ∧ y ≤ 255) : Pu 34 [st b] (i64 (x * 256 + y)) := by
  exact pure_of (hs := hint [((1,1), { sym := true, val := some (u8 0) }), ((1,5), { sym := true, val := some (u8 0) }), ((1,10), { sym := true, val := some (u8 x) }), ((1,11), {val := some (i64 (x))}), ((1,12), {val := some (i64 (x * (256 : Int)))}), ((1,13), { val := some (i64 (x * 256)) }), ((1,15), { sym := true, val := some (u8 y) }), ((1,16), {val := some (i64 (y))}), ((1,18), { val := some (i64 (x * 256 + y)) })]) (ps := [decide ((0 : Int) ≤ (0 : Int) ∧ (0 : Int) < (↑b.size : Int)) = true, u8 ((↑(b.data.toList.getD (0 : Nat) (0 : UInt8)).toNat : Int)) = u8 ((0 : Int)), decide ((0 : Int) ≤ (1 : Int) ∧ (1 : Int) < (↑b.size : Int)) = true, u8 ((↑(b.data.toList.getD (1 : Nat) (0 : UInt8)).toNat : Int)) = u8 ((0 : Int)), decide ((0 : Int) ≤ (2 : Int) ∧ (2 : Int) < (↑b.size : Int)) = true, u8 ((↑(b.data.toList.getD (2 : Nat) (0 : UInt8)).toNat : Int)) = u8 (x), i64 (IntKind.i64.wrap x) = i64 (x), i64 (IntKind.i64.wrap (x * (256 : Int))) = i64 (x * (256 : Int)), i64 (IntKind.i64.wrap (↑(BitVec.ofInt (64 : Nat) (0 : Int) ||| BitVec.ofInt (64 : Nat) (x * (256 : Int))).toNat : Int)) = i64 (x * (256 : Int)), decide ((0 : Int) ≤ (3 : Int) ∧ (3 : Int) < (↑b.size : Int)) = true, u8 ((↑(b.data.toList.getD (3 : Nat) (0 : UInt8)).toNat : Int)) = u8 (y), i64 (IntKind.i64.wrap y) = i64 (y), i64 (IntKind.i64.wrap (↑(BitVec.ofInt (64 : Nat) (x * (256 : Int)) ||| BitVec.ofInt (64 : Nat) y).toNat : Int)) = i64 (x * (256 : Int) + y)]) (by kernel_rfl) ⟨(by (first | exact intE h0 | exact decide_t ⟨by omega, by omega⟩)), (by (first | exact intE h0 | exact decide_t ⟨by omega, by omega⟩)), (by (first | exact intE h1 | exact decide_t ⟨by omega, by omega⟩)), (by (first | exact intE h1 | exact decide_t ⟨by omega, by omega⟩)), (by (first | exact intE h2 | exact decide_t ⟨by omega, by omega⟩)), (by (first | exact intE h2 | exact decide_t ⟨by omega, by omega⟩)), (intE (by exact wrap_i64 (by omega) (by omega))), (intE (by exact wrap_i64 (by omega) (by omega))), (by exact intE (or_0 x x0)), (by (first | exact intE h3 | exact decide_t ⟨by omega, by omega⟩)), (by (first | exact intE h3 | exact decide_t ⟨by omega, by omega⟩)), (intE (by exact wrap_i64 (by omega) (by omega))), (by exact intE (or_1 x y x0 y0)), trivial⟩
end Go.Proofs.YtdcoomeagbjhlaaDoor.Lk
