/- strings.Builder: what its methods do. By the prover of this seat. -/
import Derived.Test.YtcnlgdbmcdlknaaDoorFh
set_option linter.unusedVariables false
set_option linter.unusedSimpArgs false
set_option maxRecDepth 100000
set_option maxHeartbeats 4000000
namespace Go.Proofs.YtcnlgdbmcdlknaaDoor.Fo
open Go.RowKit Go.Pm
theorem bytes_app (a b : ByteArray) : bytesA a ++ bytesA b = bytesA (a ++ b) := by
  unfold bytesA
  rw [← List.map_append, ← Array.toList_append, ← ByteArray.data_append]
theorem size_data (b : ByteArray) : b.data.toList.length = b.size := by rw [Array.length_toList]; rfl
theorem bytesA_len (b : ByteArray) : (bytesA b).length = b.size := by unfold bytesA; rw [List.length_map, size_data]
theorem bytesA_pure (b : ByteArray) (n : Nat) (fz : Fz) : pureB (.arr n (bytesA b) fz) = true := by
  show (bytesA b).all pureC = true
  unfold bytesA
  rw [List.all_map, List.all_eq_true]
  intro x _
  rfl
theorem bytesA_u8 (b : ByteArray) : (bytesA b).all isU8 = true := by
  unfold bytesA
  rw [List.all_map, List.all_eq_true]
  intro x _
  have := x.toNat_lt
  simp [isU8]
  omega
theorem strA_bytes (b : ByteArray) : strA (bytesA b) = b := by
  apply ByteArray.ext
  apply Array.ext'
  unfold strA bytesA
  rw [List.map_map]
  show List.map _ _ = _
  conv => rhs; rw [← List.map_id b.data.toList]
  apply List.map_congr_left
  intro x _
  simp [toByte]
def oneB (c : Int) : ByteArray := ⟨#[UInt8.ofNat c.toNat]⟩
theorem oneB_cells (c : Int) (h0 : 0 ≤ c) (h1 : c < 256) : bytesA (oneB c) = [u8 c] := by
  unfold oneB bytesA
  simp only [List.toList_toArray, List.map_cons, List.map_nil]
  rw [UInt8.toNat_ofNat', Nat.mod_eq_of_lt (by omega)]
  congr 3
  omega
def bUs (k n : Nat) : Bk := .arr 2 [.ptr 0 0, .osl k 0 n 1] ⟨0, some 58⟩
def bBy (n : Nat) (b : ByteArray) : Bk := .arr (n * 1) (bytesA b) ⟨0, some 5⟩
def nilE : AV := .s .nilIface
end Go.Proofs.YtcnlgdbmcdlknaaDoor.Fo
