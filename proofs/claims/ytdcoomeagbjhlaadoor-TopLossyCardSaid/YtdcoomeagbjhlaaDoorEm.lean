/- The line's ends: Got. By the prover of this seat. -/
import Derived.Test.YtdcoomeagbjhlaaDoorEl
set_option linter.unusedVariables false
set_option linter.unusedSimpArgs false
set_option maxRecDepth 100000
set_option maxHeartbeats 4000000
namespace Go.Proofs.YtdcoomeagbjhlaaDoor.Lk
open Go.RowKit Go.Pm
open Go.Proofs.YtdcoomeagbjhlaaDoor.Or (G1 C1 Pu)
open Go.Proofs.YtdcoomeagbjhlaaDoor.Ca (eS slS cacheA)
theorem strA_n (l : List AV) : (strA l).size = l.length := by simp [strA, ByteArray.size]
theorem strA_ext (l : List AV) (i j : Nat) : (strA l).extract i j = strA ((l.take j).drop i) := by
  have : ((strA l).extract i j).data = (strA ((l.take j).drop i)).data := by
    rw [ByteArray.data_extract]
    apply Array.ext'
    simp [strA, List.map_drop, List.map_take, List.drop_take]
  exact ByteArray.ext this
theorem strA_bytes (b : ByteArray) : strA (bytesA b) = b := by
  have : (strA (bytesA b)).data = b.data := by
    apply Array.ext'
    unfold strA bytesA
    rw [List.map_map]
    simp only [List.toList_toArray]
    conv => rhs; rw [← List.map_id b.data.toList]
    refine List.map_congr_left fun x _ => ?_
    simp [Function.comp, toByte]
  exact ByteArray.ext this
theorem strA_at (l : List AV) (i : Nat) (x : Int) (hx : 0 ≤ x ∧ x ≤ 255) (h : l[i]? = some (u8 x)) : byN (strA l) i = x := by
  have e : (strA l).data.toList = l.map toByte := by simp [strA]
  unfold byN
  rw [e, List.getD_eq_getElem?_getD, List.getElem?_map, h]
  show ((UInt8.ofNat x.toNat).toNat : Int) = x
  rw [UInt8.toNat_ofNat']
  omega
theorem four_at (l : List AV) (i n : Nat) (hn : n ≤ 60000) (hl : (l.take (i + 4)).drop i = [u8 ((n : Int) / 16777216), u8 ((n : Int) / 65536), u8 ((n : Int) / 256), u8 ((n : Int) % 256)]) : Pu 34 [st ((strA l).extract i (i + 4))] (i64 (n : Nat)) := by
  rw [strA_ext, hl]
  have h := four_ok (strA [u8 ((n : Int) / 16777216), u8 ((n : Int) / 65536), u8 ((n : Int) / 256), u8 ((n : Int) % 256)]) ((n : Int) / 256) ((n : Int) % 256) (by rw [strA_n]; rfl) ?_ ?_ ?_ ?_ (by omega) (by omega)
  · rw [show (n : Int) / 256 * 256 + n % 256 = n by omega] at h
    exact h
  · exact strA_at _ 0 0 (by omega) (by show some _ = some _; congr 2; omega)
  · exact strA_at _ 1 0 (by omega) (by show some _ = some _; congr 2; omega)
  · exact strA_at _ 2 _ (by omega) rfl
  · exact strA_at _ 3 _ (by omega) rfl
theorem pk_is (k n t : Nat) (b : ByteArray) (hk : k ≤ 1) (hn : n ≤ 60000) (ht : t ≤ 60000) (hb : b.size ≤ 1024) : PkIs (pkB k n t b) k n t b := by
  have hz : (pkB k n t b).size = 11 + b.size := by unfold pkB; rw [strA_n, pkL_len]
  refine ⟨hz, hb, ?_, ?_, ?_, ?_, ?_, ?_⟩
  · exact strA_at _ 0 _ (by omega) rfl
  · rw [hz]
    unfold pkB
    rw [strA_ext, List.take_of_length_le (by rw [pkL_len]; exact Nat.le_refl _)]
    show strA (bytesA b) = b
    exact strA_bytes b
  · exact four_at (pkL k n t b) 1 n hn rfl
  · exact four_at (pkL k n t b) 5 t ht rfl
  · exact strA_at _ 9 _ (by omega) rfl
  · exact strA_at _ 10 _ (by omega) rfl
end Go.Proofs.YtdcoomeagbjhlaaDoor.Lk
