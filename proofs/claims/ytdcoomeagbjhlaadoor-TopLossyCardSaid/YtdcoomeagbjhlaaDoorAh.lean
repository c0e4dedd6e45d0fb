/- Put and Get are each other's way back: the plain laws. By the prover of this seat. -/
import Derived.Test.YtdcoomeagbjhlaaDoorAg
set_option linter.unusedVariables false
set_option linter.unusedSimpArgs false
set_option maxRecDepth 100000
set_option maxHeartbeats 4000000
namespace Go.Proofs.YtdcoomeagbjhlaaDoor.Or
open Go.RowKit Go.Pm
theorem ba_ext {a b : ByteArray} (hs : a.size = b.size) (h : ∀ i, i < a.size → byteAt a i = byteAt b i) : a = b := by
  apply ByteArray.ext
  apply Array.ext'
  have la : a.data.toList.length = a.size := by rw [Array.length_toList]; rfl
  have lb : b.data.toList.length = b.size := by rw [Array.length_toList]; rfl
  apply List.ext_getElem (by omega)
  intro i h1 h2
  have := h i (by omega)
  simp only [byteAt, List.getD_eq_getElem?_getD, List.getElem?_eq_getElem h1, List.getElem?_eq_getElem h2, Option.getD_some] at this
  exact UInt8.toNat_inj.1 (by omega)
theorem toByte_u8 (x : Int) (h : 0 ≤ x ∧ x < 256) : ((toByte (u8 x)).toNat : Int) = x := by
  simp only [toByte]
  rw [UInt8.toNat_ofNat']
  omega
theorem at_strA (cs : List AV) (i : Nat) (x : Int) (hx : 0 ≤ x ∧ x < 256) (h : cs[i]? = some (u8 x)) : byteAt (strA cs) i = x := by
  have : (strA cs).data.toList = cs.map toByte := by simp [strA]
  rw [byteAt, this, List.getD_eq_getElem?_getD, List.getElem?_map, h]
  exact toByte_u8 x hx
def dg (v : Int) (j : Nat) : Int := (v % 18446744073709551616) / 2 ^ (8 * j) % 256
theorem dg_lt (v : Int) (j : Nat) : 0 ≤ dg v j ∧ dg v j < 256 := by unfold dg; omega
theorem at_put (o v : Int) (w : Nat) (ho : o = 0 ∨ o = 1) (h3 : w = 1 ∨ w = 2 ∨ w = 4) (i : Nat) (hi : i < w) : byteAt (strA (bytesOf o w v)) i = dg v (if o = 1 then w - 1 - i else i) := by
  refine at_strA _ i _ (dg_lt _ _) ?_
  have hb : ∀ j, j < 8 → byteV v j = u8 (dg v j) := fun j hj => byteV_eq v j hj
  rcases h3 with rfl | rfl | rfl <;> rcases ho with rfl | rfl
  · obtain rfl : i = 0 := by omega
    exact congrArg some (hb 0 (by omega))
  · obtain rfl : i = 0 := by omega
    exact congrArg some (hb 0 (by omega))
  · match i, hi with
    | 0, _ => exact congrArg some (hb 0 (by omega))
    | 1, _ => exact congrArg some (hb 1 (by omega))
  · match i, hi with
    | 0, _ => exact congrArg some (hb 1 (by omega))
    | 1, _ => exact congrArg some (hb 0 (by omega))
  · match i, hi with
    | 0, _ => exact congrArg some (hb 0 (by omega))
    | 1, _ => exact congrArg some (hb 1 (by omega))
    | 2, _ => exact congrArg some (hb 2 (by omega))
    | 3, _ => exact congrArg some (hb 3 (by omega))
  · match i, hi with
    | 0, _ => exact congrArg some (hb 3 (by omega))
    | 1, _ => exact congrArg some (hb 2 (by omega))
    | 2, _ => exact congrArg some (hb 1 (by omega))
    | 3, _ => exact congrArg some (hb 0 (by omega))
theorem put_size (o v : Int) (w : Nat) : (strA (bytesOf o w v)).size = w := putB_size o w v
theorem num_put (o v : Int) (w : Nat) (ho : o = 0 ∨ o = 1) (h3 : w = 1 ∨ w = 2 ∨ w = 4) : numD o w (strA (bytesOf o w v)) = v % 256 ^ w := by
  have key := at_put o v w ho h3
  rcases h3 with rfl | rfl | rfl <;> rcases ho with rfl | rfl
  all_goals simp only [numD]
  · rw [key 0 (by omega)]; simp [dg]
  · rw [key 0 (by omega)]; simp [dg]
  · rw [key 0 (by omega), key 1 (by omega)]; simp [dg]; omega
  · rw [key 0 (by omega), key 1 (by omega)]; simp [dg]; omega
  · rw [key 0 (by omega), key 1 (by omega), key 2 (by omega), key 3 (by omega)]; simp [dg]; omega
  · rw [key 0 (by omega), key 1 (by omega), key 2 (by omega), key 3 (by omega)]; simp [dg]; omega
theorem read_put (o n v : Int) (s : Span) (ho : o = 0 ∨ o = 1) (h : knownD n = some s) (hv : hasD s v = true) : readD o s (strA (bytesOf o s.wd v)) = v := by
  unfold readD
  rw [num_put o v s.wd ho (wide_wd h).1]
  simp only [hasD, Bool.and_eq_true, decide_eq_true_eq] at hv
  rcases known_cases h with ⟨rfl, rfl⟩ | ⟨rfl, rfl⟩ | ⟨rfl, rfl⟩ | ⟨rfl, rfl⟩ | ⟨rfl, rfl⟩ | ⟨rfl, rfl⟩ <;> simp [Span.wd] at hv ⊢ <;> split <;> omega
theorem get_put (o n v : Int) (h : (putD o n v).2 = 0) : getD o n (putD o n v).1 = (v, 0) := by
  unfold putD at h ⊢
  unfold getD
  by_cases ho : o ≠ 0 ∧ o ≠ 1
  · rw [if_pos ho] at h; simp at h
  · rw [if_neg ho] at h ⊢
    rw [if_neg ho]
    have ho' : o = 0 ∨ o = 1 := by omega
    cases hk : knownD n with
    | none => rw [hk] at h; simp at h
    | some s =>
      rw [hk] at h
      by_cases hv : hasD s v = true
      · simp only [hv, if_true]
        rw [put_size, if_neg (by omega), if_neg (by omega), read_put o n v s ho' hk hv]
      · simp [hv] at h
theorem byte_of {a : Int} {b : ByteArray} {i : Nat} (h : a = byteAt b i) : a = byteAt b i := h
theorem put_read (o n : Int) (b : ByteArray) (s : Span) (ho : o = 0 ∨ o = 1) (h : knownD n = some s) (hb : b.size = s.wd) : hasD s (readD o s b) = true ∧ strA (bytesOf o s.wd (readD o s b)) = b := by
  have hlt := byte_at b
  have b0 := hlt 0
  have b1 := hlt 1
  have b2 := hlt 2
  have b3 := hlt 3
  refine ⟨?_, ?_⟩
  · simp only [hasD, Bool.and_eq_true, decide_eq_true_eq]
    unfold readD
    rcases ho with rfl | rfl <;> rcases known_cases h with ⟨rfl, rfl⟩ | ⟨rfl, rfl⟩ | ⟨rfl, rfl⟩ | ⟨rfl, rfl⟩ | ⟨rfl, rfl⟩ | ⟨rfl, rfl⟩ <;> simp [Span.wd, numD] <;> split <;> omega
  · refine ba_ext (by rw [put_size, hb]) fun i hi => ?_
    rw [put_size] at hi
    rw [at_put o _ s.wd ho (wide_wd h).1 i hi]
    unfold readD dg
    generalize hz0 : byteAt b 0 = z0 at *
    generalize hz1 : byteAt b 1 = z1 at *
    generalize hz2 : byteAt b 2 = z2 at *
    generalize hz3 : byteAt b 3 = z3 at *
    have hi4 : i = 0 ∨ i = 1 ∨ i = 2 ∨ i = 3 := by
      rcases (wide_wd h).1 with e | e | e <;> omega
    rcases ho with rfl | rfl <;> rcases known_cases h with ⟨rfl, rfl⟩ | ⟨rfl, rfl⟩ | ⟨rfl, rfl⟩ | ⟨rfl, rfl⟩ | ⟨rfl, rfl⟩ | ⟨rfl, rfl⟩ <;> rcases hi4 with rfl | rfl | rfl | rfl <;> simp [Span.wd, numD, hz0, hz1, hz2, hz3] at hi ⊢ <;> split <;> omega
theorem put_get (o n : Int) (b : ByteArray) (h : (getD o n b).2 = 0) : putD o n (getD o n b).1 = (b, 0) := by
  unfold getD at h ⊢
  unfold putD
  by_cases ho : o ≠ 0 ∧ o ≠ 1
  · rw [if_pos ho] at h; simp at h
  · rw [if_neg ho] at h ⊢
    rw [if_neg ho]
    have ho' : o = 0 ∨ o = 1 := by omega
    cases hk : knownD n with
    | none => rw [hk] at h; simp at h
    | some s =>
      rw [hk] at h
      by_cases h1 : b.size < s.wd
      · simp [h1] at h
      · by_cases h2 : b.size > s.wd
        · simp [h1, h2] at h
        · obtain ⟨k1, k2⟩ := put_read o n b s ho' hk (by omega)
          simp only [h1, h2, if_false, k1, if_true, k2]
end Go.Proofs.YtdcoomeagbjhlaaDoor.Or
