/- Rows of rectangles that are written into. By the prover of this seat. -/
import Derived.Test.YtcnlgdbmcdlknaaBa
set_option linter.unusedVariables false
set_option linter.unusedSimpArgs false
set_option maxRecDepth 100000
namespace Go.Proofs.Ytcnlgdbmcdlknaa.Bn
open Go.RowKit Go.Pm
theorem splice_skip (a b : List AV) (n o : Nat) (ha : a.length = n) (xs : List AV) : splice (a ++ b) (n + o) xs = a ++ splice b o xs := by
  unfold splice
  rw [List.take_append, List.drop_append, ha, List.take_of_length_le (by omega), List.drop_eq_nil_of_le (by omega), List.nil_append, show n + o - n = o by omega, show n + o + xs.length - n = o + xs.length by omega]
  simp
theorem splice_in (a b : List AV) (j : Nat) (c : AV) (hj : j < a.length) : splice (a ++ b) j [c] = a.set j c ++ b := by
  unfold splice
  rw [List.take_append_of_le_length (by omega), List.drop_append, List.set_eq_take_append_cons_drop, if_pos hj]
  rw [show (j + [c].length - a.length) = 0 by simp; omega]
  simp
theorem row_set {α : Type} {enc : α → List AV} {sz : Nat} (he : ∀ x, (enc x).length = sz) (l : List α) (k : Nat) (hk : k < l.length) (x : α) : splice (l.flatMap enc) (k * sz) (enc x) = (l.set k x).flatMap enc := by
  have h1 : (l.take k).flatMap enc = (l.flatMap enc).take (k * sz) := by
    conv => rhs; rw [← List.take_append_drop k l, List.flatMap_append]
    rw [List.take_left' (by rw [row_len he, List.length_take]; congr 1; omega)]
  have h2 : (l.drop (k + 1)).flatMap enc = (l.flatMap enc).drop (k * sz + (enc x).length) := by
    conv => rhs; rw [← List.take_append_drop (k + 1) l, List.flatMap_append]
    rw [List.drop_left' (by rw [row_len he, List.length_take, he, show min (k + 1) l.length = k + 1 by omega, Nat.add_mul, Nat.one_mul])]
  rw [List.set_eq_take_append_cons_drop, if_pos hk, List.flatMap_append, List.flatMap_cons, h1, h2]
  unfold splice
  rw [List.append_assoc]
theorem row_fld : ∀ (l : List Rc) (k : Nat), k < l.length → ∀ (j : Nat), j < 4 → ∀ (c : AV) (r : Rc), (eR (nth l k)).set j c = eR r → splice (l.flatMap eR) (k * 4 + j) [c] = (l.set k r).flatMap eR
  | [], k, h => absurd h (by simp)
  | a :: l, 0, _ => fun j hj c r hr => by
    rw [List.flatMap_cons, Nat.zero_mul, Nat.zero_add, splice_in _ _ _ _ (by rw [eR_len]; exact hj), List.set_cons_zero, List.flatMap_cons, ← hr]
    rfl
  | a :: l, k + 1, h => fun j hj c r hr => by
    rw [List.flatMap_cons, show (k + 1) * 4 + j = 4 + (k * 4 + j) by omega, splice_skip _ _ 4 _ (eR_len a), row_fld l k (by simpa using h) j hj c r hr, List.set_cons_succ, List.flatMap_cons]
theorem row_at : ∀ (l : List Rc) (k : Nat), k < l.length → (l.flatMap eR).drop (k * 4) = eR (nth l k) ++ (l.drop (k + 1)).flatMap eR
  | [], k, h => absurd h (by simp)
  | a :: l, 0, _ => by simp [nth]
  | a :: l, k + 1, h => by
    have := row_at l k (by simpa using h)
    rw [List.flatMap_cons, show (k + 1) * 4 = 4 + k * 4 by omega, ← List.drop_drop]
    rw [show List.drop 4 (eR a ++ l.flatMap eR) = l.flatMap eR from List.drop_left' (eR_len a)]
    exact this
/-- a rectangle of a row -/
theorem row_rc (l : List Rc) (k : Nat) (h : k < l.length) : ((l.flatMap eR).drop (k * 4)).take 4 = eR (nth l k) := by
  rw [row_at l k h]
  exact List.take_left' (eR_len _)
/-- one of its numbers -/
theorem row_num (l : List Rc) (k : Nat) (h : k < l.length) (j : Nat) (c : AV) (hc : (eR (nth l k))[j]? = some c) : ((l.flatMap eR).drop (k * 4 + j)).take 1 = [c] := by
  have hj : j < 4 := by have := (List.getElem?_eq_some_iff.1 hc).1; rwa [eR_len] at this
  rw [← List.drop_drop, row_at l k h, List.drop_append_of_le_length (by rw [eR_len]; omega)]
  rw [List.drop_eq_getElem_cons (by rw [eR_len]; exact hj)]
  have := (List.getElem?_eq_some_iff.1 hc).2
  rw [this]
  rfl
/-- the first ones changed, the others not -/
def mixD (f : Rc → Rc) (l : List Rc) (k : Nat) : List Rc := (l.take k).map f ++ l.drop k
theorem mix_zero (f : Rc → Rc) (l : List Rc) : mixD f l 0 = l := by simp [mixD]
theorem mix_end (f : Rc → Rc) (l : List Rc) : mixD f l l.length = l.map f := by simp [mixD]
theorem mix_len (f : Rc → Rc) (l : List Rc) (k : Nat) : (mixD f l k).length = l.length := by
  simp only [mixD, List.length_append, List.length_map, List.length_take, List.length_drop]
  omega
theorem mix_nth (f : Rc → Rc) (l : List Rc) (k : Nat) (h : k < l.length) : nth (mixD f l k) k = nth l k := by
  unfold mixD
  rw [nth_eq (by have := mix_len f l k; unfold mixD at this; omega), nth_eq h, List.getElem_append_right (by simp; omega)]
  simp only [List.getElem_drop, List.length_map, List.length_take]
  congr 1
  omega
theorem mix_next (f : Rc → Rc) (l : List Rc) (k : Nat) (h : k < l.length) : (mixD f l k).set k (f (nth l k)) = mixD f l (k + 1) := by
  unfold mixD
  rw [List.set_append_right _ _ (by simp; omega), List.drop_eq_getElem_cons h, take_nth h, List.map_append]
  rw [show k - ((l.take k).map f).length = 0 by simp; omega, List.set_cons_zero]
  simp
end Go.Proofs.Ytcnlgdbmcdlknaa.Bn
