/- What is left of a row. By the prover of this seat. -/
import Derived.Test.YtcnlgdbmcdlknaaDa
set_option linter.unusedVariables false
set_option linter.unusedSimpArgs false
set_option maxRecDepth 100000
namespace Go.Proofs.Ytcnlgdbmcdlknaa.Bn
open Go.RowKit Go.Pm
def goneB (y : Int) (r : Rc) : Bool := decide (r.y + r.h ≤ y)
def stayB (y : Int) (r : Rc) : Bool := !goneB y r
def dlK (y : Int) (l : List Rc) (j : Nat) : List Rc := (l.take j).filter (stayB y)
def dlM (y : Int) (l : List Rc) (j : Nat) : List Rc := dlK y l j ++ l.drop (dlK y l j).length
theorem dlK_le (y : Int) (l : List Rc) (j : Nat) : (dlK y l j).length ≤ j := by
  unfold dlK
  have := List.length_filter_le (stayB y) (l.take j)
  rw [List.length_take] at this
  omega
theorem dlK_le2 (y : Int) (l : List Rc) (j : Nat) : (dlK y l j).length ≤ l.length := by
  unfold dlK
  have := List.length_filter_le (stayB y) (l.take j)
  rw [List.length_take] at this
  omega
theorem dlM_len (y : Int) (l : List Rc) (j : Nat) : (dlM y l j).length = l.length := by
  unfold dlM
  rw [List.length_append, List.length_drop]
  have := dlK_le2 y l j
  omega
theorem dlM_nth (y : Int) (l : List Rc) (j : Nat) (h : j < l.length) : nth (dlM y l j) j = nth l j := by
  have h1 := dlK_le y l j
  unfold dlM
  rw [nth_eq (by rw [List.length_append, List.length_drop]; have := dlK_le2 y l j; omega), nth_eq h, List.getElem_append_right h1, List.getElem_drop]
  congr 1
  omega
theorem dlK_keep (y : Int) (l : List Rc) (j : Nat) (h : j < l.length) (hg : goneB y (nth l j) = false) : dlK y l (j + 1) = dlK y l j ++ [nth l j] := by
  unfold dlK
  rw [take_nth h, List.filter_append]
  congr 1
  rw [List.filter_cons, if_pos (by simp [stayB, hg]), List.filter_nil]
theorem dlK_drop (y : Int) (l : List Rc) (j : Nat) (h : j < l.length) (hg : goneB y (nth l j) = true) : dlK y l (j + 1) = dlK y l j := by
  unfold dlK
  rw [take_nth h, List.filter_append, List.filter_cons, if_neg (by simp [stayB, hg]), List.filter_nil, List.append_nil]
theorem dlM_keep (y : Int) (l : List Rc) (j : Nat) (h : j < l.length) (hg : goneB y (nth l j) = false) : (dlM y l j).set (dlK y l j).length (nth l j) = dlM y l (j + 1) := by
  have h1 := dlK_le y l j
  unfold dlM
  rw [dlK_keep y l j h hg, List.set_append_right _ _ (Nat.le_refl _), Nat.sub_self, List.length_append, List.length_singleton]
  rw [List.drop_eq_getElem_cons (show (dlK y l j).length < l.length by omega), List.set_cons_zero]
  simp
theorem dlM_start (y : Int) (l : List Rc) (k : Nat) (h : k < l.length) (hg : goneB y (nth l k) = true) (hb : ∀ j, j < k → ¬ goneB y (nth l j) = true) : dlK y l (k + 1) = l.take k ∧ dlM y l (k + 1) = l := by
  have e : dlK y l k = l.take k := by
    unfold dlK
    refine List.filter_eq_self.2 fun r hr => ?_
    obtain ⟨j, hj, rfl⟩ := List.mem_iff_getElem.1 hr
    have hj' : j < k := by rw [List.length_take] at hj; omega
    have := hb j hj'
    rw [nth_eq (by omega)] at this
    simp only [stayB, List.getElem_take]
    simpa using this
  have e2 : dlK y l (k + 1) = l.take k := by rw [dlK_drop y l k h hg, e]
  refine ⟨e2, ?_⟩
  unfold dlM
  rw [e2, List.length_take, show min k l.length = k by omega, List.take_append_drop]
theorem dlK_all (y : Int) (l : List Rc) : dlK y l l.length = l.filter (stayB y) := by unfold dlK; rw [List.take_length]
theorem dl_none (y : Int) (l : List Rc) (hb : ∀ j, j < l.length → ¬ goneB y (nth l j) = true) : l.filter (stayB y) = l := by
  refine List.filter_eq_self.2 fun r hr => ?_
  obtain ⟨j, hj, rfl⟩ := List.mem_iff_getElem.1 hr
  have := hb j hj
  rw [nth_eq hj] at this
  simpa [stayB] using this
def z4 : List AV := [i64 0, i64 0, i64 0, i64 0]
theorem dl_clear (K l : List Rc) (n : Nat) (hn : n = K.length) : splice ((K ++ l).flatMap eR) (n * 4) (replZ l.length z4) = K.flatMap eR ++ replZ l.length z4 := by
  subst hn
  have h1 : (K.flatMap eR).length = K.length * 4 := row_len (sz := 4) (fun _ => rfl) K
  have h2 : (l.flatMap eR).length = l.length * 4 := row_len (sz := 4) (fun _ => rfl) l
  have h3 : (replZ l.length z4).length = l.length * 4 := len_replZ _ _
  unfold splice
  rw [List.flatMap_append, List.take_left' h1, h3]
  rw [List.drop_eq_nil_of_le (by rw [List.length_append, h1, h2]; omega), List.append_nil]
end Go.Proofs.Ytcnlgdbmcdlknaa.Bn
