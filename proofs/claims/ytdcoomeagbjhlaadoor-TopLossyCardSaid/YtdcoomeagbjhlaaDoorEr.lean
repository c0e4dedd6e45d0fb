/- Texts behind one another; how much of them a beginning holds. By the prover of this seat. -/
import Derived.Test.YtdcoomeagbjhlaaDoorEq
set_option linter.unusedVariables false
set_option linter.unusedSimpArgs false
namespace Go.Proofs.YtdcoomeagbjhlaaDoor.Lk
open Go.RowKit Go.Pm
def catB : List ByteArray → ByteArray
  | [] => ByteArray.empty
  | x :: X => x ++ catB X
def offs (X : List ByteArray) (k : Nat) : Nat := (catB (X.take k)).size
theorem cat_app (X Y : List ByteArray) : catB (X ++ Y) = catB X ++ catB Y := by
  induction X with
  | nil => show catB Y = ByteArray.empty ++ catB Y; rw [ByteArray.empty_append]
  | cons x X ih => show x ++ catB (X ++ Y) = (x ++ catB X) ++ catB Y; rw [ih, ByteArray.append_assoc]
theorem cat_split (X : List ByteArray) (k : Nat) : catB X = catB (X.take k) ++ catB (X.drop k) := by rw [← cat_app, List.take_append_drop]
theorem offs_zero (X : List ByteArray) : offs X 0 = 0 := rfl
theorem offs_succ {X : List ByteArray} {k : Nat} (h : k < X.length) : offs X (k + 1) = offs X k + (nth X k).size := by
  unfold offs
  rw [take_nth h, cat_app, ByteArray.size_append]
  show _ + (nth X k ++ ByteArray.empty).size = _
  rw [ByteArray.append_empty]
theorem offs_all (X : List ByteArray) : offs X X.length = (catB X).size := by unfold offs; rw [List.take_length]
theorem offs_le (X : List ByteArray) (k : Nat) : offs X k ≤ (catB X).size := by
  rw [cat_split X k, ByteArray.size_append]; unfold offs; omega
theorem cat_seg {X : List ByteArray} {k : Nat} (h : k < X.length) (a b : Nat) (hb : b ≤ (nth X k).size) : (catB X).extract (offs X k + a) (offs X k + b) = (nth X k).extract a b := by
  rw [cat_split X k, drop_nth h]
  unfold offs
  show (catB (X.take k) ++ (nth X k ++ catB (X.drop (k + 1)))).extract _ _ = _
  rw [ByteArray.extract_append_size_add, ByteArray.extract_append]
  have e : (catB (X.drop (k + 1))).extract (a - (nth X k).size) (b - (nth X k).size) = ByteArray.empty := by
    rw [ByteArray.extract_eq_empty_iff]
    omega
  rw [e, ByteArray.append_empty]
theorem cat_tail (X : List ByteArray) (k : Nat) : (catB X).extract (offs X k) (catB X).size = catB (X.drop k) := by
  have e := cat_split X k
  generalize catB X = Z at e ⊢
  subst e
  unfold offs
  exact ByteArray.extract_append_eq_right rfl (ByteArray.size_append)
/-- how many texts are whole among the first c bytes -/
def whole : List ByteArray → Nat → Nat
  | [], _ => 0
  | x :: X, c => if x.size ≤ c then whole X (c - x.size) + 1 else 0
theorem offs_cons (x : ByteArray) (X : List ByteArray) (k : Nat) : offs (x :: X) (k + 1) = x.size + offs X k := by
  unfold offs
  rw [List.take_succ_cons]
  show (x ++ catB (X.take k)).size = _
  rw [ByteArray.size_append]
theorem whole_le : ∀ (X : List ByteArray) (c : Nat), whole X c ≤ X.length ∧ offs X (whole X c) ≤ c ∧ (whole X c < X.length → c < offs X (whole X c + 1))
  | [], c => ⟨Nat.le_refl _, Nat.zero_le _, fun h => absurd h (by simp [whole])⟩
  | x :: X, c => by
    unfold whole
    by_cases h : x.size ≤ c
    · rw [if_pos h]
      obtain ⟨h1, h2, h3⟩ := whole_le X (c - x.size)
      refine ⟨by rw [List.length_cons]; omega, by rw [offs_cons]; omega, fun q => ?_⟩
      rw [List.length_cons] at q
      have := h3 (by omega)
      rw [offs_cons]
      omega
    · rw [if_neg h]
      refine ⟨Nat.zero_le _, Nat.zero_le _, fun _ => ?_⟩
      rw [offs_cons]
      show c < x.size + offs X 0
      rw [offs_zero]
      omega
theorem whole_all (X : List ByteArray) : whole X (catB X).size = X.length := by
  induction X with
  | nil => rfl
  | cons x X ih =>
    have e : (catB (x :: X)).size = x.size + (catB X).size := ByteArray.size_append
    unfold whole
    rw [if_pos (by omega), e, Nat.add_sub_cancel_left, ih, List.length_cons]
end Go.Proofs.YtdcoomeagbjhlaaDoor.Lk
