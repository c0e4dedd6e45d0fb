/- The stretches of a row, as an iterator: whole rounds. By the prover of this seat. -/
import Derived.Test.YtcnlgdbmcdlknaaIc
set_option linter.unusedVariables false
set_option linter.unusedSimpArgs false
set_option maxRecDepth 100000
set_option maxHeartbeats 4000000
namespace Go.Proofs.Ytcnlgdbmcdlknaa.Bn
open Go.RowKit Go.Pm
noncomputable abbrev bd4 : Code := .seq (.seq (.region 4 o4 true) (.cond (.tmp 41) .skip (.exit 2))) (.seq (.block 3 (.region 6 o6 true)) (.region 5 o5 false))
def kT (X : List Bk) (yv : Value) (j : Nat) : St := ⟨mkT 63 [(0, .s yv), (1, .ptr 6 0), (3, i64 (j : Int))], X⟩
def kV (X : List Bk) (yv : Value) (q : Bool) (j : Nat) : St := ⟨mkT 63 [(0, .s yv), (1, .ptr 6 0), (3, i64 (j : Int)), (8, bl q)], X⟩
def kU (X : List Bk) (yv : Value) (a b : Int) (j : Nat) : St := ⟨mkT 63 [(0, .s yv), (1, .ptr 6 0), (3, i64 (j : Int)), (4, .ptr X.length 0)], X ++ [.arr 2 [i64 a, i64 b] 0]⟩
def kX (X : List Bk) (yv : Value) (q : Bool) (a b : Int) (j : Nat) : St := ⟨mkT 63 [(0, .s yv), (1, .ptr 6 0), (3, i64 (j : Int)), (4, .ptr X.length 0), (41, bl q)], X ++ [.arr 2 [i64 a, i64 b] 0]⟩
noncomputable abbrev CX (n : Nat) : Cx := ⟨Try.prog, G0, n⟩
/-- what the parts of a round do beside the blocks X -/
structure SpR (row : List Rc) (X : List Bk) : Prop where
  zero : ∀ yv, TriK (CX X.length) spK spZ ⟨mkT 63 [(0, .s yv), (1, .ptr 6 0)], X⟩ .normal (kT X yv 0)
  go : ∀ yv j, j < row.length → TriK (CX X.length) spK spH (kT X yv j) .normal (kV X yv true j)
  stop : ∀ yv, TriK (CX X.length) spK spH (kT X yv row.length) (.exit 0) (kV X yv false row.length)
  cut : ∀ yv j, j < row.length → TriK (CX X.length) spK spA (kV X yv true j) .normal (kU X yv (nth row j).x ((nth row j).x + (nth row j).w) j)
  more : ∀ yv j, j < row.length → TriK (CX (X.length + 1)) spK spM (kU X yv (nth row j).x ((nth row j).x + (nth row j).w) j) .normal (kX X yv false (nth row j).x (mgB ((nth row j).x + (nth row j).w) (row.drop (j + 1))) (j + 1 + mgN ((nth row j).x + (nth row j).w) (row.drop (j + 1))))
theorem loop_a (o : List Rc) (m : Nat) (y z : Int) (yv : Value) (row : List Rc) (hl : row.length ≤ 1000000) (hs : ∀ r ∈ row, Sm r) (a : Int) : ∀ (d j : Nat) (b : Int), row.length - j = d → j ≤ row.length → -2000 ≤ b → b ≤ 2000 → ∃ n, LoopK n C8 spK bd4 (kU (spaH o m y z row) yv a b j) (.exit 2) (kX (spaH o m y z row) yv false a (mgB b (row.drop j)) (j + mgN b (row.drop j))) := by
  intro d
  induction d with
  | zero =>
    intro j b hd hj b0 b1
    obtain rfl : j = row.length := by omega
    rw [List.drop_length]
    exact ⟨1, .last (.seqX (.seq (ra4e o m y z yv row a b) (.cond (b := false) (by kernel_rfl) (.here fun Q a W h => wp_exit h))) (by simp)) (by simp)⟩
  | succ d ih =>
    intro j b hd hj b0 b1
    have hj2 : j < row.length := by omega
    have hsj := hs _ (nth_mem hj2)
    rw [drop_nth hj2, mgB, mgN]
    by_cases hx : (nth row j).x ≤ b
    · rw [if_pos hx, if_pos hx]
      have hb : -2000 ≤ max b ((nth row j).x + (nth row j).w) ∧ max b ((nth row j).x + (nth row j).w) ≤ 2000 := by unfold Sm at hsj; omega
      have h1 := ra4t o m y z yv row a b j hj2 hl hx
      have h6 := ra6 o m y z yv row a b (max b ((nth row j).x + (nth row j).w)) j hj2 hl hsj b0 b1 (by split <;> omega)
      have h5 := ra5 o m y z yv row a (max b ((nth row j).x + (nth row j).w)) j hj2 hl
      obtain ⟨n, h2⟩ := ih (j + 1) _ (by omega) (by omega) hb.1 hb.2
      rw [show j + (mgN (max b ((nth row j).x + (nth row j).w)) (row.drop (j + 1)) + 1) = j + 1 + mgN (max b ((nth row j).x + (nth row j).w)) (row.drop (j + 1)) by omega]
      exact ⟨n + 1, .next (.seq (.seq h1 (.cond (b := true) (by kernel_rfl) (.here fun Q a W h => wp_skip h))) (.seq (.block h6) h5)) h2⟩
    · rw [if_neg hx, if_neg hx]
      exact ⟨1, .last (.seqX (.seq (ra4f o m y z yv row a b j hj2 hl hx) (.cond (b := false) (by kernel_rfl) (.here fun Q a W h => wp_exit h))) (by simp)) (by simp)⟩
theorem spR_a (o : List Rc) (m : Nat) (y z : Int) (row : List Rc) (hl : row.length ≤ 1000000) (hs : ∀ r ∈ row, Sm r) : SpR row (spaH o m y z row) where
  zero := fun yv => by rw [spZ_eq]; exact ra0 o m y z yv row
  go := fun yv j hj => by rw [spH_eq]; exact .seq (ra1t o m y z yv row j hj) (.cond (b := true) (by kernel_rfl) (.here fun Q a W h => wp_skip h))
  stop := fun yv => by rw [spH_eq]; exact .seq (ra1f o m y z yv row) (.cond (b := false) (by kernel_rfl) (.here fun Q a W h => wp_exit h))
  cut := fun yv j hj => by rw [spA_eq]; exact ra2 o m y z yv row j hj hl (hs _ (nth_mem hj))
  more := fun yv j hj => by
    rw [spM_eq]
    have hsj := hs _ (nth_mem hj)
    unfold Sm at hsj
    obtain ⟨n, h⟩ := loop_a o m y z yv row hl hs (nth row j).x _ (j + 1) ((nth row j).x + (nth row j).w) rfl (by omega) (by omega) (by omega)
    exact .seq (ra3 o m y z yv row _ _ j hj hl) (.blockX h.tri)
theorem loop_b (o : List Rc) (m : Nat) (y z : Int) (yv : Value) (row : List Rc) (hl : row.length ≤ 1000000) (hs : ∀ r ∈ row, Sm r) (a : Int) : ∀ (d j : Nat) (b : Int), row.length - j = d → j ≤ row.length → -2000 ≤ b → b ≤ 2000 → ∃ n, LoopK n C9 spK bd4 (kU (spbH o m y z row) yv a b j) (.exit 2) (kX (spbH o m y z row) yv false a (mgB b (row.drop j)) (j + mgN b (row.drop j))) := by
  intro d
  induction d with
  | zero =>
    intro j b hd hj b0 b1
    obtain rfl : j = row.length := by omega
    rw [List.drop_length]
    exact ⟨1, .last (.seqX (.seq (rb4e o m y z yv row a b) (.cond (b := false) (by kernel_rfl) (.here fun Q a W h => wp_exit h))) (by simp)) (by simp)⟩
  | succ d ih =>
    intro j b hd hj b0 b1
    have hj2 : j < row.length := by omega
    have hsj := hs _ (nth_mem hj2)
    rw [drop_nth hj2, mgB, mgN]
    by_cases hx : (nth row j).x ≤ b
    · rw [if_pos hx, if_pos hx]
      have hb : -2000 ≤ max b ((nth row j).x + (nth row j).w) ∧ max b ((nth row j).x + (nth row j).w) ≤ 2000 := by unfold Sm at hsj; omega
      have h1 := rb4t o m y z yv row a b j hj2 hl hx
      have h6 := rb6 o m y z yv row a b (max b ((nth row j).x + (nth row j).w)) j hj2 hl hsj b0 b1 (by split <;> omega)
      have h5 := rb5 o m y z yv row a (max b ((nth row j).x + (nth row j).w)) j hj2 hl
      obtain ⟨n, h2⟩ := ih (j + 1) _ (by omega) (by omega) hb.1 hb.2
      rw [show j + (mgN (max b ((nth row j).x + (nth row j).w)) (row.drop (j + 1)) + 1) = j + 1 + mgN (max b ((nth row j).x + (nth row j).w)) (row.drop (j + 1)) by omega]
      exact ⟨n + 1, .next (.seq (.seq h1 (.cond (b := true) (by kernel_rfl) (.here fun Q a W h => wp_skip h))) (.seq (.block h6) h5)) h2⟩
    · rw [if_neg hx, if_neg hx]
      exact ⟨1, .last (.seqX (.seq (rb4f o m y z yv row a b j hj2 hl hx) (.cond (b := false) (by kernel_rfl) (.here fun Q a W h => wp_exit h))) (by simp)) (by simp)⟩
theorem spR_b (o : List Rc) (m : Nat) (y z : Int) (row : List Rc) (hl : row.length ≤ 1000000) (hs : ∀ r ∈ row, Sm r) : SpR row (spbH o m y z row) where
  zero := fun yv => by rw [spZ_eq]; exact rb0 o m y z yv row
  go := fun yv j hj => by rw [spH_eq]; exact .seq (rb1t o m y z yv row j hj) (.cond (b := true) (by kernel_rfl) (.here fun Q a W h => wp_skip h))
  stop := fun yv => by rw [spH_eq]; exact .seq (rb1f o m y z yv row) (.cond (b := false) (by kernel_rfl) (.here fun Q a W h => wp_exit h))
  cut := fun yv j hj => by rw [spA_eq]; exact rb2 o m y z yv row j hj hl (hs _ (nth_mem hj))
  more := fun yv j hj => by
    rw [spM_eq]
    have hsj := hs _ (nth_mem hj)
    unfold Sm at hsj
    obtain ⟨n, h⟩ := loop_b o m y z yv row hl hs (nth row j).x _ (j + 1) ((nth row j).x + (nth row j).w) rfl (by omega) (by omega) (by omega)
    exact .seq (rb3 o m y z yv row _ _ j hj hl) (.blockX h.tri)
end Go.Proofs.Ytcnlgdbmcdlknaa.Bn
