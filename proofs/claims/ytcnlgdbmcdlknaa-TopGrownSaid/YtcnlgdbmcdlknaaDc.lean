/- What is left of a row, by the program. By the prover of this seat. -/
import Derived.Test.YtcnlgdbmcdlknaaDb
set_option linter.unusedVariables false
set_option linter.unusedSimpArgs false
set_option maxRecDepth 100000
namespace Go.Proofs.Ytcnlgdbmcdlknaa.Bn
open Go.RowKit Go.Pm
theorem del_ok (l : List Rc) (y : Int) (hl : l.length ≤ 1000000) (hs : ∀ r ∈ l, Sm r) : CallH Try.prog G0 23 [.osl 0 0 l.length 4, fnG] (dlH l.length l y) (.osl 0 0 (l.filter (stayB y)).length 4) (dlH (l.filter (stayB y)).length (l.filter (stayB y)) y) := by
  have hc : ∀ j, j < l.length → CallH Try.prog G0 24 [A (eR (nth l j)), .ptr 0 0] [.arr 1 [i64 y] 0] (bl (goneB y (nth l j))) [.arr 1 [i64 y] 0] := fun j hj => gone_ok _ y (hs _ (nth_mem hj))
  have no : ∀ j, j < l.length → ¬ goneB y (nth l j) = true → Tri C2 ixB (ixS l y j) .normal (ixS l y (j + 1)) := fun j hj hg => by
    have := hc j hj
    rw [Bool.not_eq_true] at hg
    rw [hg] at this
    exact ix_no l y j hj hl this
  cases hk : idxD (goneB y) l with
  | none =>
    have hb := idx_none hk
    rw [dl_none y l hb]
    exact dl_0 l y (ix_2 l y (LoopT.count (ixS l y) l.length (fun j hj => no j hj (hb j hj)) (ix_end l y) 0 (by omega)))
  | some k =>
    obtain ⟨p1, p2, p3⟩ := idx_some hk
    have hI := ix_1 l y k (LoopT.count (ixS l y) k (fun j hj => no j (by omega) (p3 j hj)) (by have := hc k p1; rw [p2] at this; exact ix_hit l y k p1 hl this) 0 (by omega))
    obtain ⟨e1, e2⟩ := dlM_start y l k p1 p2 p3
    have L := LoopT.count (fun j => dlS l.length (dlM y l j) y (dlK y l j).length j) l.length (fun j hj => by
      have h1 := dlK_le y l j
      have hh := hc j hj
      cases hg : goneB y (nth l j) with
      | true =>
        rw [hg] at hh
        have hd := dlK_drop y l j hj hg
        have hM : dlM y l (j + 1) = dlM y l j := by unfold dlM; rw [hd]
        rw [hM, hd]
        exact dl_drop l.length (dlM y l j) y _ j (dlM_len y l j) hj (by omega) hl _ (dlM_nth y l j hj) hh
      | false =>
        rw [hg] at hh
        have hd := dlK_keep y l j hj hg
        rw [show (dlK y l (j + 1)).length = (dlK y l j).length + 1 by rw [hd]; simp]
        exact dl_keep l.length (dlM y l j) _ y _ j (dlM_len y l j) hj (by omega) hl _ (dlM_nth y l j hj) (dlM_keep y l j hj hg) hh) (dl_end l.length (dlM y l l.length) y (dlK y l l.length).length) (k + 1) (by omega)
    rw [e1, e2, List.length_take, show min k l.length = k by omega, dlK_all] at L
    have hK : (l.filter (stayB y)).length ≤ l.length := List.length_filter_le _ _
    have hM : dlM y l l.length = l.filter (stayB y) ++ l.drop (l.filter (stayB y)).length := by unfold dlM; rw [dlK_all]
    have hcl := dl_clear (l.filter (stayB y)) (l.drop (l.filter (stayB y)).length) (l.filter (stayB y)).length rfl
    rw [← hM, List.length_drop] at hcl
    have h := dl_1 l (dlM y l l.length) y k (l.filter (stayB y)).length l.length rfl p1 hK hl hI L ((l.filter (stayB y)).flatMap eR ++ replZ (l.length - (l.filter (stayB y)).length) z4) (by
      rw [Int.toNat_natCast, Nat.zero_add, show ((l.length : Int) - ((l.filter (stayB y)).length : Int)).toNat = l.length - (l.filter (stayB y)).length by omega]
      exact hcl)
    exact CallH.trim h ((l.filter (stayB y)).length * 4) (i := 0) rfl (Nat.zero_le _) (by omega) (List.take_left' (row_len (sz := 4) (fun _ => rfl) _)) rfl
end Go.Proofs.Ytcnlgdbmcdlknaa.Bn
