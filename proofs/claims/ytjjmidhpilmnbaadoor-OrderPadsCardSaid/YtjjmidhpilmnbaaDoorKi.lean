/- What the row's list gives: the table's cells. By the prover of this seat. -/
import Derived.Test.YtjjmidhpilmnbaaDoorKh
set_option linter.unusedVariables false
set_option maxRecDepth 100000
namespace Go.Proofs.YtjjmidhpilmnbaaDoor
open Go.RowKit Go.Pm
def spansRows : List (List (IntKind × Int)) := table.map fun s => [(.i64, s.size), (.i64, s.low), (.i64, s.high)]
def vsC : List Value := spansRows.flatMap fun r => r.map fun p => Value.int p.1 p.2
theorem spans_vs : spansC = vsC.map AV.s := rfl
theorem glob_ok {W : World} (h : laidMet Tryd.prog [("glazier/order.spans", rowsD spansRows)] W) : GlobR G1 (memOf W) := by
  obtain ⟨ps, ⟨g', t', cs, fuel, p, q, hg', ht', hvar, hd, _, _⟩, _⟩ := h
  obtain rfl : g' = 0 := (Option.some.inj ((show Tryd.prog.globalNamed "glazier/order.spans" = some 0 by kernel_rfl).symm.trans hg')).symm
  obtain rfl : t' = 61 := (Option.some.inj ((show (Tryd.prog.globals[0]?).map (·.type) = some 61 by kernel_rfl).symm.trans ht')).symm
  obtain ⟨fs, hfs, hsz⟩ : ∃ fs, Tryd.prog.underlying 53 = some (.struct fs) ∧ (fs.size = 3 ∧ ∀ (i : Nat) f, fs[i]? = some f → f.offset = i ∧ Tryd.prog.cellsOf f.type = 1 ∧ ∃ k, Tryd.prog.underlying f.type = some (.int k)) := by
    refine ⟨_, Tryd.underlying53, rfl, fun i f hi => ?_⟩
    have hlt := (Array.getElem?_eq_some_iff.1 hi).1
    match i, hlt, hi with
    | 0, _, hi => cases hi; exact ⟨rfl, by kernel_rfl, _, Tryd.underlying3⟩
    | 1, _, hi => cases hi; exact ⟨rfl, by kernel_rfl, _, Tryd.underlying2⟩
    | 2, _, hi => cases hi; exact ⟨rfl, by kernel_rfl, _, Tryd.underlying2⟩
  have hc : cs.toList = vsC := rows_open (rows := spansRows) (sz := 3) Tryd.underlying61 hfs (by kernel_rfl) (by kernel_rfl) (by decide) hsz.1 hsz.2 hd
  intro g cs' hG
  unfold G1 at hG
  split at hG
  · rename_i e
    subst e
    cases hG
    have hcell : ∀ (i : Nat) c, spansC[i]? = some c → ∃ v, vsC[i]? = some v ∧ c = .s v := by
      intro i c hi
      rw [spans_vs, List.getElem?_map, Option.map_eq_some_iff] at hi
      obtain ⟨v, h1, rfl⟩ := hi
      exact ⟨v, h1, rfl⟩
    refine .fptr (fun i => vsC.getD i undef) (fun i c hi => ?_) (fun i c hi => ?_)
    · obtain ⟨v, h1, rfl⟩ := hcell i c hi
      have hw := World.var?_cell (show Tryd.prog.globalNamed "glazier/order.spans" = some 0 by kernel_rfl) hvar i
      rw [← Array.getElem?_toList, hc, h1] at hw
      rw [Nat.zero_add, List.getD_eq_getElem?_getD, h1]
      refine memOf_cell hw ?_
      have : ∀ u ∈ vsC, u.oneCell' = true := by decide
      exact this v (List.mem_of_getElem? h1)
    · obtain ⟨v, h1, rfl⟩ := hcell i c hi
      rw [List.getD_eq_getElem?_getD, h1]
      exact .s _ _
  · cases hG
end Go.Proofs.YtjjmidhpilmnbaaDoor
