/- Any rectangles made one list: round upon round. By the prover of this seat. -/
import Derived.Test.YtcnlgdbmcdlknaaOg
set_option linter.unusedVariables false
set_option linter.unusedSimpArgs false
set_option maxRecDepth 100000
set_option maxHeartbeats 400000
namespace Go.Proofs.Ytcnlgdbmcdlknaa.Bn
open Go Go.RowKit Go.Pm
theorem RcIn.sm {r : Rc} (h : RcIn 200 r) : Sm r := by
  obtain ⟨h1, h2, h3, h4, h5, h6⟩ := h
  unfold Sm
  omega
/-- what is done so far is a region -/
theorem OI.reg {L : List Rc} {Y : Int} {row : List Rc} {nx : Nat} {B : List Bd} {ab : Nat} (h : OI L Y row nx B ab) (hs : ∀ r ∈ L, RcIn 200 r) : Reg 200 (fun x y => inR L x y ∧ y < Y) ∧ canon (fun x y => inR L x y ∧ y < Y) = toR B :=
  ⟨⟨⟨B, h.bds, h.tell⟩, fun x y ⟨⟨r, hr, a1, a2, a3, a4⟩, _⟩ => by obtain ⟨b1, b2, b3, b4, b5, b6⟩ := hs r hr; omega⟩, canon_eq h.bds h.tell⟩
theorem OI.sm {L : List Rc} {Y : Int} {row : List Rc} {nx : Nat} {B : List Bd} {ab : Nat} (h : OI L Y row nx B ab) (hs : ∀ r ∈ L, RcIn 200 r) : (∀ r ∈ toR B, RcIn 200 r) ∧ (toR B).length ≤ 160000 := by
  obtain ⟨h1, h2⟩ := h.reg hs
  have h3 := canon_rng h1
  have h4 := canon_len h1 (by omega)
  rw [h2] at h3 h4
  exact ⟨h3, by omega⟩
theorem OI.ab_le {L : List Rc} {Y : Int} {row : List Rc} {nx : Nat} {B : List Bd} {ab : Nat} (h : OI L Y row nx B ab) : ab ≤ (toR B).length := by
  rcases h.ab with ⟨h, -⟩ | ⟨B1, b, rfl, h, -⟩
  · omega
  · rw [toR_app, List.length_append]; omega
theorem sp_in {row : List Rc} (hw : ∀ r ∈ row, RcIn 200 r) (hx : XS row) {p : Sp} (hp : p ∈ spD row) : -200 ≤ p.a ∧ p.a < p.b ∧ p.b ≤ 200 := by
  obtain ⟨g, hin⟩ := spD_ok (fun r hr => (hw r hr).2.1) hx
  have hlt := g.1 p hp
  obtain ⟨r, hr, a1, a2⟩ := (hin p.a).1 ⟨p, hp, by omega, hlt⟩
  obtain ⟨q, hq, b1, b2⟩ := (hin (p.b - 1)).1 ⟨p, hp, by omega, by omega⟩
  obtain ⟨c1, c2, c3, -⟩ := hw r hr
  obtain ⟨d1, d2, d3, -⟩ := hw q hq
  omega
theorem ys_gap {ys : List Int} (hp : ys.Pairwise (· < ·)) (i : Nat) (hi : i + 1 < ys.length) {x : Int} (hx : x ∈ ys) : x ≤ nth ys i ∨ nth ys (i + 1) ≤ x := by
  obtain ⟨j, hj, rfl⟩ := List.getElem_of_mem hx
  rw [nth_eq (by omega), nth_eq hi]
  have key := List.pairwise_iff_getElem.1 hp
  by_cases h : j ≤ i
  · left
    by_cases e : j = i
    · subst e; exact Int.le_refl _
    · have := key j i hj (by omega) (by omega); omega
  · right
    by_cases e : j = i + 1
    · subst e; exact Int.le_refl _
    · have := key (i + 1) j hi hj (by omega); omega
theorem ys_next {ys : List Int} (hp : ys.Pairwise (· < ·)) (i : Nat) (hi : i + 1 < ys.length) : nth ys i < nth ys (i + 1) := by
  rw [nth_eq (by omega), nth_eq hi]
  exact List.pairwise_iff_getElem.1 hp i (i + 1) (by omega) hi (by omega)
theorem ys_last {ys : List Int} (hp : ys.Pairwise (· < ·)) (i : Nat) (hi : i + 1 = ys.length) {x : Int} (hx : x ∈ ys) : x ≤ nth ys i := by
  obtain ⟨j, hj, rfl⟩ := List.getElem_of_mem hx
  rw [nth_eq (by omega)]
  by_cases e : j = i
  · subst e; exact Int.le_refl _
  · have := List.pairwise_iff_getElem.1 hp j i hj (by omega) (by omega); omega
theorem ys_first {ys : List Int} (hp : ys.Pairwise (· < ·)) (hi : 0 < ys.length) {x : Int} (hx : x ∈ ys) : nth ys 0 ≤ x := by
  obtain ⟨j, hj, rfl⟩ := List.getElem_of_mem hx
  rw [nth_eq hi]
  by_cases e : j = 0
  · subst e; exact Int.le_refl _
  · have := List.pairwise_iff_getElem.1 hp 0 j hi hj (by omega); omega
theorem mem_take_drop (L : List Rc) (n k : Nat) (r : Rc) : r ∈ L ↔ r ∈ L.take n ∨ r ∈ (L.drop n).take k ∨ r ∈ L.drop (n + k) := by
  conv => lhs; rw [← List.take_append_drop n L, List.mem_append, ← List.take_append_drop k (L.drop n), List.mem_append, List.drop_drop]
/-- the row of a round -/
def row2D (L : List Rc) (Y : Int) (row : List Rc) (nx : Nat) : List Rc := row.filter (stayB Y) ++ (L.drop nx).take (cmN Y (L.drop nx))
def row3D (L : List Rc) (Y : Int) (row : List Rc) (nx : Nat) : List Rc := if 0 < cmN Y (L.drop nx) then srtD cfX (row2D L Y row nx) else row2D L Y row nx
theorem row3_perm (L : List Rc) (Y : Int) (row : List Rc) (nx : Nat) : (row3D L Y row nx).Perm (row2D L Y row nx) := by
  unfold row3D
  split
  · exact (srtX _).1
  · exact List.Perm.refl _
theorem row3_ok {L : List Rc} {Y : Int} {row : List Rc} {nx : Nat} {B : List Bd} {ab : Nat} (h : OI L Y row nx B ab) (hpos : ∀ r ∈ L, RcIn 200 r) (hY : YS L) :
    XS (row3D L Y row nx) ∧ (∀ r, r ∈ row3D L Y row nx ↔ r ∈ L ∧ r.y ≤ Y ∧ Y < r.y + r.h) ∧ (row3D L Y row nx).length ≤ nx + cmN Y (L.drop nx) ∧ nx + cmN Y (L.drop nx) ≤ L.length ∧ (∀ r ∈ L.take (nx + cmN Y (L.drop nx)), r.y ≤ Y) ∧ ∀ r ∈ L.drop (nx + cmN Y (L.drop nx)), Y < r.y := by
  have hcl := cmN_le Y (L.drop nx)
  rw [List.length_drop] at hcl
  have hnx := h.nx
  have hct := cmN_take Y (L.drop nx)
  have hcd : ∀ r ∈ L.drop (nx + cmN Y (L.drop nx)), Y < r.y := by
    have := cmN_drop Y (L.drop nx) (List.Pairwise.sublist (List.drop_sublist _ _) hY) h.back
    rwa [List.drop_drop] at this
  refine ⟨?_, fun r => ?_, ?_, by omega, fun r hr => ?_, hcd⟩
  · unfold row3D
    split
    · exact (srtX _).2
    · rename_i h0
      have e0 : cmN Y (L.drop nx) = 0 := by omega
      unfold row2D
      rw [e0, List.take_zero, List.append_nil]
      exact List.Pairwise.sublist List.filter_sublist h.xs
  · rw [(row3_perm L Y row nx).mem_iff]
    unfold row2D
    rw [List.mem_append, List.mem_filter, h.rows]
    unfold stayB goneB
    rw [Bool.not_eq_true', decide_eq_false_iff_not]
    constructor
    · rintro (⟨⟨h1, h2, h3⟩, h4⟩ | h1)
      · exact ⟨h1, by omega, by omega⟩
      · have hm : r ∈ L := (mem_take_drop L nx _ r).2 (.inr (.inl h1))
        have := hct r h1
        have := (hpos r hm).2.2.2.2.1
        exact ⟨hm, by omega, by omega⟩
    · rintro ⟨h1, h2, h3⟩
      rcases (mem_take_drop L nx (cmN Y (L.drop nx)) r).1 h1 with h4 | h4 | h4
      · exact .inl ⟨⟨h1, h.fore r h4, by omega⟩, by omega⟩
      · exact .inr h4
      · have := hcd r h4; omega
  · rw [(row3_perm L Y row nx).length_eq]
    unfold row2D
    rw [List.length_append, List.length_take, List.length_drop]
    have := List.length_filter_le (stayB Y) row
    have := h.few
    omega
  · rw [List.take_add] at hr
    rcases List.mem_append.1 hr with hr | hr
    · have := h.fore r hr; omega
    · have := hct r hr; omega
theorem stepD_len {B' : List Rc} {o : List Rc} {ab ab' : Nat} {Y Z : Int} {sp : List Sp} (h : stepD o ab Y Z sp = (B', ab')) : True := trivial
end Go.Proofs.Ytcnlgdbmcdlknaa.Bn
