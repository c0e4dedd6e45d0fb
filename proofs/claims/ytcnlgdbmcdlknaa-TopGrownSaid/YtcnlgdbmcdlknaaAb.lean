/- How a set's rectangles come to be told in bands. By the prover of this seat. -/
import Derived.Test.YtcnlgdbmcdlknaaAa
set_option linter.unusedVariables false
set_option linter.unusedSimpArgs false
namespace Go.Proofs.Ytcnlgdbmcdlknaa.Bn
def XS (l : List Rc) : Prop := l.Pairwise (fun a b => a.x ≤ b.x)
def YS (l : List Rc) : Prop := l.Pairwise (fun a b => a.y ≤ b.y)
/-- stretches that touch are one -/
def spGo (a b : Int) : List Rc → List Sp
  | [] => [⟨a, b⟩]
  | r :: l => if r.x ≤ b then spGo a (max b (r.x + r.w)) l else ⟨a, b⟩ :: spGo r.x (r.x + r.w) l
def spD : List Rc → List Sp
  | [] => []
  | r :: l => spGo r.x (r.x + r.w) l
theorem spGo_ok : ∀ (l : List Rc) (a b : Int), a < b → (∀ r ∈ l, a ≤ r.x ∧ 0 < r.w) → XS l → Gp (spGo a b l) ∧ (∀ p ∈ spGo a b l, a ≤ p.a) ∧ ∀ x, inS (spGo a b l) x ↔ (a ≤ x ∧ x < b) ∨ ∃ r ∈ l, r.x ≤ x ∧ x < r.x + r.w := by
  intro l
  induction l with
  | nil =>
    intro a b h _ _
    refine ⟨⟨fun p hp => ?_, List.pairwise_singleton ..⟩, fun p hp => ?_, fun x => ?_⟩
    · simp [spGo] at hp; subst hp; exact h
    · simp [spGo] at hp; subst hp; exact Int.le_refl _
    · simp [spGo, inS]
  | cons r l ih =>
    intro a b h hr hs
    have hs' := (List.pairwise_cons.1 hs).2
    have h1 := (List.pairwise_cons.1 hs).1
    have hr0 := hr r (by simp)
    rw [spGo]
    split
    · rename_i hc
      obtain ⟨g1, g2, g3⟩ := ih a (max b (r.x + r.w)) (by omega) (fun q hq => hr q (by simp [hq])) hs'
      refine ⟨g1, g2, fun x => ?_⟩
      rw [g3]
      constructor
      · rintro (c | ⟨q, hq, c⟩)
        · by_cases k : x < b
          · exact .inl ⟨c.1, k⟩
          · exact .inr ⟨r, by simp, by omega, by omega⟩
        · exact .inr ⟨q, by simp [hq], c⟩
      · rintro (c | ⟨q, hq, c⟩)
        · exact .inl ⟨c.1, by omega⟩
        · rcases List.mem_cons.1 hq with rfl | hq
          · exact .inl ⟨by omega, by omega⟩
          · exact .inr ⟨q, hq, c⟩
    · rename_i hc
      obtain ⟨g1, g2, g3⟩ := ih r.x (r.x + r.w) (by omega) (fun q hq => ⟨h1 q hq, (hr q (by simp [hq])).2⟩) hs'
      refine ⟨⟨fun p hp => ?_, List.pairwise_cons.2 ⟨fun q hq => ?_, g1.2⟩⟩, fun p hp => ?_, fun x => ?_⟩
      · rcases List.mem_cons.1 hp with rfl | hp
        · exact h
        · exact g1.1 p hp
      · have := g2 q hq
        show b < q.a
        omega
      · rcases List.mem_cons.1 hp with rfl | hp
        · exact Int.le_refl _
        · have := g2 p hp; omega
      · rw [inS_cons, g3]
        constructor
        · rintro (c | c | ⟨q, hq, c⟩)
          · exact .inl c
          · exact .inr ⟨r, by simp, c⟩
          · exact .inr ⟨q, by simp [hq], c⟩
        · rintro (c | ⟨q, hq, c⟩)
          · exact .inl c
          · rcases List.mem_cons.1 hq with rfl | hq
            · exact .inr (.inl c)
            · exact .inr (.inr ⟨q, hq, c⟩)
theorem spD_ok {l : List Rc} (hw : ∀ r ∈ l, 0 < r.w) (hs : XS l) : Gp (spD l) ∧ ∀ x, inS (spD l) x ↔ ∃ r ∈ l, r.x ≤ x ∧ x < r.x + r.w := by
  cases l with
  | nil => exact ⟨⟨fun p hp => by simp [spD] at hp, List.Pairwise.nil⟩, fun x => by simp [spD, inS]⟩
  | cons r l =>
    have hs' := (List.pairwise_cons.1 hs).2
    have h1 := (List.pairwise_cons.1 hs).1
    obtain ⟨g1, -, g3⟩ := spGo_ok l r.x (r.x + r.w) (by have := hw r (by simp); omega) (fun q hq => ⟨h1 q hq, hw q (by simp [hq])⟩) hs'
    refine ⟨g1, fun x => ?_⟩
    rw [spD, g3]
    constructor
    · rintro (c | ⟨q, hq, c⟩)
      · exact ⟨r, by simp, c⟩
      · exact ⟨q, by simp [hq], c⟩
    · rintro ⟨q, hq, c⟩
      rcases List.mem_cons.1 hq with rfl | hq
      · exact .inl c
      · exact .inr ⟨q, hq, c⟩
theorem spGo_len : ∀ (l : List Rc) (a b : Int), (spGo a b l).length ≤ l.length + 1
  | [], _, _ => by simp [spGo]
  | r :: l, a, b => by
    rw [spGo]
    split
    · have := spGo_len l a (max b (r.x + r.w)); simp; omega
    · have := spGo_len l r.x (r.x + r.w); simp; omega
theorem spD_len (l : List Rc) : (spD l).length ≤ l.length := by
  cases l with
  | nil => simp [spD]
  | cons r l => rw [spD]; have := spGo_len l r.x (r.x + r.w); simp; omega
/-! a band behind another one -/
def ext (d : Int) (r : Rc) : Rc := ⟨r.x, r.y, r.w, r.h + d⟩
def sameB (a b : Rc) : Bool := decide (a.x = b.x) && decide (a.w = b.w) && decide (a.y + a.h = b.y)
def all2 : List Rc → List Rc → Bool
  | [], [] => true
  | a :: l, b :: k => sameB a b && all2 l k
  | _, _ => false
def alikeD (l k : List Rc) : Bool := decide (0 < l.length) && all2 l k
def stepD (out : List Rc) (above : Nat) (Y Z : Int) (sp : List Sp) : List Rc × Nat :=
  if alikeD (out.drop above) (sp.map (rcS Y Z)) = true then (out.take above ++ (out.drop above).map (ext (Z - Y)), above) else (out ++ sp.map (rcS Y Z), out.length)
theorem all2_sp {y0 Y Z : Int} : ∀ {s t : List Sp}, all2 (s.map (rcS y0 Y)) (t.map (rcS Y Z)) = true ↔ s = t
  | [], [] => by simp [all2]
  | [], q :: t => by simp [all2]
  | p :: s, [] => by simp [all2]
  | p :: s, q :: t => by
    rw [List.map_cons, List.map_cons, all2, Bool.and_eq_true, all2_sp]
    have : sameB (rcS y0 Y p) (rcS Y Z q) = true ↔ p = q := by
      obtain ⟨a, b⟩ := p
      obtain ⟨c, d⟩ := q
      unfold sameB rcS
      rw [Bool.and_eq_true, Bool.and_eq_true, decide_eq_true_iff, decide_eq_true_iff, decide_eq_true_iff, Sp.mk.injEq]
      simp only
      constructor
      · rintro ⟨⟨h1, h2⟩, -⟩; exact ⟨h1, by omega⟩
      · rintro ⟨h1, h2⟩; exact ⟨⟨h1, by omega⟩, by omega⟩
    rw [this, List.cons.injEq]
/-- between two rows; Y is where the next one begins -/
structure OI (L : List Rc) (Y : Int) (row : List Rc) (next : Nat) (B : List Bd) (above : Nat) : Prop where
  xs : XS row
  rows : ∀ r, r ∈ row ↔ r ∈ L ∧ r.y < Y ∧ Y ≤ r.y + r.h
  few : row.length ≤ next
  nx : next ≤ L.length
  fore : ∀ r ∈ L.take next, r.y < Y
  back : ∀ r ∈ L.drop next, Y ≤ r.y
  bds : Bds B
  tell : ∀ x y, inB B x y ↔ inR L x y ∧ y < Y
  end_ : ∀ b ∈ B, b.y1 ≤ Y
  ab : (above = (toR B).length ∧ ∀ b ∈ B, b.y1 < Y) ∨ ∃ B1 b, B = B1 ++ [b] ∧ above = (toR B1).length ∧ b.y1 = Y
theorem OI.start {L : List Rc} {Y : Int} (h : ∀ r ∈ L, Y ≤ r.y) : OI L Y [] 0 [] 0 where
  xs := List.Pairwise.nil
  rows := fun r => ⟨fun h => (by cases h), fun ⟨h1, h2, _⟩ => by have := h r h1; omega⟩
  few := Nat.le_refl _
  nx := Nat.zero_le _
  fore := fun r hr => by simp at hr
  back := fun r hr => h r (by simpa using hr)
  bds := ⟨fun b hb => (by cases hb), List.Pairwise.nil⟩
  tell := fun x y => ⟨fun ⟨b, hb, _⟩ => (by cases hb), fun ⟨⟨r, hr, h1⟩, h2⟩ => by have := h r hr; have := h1.2.2.1; omega⟩
  end_ := fun b hb => by cases hb
  ab := .inl ⟨rfl, fun b hb => (by cases hb)⟩
theorem toR_app (B C : List Bd) : toR (B ++ C) = toR B ++ toR C := by simp [toR]
theorem toR_one (b : Bd) : toR [b] = bdR b := by simp [toR]
theorem len_bdR (b : Bd) : (bdR b).length = b.s.length := by simp [bdR]
theorem Bds.snoc {B : List Bd} {b : Bd} (h : Bds B) (hb : b.y0 < b.y1 ∧ b.s ≠ [] ∧ Gp b.s) (hl : ∀ c ∈ B, c.y1 ≤ b.y0 ∧ (c.y1 = b.y0 → c.s ≠ b.s)) : Bds (B ++ [b]) := by
  refine ⟨fun c hc => ?_, List.pairwise_append.2 ⟨h.2, List.pairwise_singleton .., fun c hc d hd => ?_⟩⟩
  · rcases List.mem_append.1 hc with hc | hc
    · exact h.1 c hc
    · rw [List.mem_singleton] at hc; subst hc; exact hb
  · rw [List.mem_singleton] at hd; subst hd; exact hl c hc
theorem Bds.snoc_inv {B : List Bd} {b : Bd} (h : Bds (B ++ [b])) : Bds B ∧ (b.y0 < b.y1 ∧ b.s ≠ [] ∧ Gp b.s) ∧ ∀ c ∈ B, c.y1 ≤ b.y0 ∧ (c.y1 = b.y0 → c.s ≠ b.s) := by
  have hp := List.pairwise_append.1 h.2
  exact ⟨⟨fun c hc => h.1 c (by simp [hc]), hp.1⟩, h.1 b (by simp), fun c hc => hp.2.2 c hc b (by simp)⟩
/-- the next row's stretches laid down -/
theorem step_ok {L : List Rc} {Y Z : Int} {row row3 : List Rc} {next next' : Nat} {B : List Bd} {above : Nat} (h : OI L Y row next B above) (hYZ : Y < Z) (hpos : ∀ r ∈ L, 0 < r.w ∧ 0 < r.h) (gap : ∀ r ∈ L, (r.y ≤ Y ∨ Z ≤ r.y) ∧ (r.y + r.h ≤ Y ∨ Z ≤ r.y + r.h))
    (hx : XS row3) (hrow : ∀ r, r ∈ row3 ↔ r ∈ L ∧ r.y ≤ Y ∧ Y < r.y + r.h) (hfew : row3.length ≤ next') (hnx : next' ≤ L.length) (hfore : ∀ r ∈ L.take next', r.y ≤ Y) (hback : ∀ r ∈ L.drop next', Y < r.y) :
    ∃ B' above', stepD (toR B) above Y Z (spD row3) = (toR B', above') ∧ OI L Z row3 next' B' above' := by
  obtain ⟨gs, hs⟩ := spD_ok (l := row3) (fun r hr => (hpos r ((hrow r).1 hr).1).1) hx
  have line : ∀ x y, Y ≤ y → y < Z → (inR L x y ↔ inS (spD row3) x) := by
    intro x y h1 h2
    rw [hs]
    constructor
    · rintro ⟨r, hr, a1, a2, a3, a4⟩
      have := gap r hr
      exact ⟨r, (hrow r).2 ⟨hr, by omega, by omega⟩, a1, a2⟩
    · rintro ⟨r, hr, a1, a2⟩
      obtain ⟨b1, b2, b3⟩ := (hrow r).1 hr
      have := gap r b1
      exact ⟨r, b1, a1, a2, by omega, by omega⟩
  have hrow' : ∀ r, r ∈ row3 ↔ r ∈ L ∧ r.y < Z ∧ Z ≤ r.y + r.h := by
    intro r
    rw [hrow]
    constructor
    · rintro ⟨a, b, c⟩; have := gap r a; exact ⟨a, by omega, by omega⟩
    · rintro ⟨a, b, c⟩; have := gap r a; exact ⟨a, by omega, by omega⟩
  have hfore' : ∀ r ∈ L.take next', r.y < Z := fun r hr => by have := hfore r hr; omega
  have hback' : ∀ r ∈ L.drop next', Z ≤ r.y := fun r hr => by have := hback r hr; have := gap r (List.mem_of_mem_drop hr); omega
  -- what a new band tells
  have tellN : ∀ (C : List Bd), (∀ x y, inB C x y ↔ inB B x y ∨ (Y ≤ y ∧ y < Z ∧ inS (spD row3) x)) → ∀ x y, inB C x y ↔ inR L x y ∧ y < Z := by
    intro C hC x y
    rw [hC, h.tell]
    constructor
    · rintro (⟨a, b⟩ | ⟨a, b, c⟩)
      · exact ⟨a, by omega⟩
      · exact ⟨(line x y a b).2 c, b⟩
    · rintro ⟨a, b⟩
      by_cases c : y < Y
      · exact .inl ⟨a, c⟩
      · exact .inr ⟨by omega, b, (line x y (by omega) b).1 a⟩
  have new : (∀ b ∈ B, b.y1 = Y → b.s ≠ spD row3) → ∃ B' above', ((toR B ++ (spD row3).map (rcS Y Z), (toR B).length) : List Rc × Nat) = (toR B', above') ∧ OI L Z row3 next' B' above' := by
    intro hne
    by_cases he : spD row3 = []
    · refine ⟨B, _, by rw [he]; simp, ⟨hx, hrow', hfew, hnx, hfore', hback', h.bds, tellN B (fun x y => ?_), fun b hb => by have := h.end_ b hb; omega, .inl ⟨rfl, fun b hb => by have := h.end_ b hb; omega⟩⟩⟩
      rw [he]
      exact ⟨.inl, fun c => c.elim id (fun c => absurd c.2.2 (inS_nil x))⟩
    · refine ⟨B ++ [⟨Y, Z, spD row3⟩], (toR B).length, by rw [toR_app, toR_one]; rfl, ⟨hx, hrow', hfew, hnx, hfore', hback', h.bds.snoc ⟨hYZ, he, gs⟩ fun c hc => ⟨h.end_ c hc, fun e => hne c hc e⟩, tellN _ (fun x y => ?_), fun b hb => ?_, .inr ⟨B, ⟨Y, Z, spD row3⟩, rfl, rfl, rfl⟩⟩⟩
      · rw [inB_app, inB_cons]
        simp [inB]
      · rcases List.mem_append.1 hb with hb | hb
        · have := h.end_ b hb; omega
        · rw [List.mem_singleton] at hb; subst hb; exact Int.le_refl _
  unfold stepD
  rcases h.ab with ⟨ha, hlt⟩ | ⟨B1, b, rfl, ha, hb⟩
  · rw [if_neg (by rw [ha, List.drop_length]; simp [alikeD])]
    exact new fun b hb e => by have := hlt b hb; omega
  · obtain ⟨i1, i2, i3⟩ := h.bds.snoc_inv
    have hd : (toR (B1 ++ [b])).drop above = bdR b := by rw [toR_app, toR_one, ha, List.drop_left]
    have ht : (toR (B1 ++ [b])).take above = toR B1 := by rw [toR_app, ha, List.take_left]
    have hlen : 0 < b.s.length := List.length_pos_iff.2 i2.2.1
    rw [hd, ht]
    by_cases hc : b.s = spD row3
    · rw [if_pos (by
        unfold alikeD
        rw [len_bdR, decide_eq_true hlen, Bool.true_and]
        unfold bdR
        rw [hb]
        exact all2_sp.2 hc)]
      refine ⟨B1 ++ [⟨b.y0, Z, b.s⟩], above, ?_, ⟨hx, hrow', hfew, hnx, hfore', hback', i1.snoc ⟨by show b.y0 < Z; omega, i2.2.1, i2.2.2⟩ i3, tellN _ (fun x y => ?_), fun c hc => ?_, .inr ⟨B1, _, rfl, ha, rfl⟩⟩⟩
      · rw [toR_app, toR_one]
        unfold bdR
        rw [List.map_map]
        congr 2
        refine List.map_congr_left fun p hp => ?_
        simp only [Function.comp, ext, rcS]
        rw [show b.y1 - b.y0 + (Z - Y) = Z - b.y0 by omega]
      · rw [inB_app, inB_app, inB_cons, inB_cons, ← hc]
        simp only
        have hn : ¬ inB [] x y := by simp [inB]
        constructor
        · rintro (a | ⟨a1, a2, a3⟩ | a)
          · exact .inl (.inl a)
          · by_cases q : y < Y
            · exact .inl (.inr (.inl ⟨a1, by omega, a3⟩))
            · exact .inr ⟨by omega, a2, a3⟩
          · exact absurd a hn
        · rintro ((a | ⟨a1, a2, a3⟩ | a) | ⟨a1, a2, a3⟩)
          · exact .inl a
          · exact .inr (.inl ⟨a1, by omega, a3⟩)
          · exact absurd a hn
          · exact .inr (.inl ⟨by omega, a2, a3⟩)
      · rcases List.mem_append.1 hc with hc | hc
        · have := h.end_ c (by simp [hc]); omega
        · rw [List.mem_singleton] at hc; subst hc; exact Int.le_refl _
    · rw [if_neg (by
        unfold alikeD
        rw [len_bdR, decide_eq_true hlen, Bool.true_and]
        unfold bdR
        rw [hb]
        exact fun q => hc (all2_sp.1 q))]
      refine new fun c hcc e => ?_
      rcases List.mem_append.1 hcc with hcc | hcc
      · have := i3 c hcc; omega
      · rw [List.mem_singleton] at hcc; subst hcc; exact hc
/-- at the end -/
theorem OI.done {L : List Rc} {Y : Int} {row : List Rc} {next : Nat} {B : List Bd} {above : Nat} (h : OI L Y row next B above) (hl : ∀ r ∈ L, r.y + r.h ≤ Y) : toR B = canon (inR L) ∧ ∀ x y, inB B x y ↔ inR L x y := by
  have : ∀ x y, inB B x y ↔ inR L x y := fun x y => by
    rw [h.tell]
    exact ⟨fun c => c.1, fun c => ⟨c, by obtain ⟨r, hr, a1, a2, a3, a4⟩ := c; have := hl r hr; omega⟩⟩
  exact ⟨(canon_eq h.bds this).symm, this⟩
end Go.Proofs.Ytcnlgdbmcdlknaa.Bn
