/- Two regions joined: a row of pieces. By the prover of this seat. -/
import Derived.Test.YtcnlgdbmcdlknaaPe
set_option linter.unusedVariables false
set_option linter.unusedSimpArgs false
set_option maxRecDepth 100000
set_option maxHeartbeats 400000
namespace Go.Proofs.Ytcnlgdbmcdlknaa.Bn
open Go Go.RowKit Go.Pm
/-- as a canonical list lies -/
def CanL (l : List Rc) : Prop := l.Pairwise (fun r q => (r.y = q.y ∧ r.h = q.h ∧ r.x + r.w < q.x) ∨ r.y + r.h ≤ q.y)
def XL (l : List Rc) : Prop := l.Pairwise (fun r q => r.x + r.w < q.x)
theorem canon_can {n : Int} {P : Pl} (h : Reg n P) : CanL (canon P) := by
  obtain ⟨hb, -⟩ := bands_ok h.1
  unfold CanL canon toR
  rw [List.pairwise_flatMap]
  refine ⟨fun b hbm => ?_, hb.2.imp fun {b c} hbc r hr q hq => ?_⟩
  · unfold bdR
    rw [List.pairwise_map]
    refine (hb.1 b hbm).2.2.2.imp fun {p q} hpq => .inl ⟨rfl, rfl, ?_⟩
    show p.a + (p.b - p.a) < q.a
    omega
  · obtain ⟨p, -, rfl⟩ := List.mem_map.1 hr
    obtain ⟨p2, -, rfl⟩ := List.mem_map.1 hq
    right
    show b.y0 + (b.y1 - b.y0) ≤ c.y0
    omega
theorem can_y {l : List Rc} (h : CanL l) (hp : ∀ r ∈ l, RcIn 200 r) : l.Pairwise (fun r q => r.y ≤ q.y) :=
  h.imp_of_mem fun {r q} hr hq hh => by obtain ⟨-, -, -, -, h1, -⟩ := hp r hr; omega
theorem can_yh {l : List Rc} (h : CanL l) (hp : ∀ r ∈ l, RcIn 200 r) : l.Pairwise (fun r q => r.y + r.h ≤ q.y + q.h) :=
  h.imp_of_mem fun {r q} hr hq hh => by obtain ⟨-, -, -, -, h1, -⟩ := hp q hq; omega
theorem dW_mem {l : List Rc} (h : CanL l) (hp : ∀ r ∈ l, RcIn 200 r) (y : Int) (r : Rc) : r ∈ dW y l ↔ r ∈ l ∧ y < r.y + r.h := dp_mem (fun r => r.y + r.h) y l (can_yh h hp) r
theorem dW_can {l : List Rc} (h : CanL l) (y : Int) : CanL (dW y l) := h.sublist (dp_sub _ y l)
theorem rowD_mem {l : List Rc} (h : CanL l) (hp : ∀ r ∈ l, RcIn 200 r) (y : Int) (r : Rc) : r ∈ rowD y l ↔ r ∈ l ∧ r.y ≤ y ∧ y < r.y + r.h := by
  have hd := dW_can h y
  have hp2 : ∀ r ∈ dW y l, RcIn 200 r := fun r hr => hp r ((dW_mem h hp y r).1 hr).1
  rw [rowD, tk_mem (fun r => r.y) y (dW y l) (can_y hd hp2) r, dW_mem h hp]
  constructor
  · rintro ⟨⟨h1, h2⟩, h3⟩; exact ⟨h1, h3, h2⟩
  · rintro ⟨h1, h2, h3⟩; exact ⟨⟨h1, h3⟩, h2⟩
theorem rowD_xl {l : List Rc} (h : CanL l) (hp : ∀ r ∈ l, RcIn 200 r) (y : Int) : XL (rowD y l) := by
  have hs : CanL (rowD y l) := (dW_can h y).sublist (List.take_sublist _ _)
  refine hs.imp_of_mem fun {r q} hr hq hh => ?_
  obtain ⟨-, h1, h2⟩ := (rowD_mem h hp y r).1 hr
  obtain ⟨-, h3, h4⟩ := (rowD_mem h hp y q).1 hq
  omega
theorem rowD_len (y : Int) (l : List Rc) : (rowD y l).length ≤ l.length := by
  have h1 : (dW y l).length ≤ l.length := (dp_sub (fun r => r.y + r.h) y l).length_le
  rw [rowD, List.length_take]
  omega
theorem aW_mem {A : List Rc} (h : XL A) (hp : ∀ r ∈ A, RcIn 200 r) (x : Int) (r : Rc) : r ∈ aW x A ↔ r ∈ A ∧ x < r.x + r.w :=
  dp_mem (fun r => r.x + r.w) x A (h.imp_of_mem fun {r q} hr hq hh => by obtain ⟨-, h1, -⟩ := hp q hq; omega) r
theorem acB_iff {A : List Rc} (h : XL A) (hp : ∀ r ∈ A, RcIn 200 r) (X : Int) : acB X A = true ↔ ∃ r ∈ A, r.x ≤ X ∧ X < r.x + r.w := by
  have hm := aW_mem h hp X
  have hx : XL (aW X A) := h.sublist (dp_sub _ X A)
  unfold acB
  cases hq : aW X A with
  | nil =>
    rw [hq] at hm
    constructor
    · intro c; cases c
    · rintro ⟨r, hr, h1, h2⟩
      have := (hm r).2 ⟨hr, h2⟩
      cases this
  | cons a t =>
    rw [hq] at hm hx
    obtain ⟨x1, x2⟩ := List.pairwise_cons.1 hx
    have ha := (hm a).1 (by simp)
    show decide (a.x ≤ X) = true ↔ _
    rw [decide_eq_true_iff]
    constructor
    · exact fun h1 => ⟨a, ha.1, h1, ha.2⟩
    · rintro ⟨r, hr, h1, h2⟩
      rcases List.mem_cons.1 ((hm r).2 ⟨hr, h2⟩) with rfl | h3
      · exact h1
      · have := x1 r h3; have := ha.2; omega
theorem bool_iff {a b : Bool} (h : a = true ↔ b = true) : a = b := by cases a <;> cases b <;> simp_all
theorem acB_aW {A : List Rc} (h : XL A) (hp : ∀ r ∈ A, RcIn 200 r) {x X : Int} (hx : x ≤ X) : acB X (aW x A) = acB X A := by
  have hs := dp_sub (fun r => r.x + r.w) x A
  refine bool_iff ?_
  rw [acB_iff (h.sublist hs) (fun r hr => hp r (hs.subset hr)), acB_iff h hp]
  constructor
  · rintro ⟨r, hr, h1⟩; exact ⟨r, hs.subset hr, h1⟩
  · rintro ⟨r, hr, h1, h2⟩; exact ⟨r, (aW_mem h hp x r).2 ⟨hr, by omega⟩, h1, h2⟩
theorem acB_gap {A : List Rc} (h : XL A) (hp : ∀ r ∈ A, RcIn 200 r) {xs : List Int} (hxs : xs.Pairwise (· < ·)) (hm : ∀ r ∈ A, r.x ∈ xs ∧ r.x + r.w ∈ xs) (j : Nat) (hj : j + 1 < xs.length) {X : Int} (h1 : nth xs j ≤ X) (h2 : X < nth xs (j + 1)) : acB X A = acB (nth xs j) A := by
  refine bool_iff ?_
  rw [acB_iff h hp, acB_iff h hp]
  constructor
  · rintro ⟨r, hr, h3, h4⟩
    have := ys_gap hxs j hj (hm r hr).1
    exact ⟨r, hr, by omega, by omega⟩
  · rintro ⟨r, hr, h3, h4⟩
    have := ys_gap hxs j hj (hm r hr).2
    exact ⟨r, hr, by omega, by omega⟩
theorem ys_mono {ys : List Int} (hp : ys.Pairwise (· < ·)) (i j : Nat) (h : i ≤ j) (hj : j < ys.length) : nth ys i ≤ nth ys j := by
  rw [nth_eq (by omega), nth_eq hj]
  by_cases e : i = j
  · subst e; exact Int.le_refl _
  · have := List.pairwise_iff_getElem.1 hp i j (by omega) hj (by omega); omega
theorem inR_snoc (l : List Rc) (r : Rc) (x y : Int) : inR (l ++ [r]) x y ↔ inR l x y ∨ inC r x y := by
  rw [inR_app]
  constructor
  · rintro (h | ⟨q, hq, h⟩)
    · exact .inl h
    · rw [List.mem_singleton] at hq; subst hq; exact .inr h
  · rintro (h | h)
    · exact .inl h
    · exact .inr ⟨r, by simp, h⟩
theorem ji_loop (g : Nat) (hg : g = 36 ∨ g = 39) (K : Bool → Bool → Bool) (hK : ∀ a b, PT g [bl a, bl b] (bl (K a b))) (ys xs : List Int) (da db : List Rc) (i : Nat) (y h : Int) (A B : List Rc) (hA : XL A) (hB : XL B) (pA : ∀ r ∈ A, RcIn 200 r) (pB : ∀ r ∈ B, RcIn 200 r) (hAl : A.length ≤ 200000) (hBl : B.length ≤ 200000) (hxs : xs.Pairwise (· < ·)) (mA : ∀ r ∈ A, r.x ∈ xs ∧ r.x + r.w ∈ xs) (mB : ∀ r ∈ B, r.x ∈ xs ∧ r.x + r.w ∈ xs) (rx : ∀ x ∈ xs, -200 ≤ x ∧ x ≤ 200) (hl : xs.length ≤ 1000) (hy : -200 ≤ y) (hh : 0 < h) (hyh : y + h ≤ 200) :
    ∀ (d j : Nat) (ra rb acc : List Rc), j + d + 1 = xs.length → ra.Sublist A → rb.Sublist B → (∀ X, nth xs j ≤ X → acB X ra = acB X A) → (∀ X, nth xs j ≤ X → acB X rb = acB X B) → acc.length + d ≤ 1000000 →
      ∃ ra9 rb9 j9 acc2, LoopT C0 jiB (jiS g ys xs (slR da) (slR db) i y h ra rb j acc acc.length) (.exit 2) (jiS g ys xs (slR da) (slR db) i y h ra9 rb9 j9 acc2 acc2.length) ∧ acc2.length ≤ acc.length + d ∧ (∀ r ∈ acc2, r ∈ acc ∨ RcIn 200 r) ∧ ∀ X Y, inR acc2 X Y ↔ inR acc X Y ∨ (y ≤ Y ∧ Y < y + h ∧ nth xs j ≤ X ∧ X < nth xs (j + d) ∧ K (acB X A) (acB X B) = true) := by
  intro d
  induction d with
  | zero =>
    intro j ra rb acc hj _ _ _ _ hm
    refine ⟨ra, rb, j, acc, ji_end g ys xs da db i y h ra rb j acc _ (by omega) (by omega) (by omega), by omega, fun r hr => .inl hr, fun X Y => ?_⟩
    constructor
    · exact .inl
    · rintro (h1 | ⟨_, _, h1, h2, _⟩)
      · exact h1
      · rw [Nat.add_zero] at h2; omega
  | succ d ih =>
    intro j ra rb acc hj sa sb ea eb hm
    have hj2 : j + 1 < xs.length := by omega
    have hlt := ys_next hxs j hj2
    have rj := rx _ (nth_mem hj2)
    have ri := rx _ (nth_mem (show j < xs.length by omega))
    have sma : ∀ r ∈ ra, Sm r := fun r hr => (pA r (sa.subset hr)).sm
    have smb : ∀ r ∈ rb, Sm r := fun r hr => (pB r (sb.subset hr)).sm
    have la := sa.length_le
    have lb := sb.length_le
    have ha := acr_ok (nth xs j) ra (by omega) sma
    have hb := acr_ok (nth xs j) rb (by omega) smb
    have ka := ea (nth xs j) (Int.le_refl _)
    have kb := eb (nth xs j) (Int.le_refl _)
    have k := hK (acB (nth xs j) ra) (acB (nth xs j) rb)
    have da' := dp_sub (fun r => r.x + r.w) (nth xs j) ra
    have db' := dp_sub (fun r => r.x + r.w) (nth xs j) rb
    have ea2 : ∀ X, nth xs (j + 1) ≤ X → acB X (aW (nth xs j) ra) = acB X A := fun X hX => by
      rw [acB_aW (hA.sublist sa) (fun r hr => pA r (sa.subset hr)) (by omega)]
      exact ea X (by omega)
    have eb2 : ∀ X, nth xs (j + 1) ≤ X → acB X (aW (nth xs j) rb) = acB X B := fun X hX => by
      rw [acB_aW (hB.sublist sb) (fun r hr => pB r (sb.subset hr)) (by omega)]
      exact eb X (by omega)
    have gA : ∀ X, nth xs j ≤ X → X < nth xs (j + 1) → K (acB X A) (acB X B) = K (acB (nth xs j) ra) (acB (nth xs j) rb) := fun X h1 h2 => by
      rw [acB_gap hA pA hxs mA j hj2 h1 h2, acB_gap hB pB hxs mB j hj2 h1 h2, ka, kb]
    have hlast := ys_mono hxs (j + 1) (j + 1 + d) (by omega) (by omega)
    cases hq : K (acB (nth xs j) ra) (acB (nth xs j) rb) with
    | false =>
      rw [hq] at k
      obtain ⟨ra9, rb9, j9, acc2, q1, q2, q3, q4⟩ := ih (j + 1) _ _ acc (by omega) (da'.trans sa) (db'.trans sb) ea2 eb2 (by omega)
      refine ⟨ra9, rb9, j9, acc2, LoopT.next ?_ q1, by omega, q3, fun X Y => ?_⟩
      · rcases hg with rfl | rfl
        · exact ji_nom ys xs da db i y h ra rb _ _ j acc _ _ _ hj2 (by omega) (fun x hx => by have := rx x hx; omega) ha hb k
        · exact ji_nod ys xs da db i y h ra rb _ _ j acc _ _ _ hj2 (by omega) (fun x hx => by have := rx x hx; omega) ha hb k
      · rw [q4, show j + (d + 1) = j + 1 + d by omega]
        constructor
        · rintro (h1 | ⟨h1, h2, h3, h4, h5⟩)
          · exact .inl h1
          · exact .inr ⟨h1, h2, by omega, h4, h5⟩
        · rintro (h1 | ⟨h1, h2, h3, h4, h5⟩)
          · exact .inl h1
          · by_cases hX : X < nth xs (j + 1)
            · rw [gA X h3 hX, hq] at h5; cases h5
            · exact .inr ⟨h1, h2, by omega, h4, h5⟩
    | true =>
      rw [hq] at k
      obtain ⟨ra9, rb9, j9, acc2, q1, q2, q3, q4⟩ := ih (j + 1) _ _ (acc ++ [⟨nth xs j, y, nth xs (j + 1) - nth xs j, h⟩]) (by omega) (da'.trans sa) (db'.trans sb) ea2 eb2 (by simp; omega)
      rw [List.length_append, List.length_singleton] at q1 q2
      refine ⟨ra9, rb9, j9, acc2, LoopT.next ?_ q1, by omega, fun r hr => ?_, fun X Y => ?_⟩
      · rcases hg with rfl | rfl
        · exact ji_yesm ys xs da db i y h ra rb _ _ j acc _ _ _ _ hj2 (by omega) (fun x hx => by have := rx x hx; omega) rfl (by omega) ha hb k rfl
        · exact ji_yesd ys xs da db i y h ra rb _ _ j acc _ _ _ _ hj2 (by omega) (fun x hx => by have := rx x hx; omega) rfl (by omega) ha hb k rfl
      · rcases q3 r hr with h1 | h1
        · rcases List.mem_append.1 h1 with h1 | h1
          · exact .inl h1
          · rw [List.mem_singleton] at h1
            subst h1
            right
            unfold RcIn
            simp only
            omega
        · exact .inr h1
      · rw [q4, inR_snoc, show j + (d + 1) = j + 1 + d by omega]
        unfold inC
        simp only
        constructor
        · rintro ((h1 | ⟨h1, h2, h3, h4⟩) | ⟨h1, h2, h3, h4, h5⟩)
          · exact .inl h1
          · exact .inr ⟨h3, h4, h1, by omega, by rw [gA X h1 (by omega)]; exact hq⟩
          · exact .inr ⟨h1, h2, by omega, h4, h5⟩
        · rintro (h1 | ⟨h1, h2, h3, h4, h5⟩)
          · exact .inl (.inl h1)
          · by_cases hX : X < nth xs (j + 1)
            · exact .inl (.inr ⟨h3, by omega, h1, h2⟩)
            · exact .inr ⟨h1, h2, by omega, h4, h5⟩
end Go.Proofs.Ytcnlgdbmcdlknaa.Bn
