/- Sets of places, and the one way to tell them. By the prover of this seat. -/
import Derived.Test.YtcnlgdbmcdlknaaPmE
set_option linter.unusedVariables false
set_option linter.unusedSimpArgs false
namespace Go.Proofs.Ytcnlgdbmcdlknaa.Bn
structure Rc where
  x : Int
  y : Int
  w : Int
  h : Int
  deriving DecidableEq, Inhabited
structure Sp where
  a : Int
  b : Int
  deriving DecidableEq, Inhabited
structure Bd where
  y0 : Int
  y1 : Int
  s : List Sp
  deriving DecidableEq, Inhabited
abbrev Pl := Int → Int → Prop
def inS (s : List Sp) (x : Int) : Prop := ∃ p ∈ s, p.a ≤ x ∧ x < p.b
def inB (B : List Bd) : Pl := fun x y => ∃ b ∈ B, b.y0 ≤ y ∧ y < b.y1 ∧ inS b.s x
def inC (r : Rc) : Pl := fun x y => r.x ≤ x ∧ x < r.x + r.w ∧ r.y ≤ y ∧ y < r.y + r.h
def inR (l : List Rc) : Pl := fun x y => ∃ r ∈ l, inC r x y
/-- stretches with gaps between -/
def Gp (s : List Sp) : Prop := (∀ p ∈ s, p.a < p.b) ∧ s.Pairwise (fun p q => p.b < q.a)
/-- bands: none goes on in the next one -/
def Bds (B : List Bd) : Prop := (∀ b ∈ B, b.y0 < b.y1 ∧ b.s ≠ [] ∧ Gp b.s) ∧ B.Pairwise (fun p q => p.y1 ≤ q.y0 ∧ (p.y1 = q.y0 → p.s ≠ q.s))
theorem inS_cons (p : Sp) (s : List Sp) (x : Int) : inS (p :: s) x ↔ (p.a ≤ x ∧ x < p.b) ∨ inS s x := by
  simp [inS]
theorem inS_nil (x : Int) : ¬ inS [] x := by simp [inS]
theorem inB_cons (b : Bd) (B : List Bd) (x y : Int) : inB (b :: B) x y ↔ (b.y0 ≤ y ∧ y < b.y1 ∧ inS b.s x) ∨ inB B x y := by
  simp [inB]
theorem inR_cons (r : Rc) (l : List Rc) (x y : Int) : inR (r :: l) x y ↔ inC r x y ∨ inR l x y := by
  simp [inR]
theorem inR_app (l k : List Rc) (x y : Int) : inR (l ++ k) x y ↔ inR l x y ∨ inR k x y := by
  simp [inR, or_and_right, exists_or]
theorem inB_app (l k : List Bd) (x y : Int) : inB (l ++ k) x y ↔ inB l x y ∨ inB k x y := by
  simp [inB, or_and_right, exists_or]
theorem Gp.cons {p : Sp} {s : List Sp} (h : Gp (p :: s)) : p.a < p.b ∧ Gp s ∧ ∀ q ∈ s, p.b < q.a := ⟨h.1 p (by simp), ⟨fun q hq => h.1 q (by simp [hq]), (List.pairwise_cons.1 h.2).2⟩, (List.pairwise_cons.1 h.2).1⟩
theorem Gp.uniq : ∀ {s t : List Sp}, Gp s → Gp t → (∀ x, inS s x ↔ inS t x) → s = t := by
  intro s
  induction s with
  | nil =>
    intro t _ ht h
    cases t with
    | nil => rfl
    | cons q t => exact absurd ((h q.a).2 ⟨q, by simp, by omega, ht.cons.1⟩) (inS_nil _)
  | cons p s ih =>
    intro t hs ht h
    cases t with
    | nil => exact absurd ((h p.a).1 ⟨p, by simp, by omega, hs.cons.1⟩) (inS_nil _)
    | cons q t =>
      obtain ⟨p1, gs, ps⟩ := hs.cons
      obtain ⟨q1, gt, qt⟩ := ht.cons
      have low : ∀ x, inS (p :: s) x → p.a ≤ x := by
        rintro x ⟨r, hr, h1, h2⟩
        rcases List.mem_cons.1 hr with rfl | hr
        · exact h1
        · have := ps r hr; omega
      have lowt : ∀ x, inS (q :: t) x → q.a ≤ x := by
        rintro x ⟨r, hr, h1, h2⟩
        rcases List.mem_cons.1 hr with rfl | hr
        · exact h1
        · have := qt r hr; omega
      have e1 : p.a = q.a := by
        have h1 := lowt _ ((h p.a).1 ⟨p, by simp, by omega, p1⟩)
        have h2 := low _ ((h q.a).2 ⟨q, by simp, by omega, q1⟩)
        omega
      have nb : ¬ inS (p :: s) p.b := by
        rintro ⟨r, hr, h1, h2⟩
        rcases List.mem_cons.1 hr with rfl | hr
        · omega
        · have := ps r hr; omega
      have nc : ¬ inS (q :: t) q.b := by
        rintro ⟨r, hr, h1, h2⟩
        rcases List.mem_cons.1 hr with rfl | hr
        · omega
        · have := qt r hr; omega
      have e2 : p.b = q.b := by
        have h1 : ¬ p.b < q.b := fun c => nb ((h p.b).2 ⟨q, by simp, by omega, c⟩)
        have h2 : ¬ q.b < p.b := fun c => nc ((h q.b).1 ⟨p, by simp, by omega, c⟩)
        omega
      have e : p = q := by cases p; cases q; simp at e1 e2; rw [e1, e2]
      subst e
      rw [ih gs gt fun x => ?_]
      have := h x
      rw [inS_cons, inS_cons] at this
      constructor
      · intro hx
        obtain ⟨r, hr, h1, h2⟩ := hx
        have hp := ps r hr
        rcases this.1 (.inr ⟨r, hr, h1, h2⟩) with c | c
        · omega
        · exact c
      · intro hx
        obtain ⟨r, hr, h1, h2⟩ := hx
        have hp := qt r hr
        rcases this.2 (.inr ⟨r, hr, h1, h2⟩) with c | c
        · omega
        · exact c
theorem Bds.cons {b : Bd} {B : List Bd} (h : Bds (b :: B)) : (b.y0 < b.y1 ∧ b.s ≠ [] ∧ Gp b.s) ∧ Bds B ∧ ∀ c ∈ B, b.y1 ≤ c.y0 ∧ (b.y1 = c.y0 → b.s ≠ c.s) := ⟨h.1 b (by simp), ⟨fun c hc => h.1 c (by simp [hc]), (List.pairwise_cons.1 h.2).2⟩, (List.pairwise_cons.1 h.2).1⟩
theorem row_first {b : Bd} {B : List Bd} (h : Bds (b :: B)) {y : Int} (h0 : b.y0 ≤ y) (h1 : y < b.y1) (x : Int) : inB (b :: B) x y ↔ inS b.s x := by
  rw [inB_cons]
  constructor
  · rintro (c | ⟨c, hc, c0, c1, -⟩)
    · exact c.2.2
    · have := (h.cons.2.2 c hc).1; omega
  · intro c; exact .inl ⟨h0, h1, c⟩
theorem some_in {s : List Sp} (h : s ≠ []) (g : Gp s) : ∃ x, inS s x := by
  cases s with
  | nil => exact absurd rfl h
  | cons p s => exact ⟨p.a, p, by simp, by omega, g.cons.1⟩
theorem y1_le {b c : Bd} {B C : List Bd} (hb : Bds (b :: B)) (hc : Bds (c :: C)) (h : ∀ x y, inB (b :: B) x y ↔ inB (c :: C) x y) (h0 : b.y0 = c.y0) (hs : b.s = c.s) : ¬ b.y1 < c.y1 := by
  intro hlt
  obtain ⟨⟨b0, b1, b2⟩, -, b3⟩ := hb.cons
  have hrow : ∀ x, inB (b :: B) x b.y1 ↔ inS b.s x := fun x => by
    rw [h, row_first hc (by omega) hlt, hs]
  obtain ⟨x, hx⟩ := some_in b1 b2
  have := (hrow x).2 hx
  rw [inB_cons] at this
  rcases this with q | ⟨d, hd, d0, d1, dx⟩
  · omega
  · have hd' := b3 d hd
    have e : b.y1 = d.y0 := by omega
    refine hd'.2 e (Gp.uniq b2 (hb.1 d (by simp [hd])).2.2 fun z => ?_)
    rw [← hrow z, inB_cons]
    constructor
    · rintro (q | ⟨d2, hd2, e0, e1, ez⟩)
      · omega
      · by_cases hdd : d2 = d
        · rw [← hdd]; exact ez
        · have hp := hb.cons.2.1.2
          exfalso
          rcases List.mem_iff_append.1 hd with ⟨u, v, rfl⟩
          have hp := List.pairwise_append.1 hp
          rcases List.mem_append.1 hd2 with k | k
          · have := (hp.2.2 d2 k d (by simp)).1
            have g := (hb.1 d2 (by simp [k])).1
            omega
          · rcases List.mem_cons.1 k with k | k
            · exact hdd k
            · have := ((List.pairwise_cons.1 hp.2.1).1 d2 k).1
              omega
    · intro hz
      exact .inr ⟨d, hd, d0, d1, hz⟩
theorem Bds.uniq : ∀ {B C : List Bd}, Bds B → Bds C → (∀ x y, inB B x y ↔ inB C x y) → B = C := by
  intro B
  induction B with
  | nil =>
    intro C _ hC h
    cases C with
    | nil => rfl
    | cons c C =>
      obtain ⟨⟨c0, c1, c2⟩, -, -⟩ := hC.cons
      obtain ⟨x, hx⟩ := some_in c1 c2
      have := (h x c.y0).2 ((row_first hC (by omega) c0 x).2 hx)
      simp [inB] at this
  | cons b B ih =>
    intro C hB hC h
    obtain ⟨⟨b0, b1, b2⟩, gB, b3⟩ := hB.cons
    cases C with
    | nil =>
      obtain ⟨x, hx⟩ := some_in b1 b2
      have := (h x b.y0).1 ((row_first hB (by omega) b0 x).2 hx)
      simp [inB] at this
    | cons c C =>
      obtain ⟨⟨c0, c1, c2⟩, gC, c3⟩ := hC.cons
      have lowB : ∀ x y, inB (b :: B) x y → b.y0 ≤ y := by
        rintro x y ⟨d, hd, d0, d1, -⟩
        rcases List.mem_cons.1 hd with rfl | hd
        · exact d0
        · have := (b3 d hd).1; omega
      have lowC : ∀ x y, inB (c :: C) x y → c.y0 ≤ y := by
        rintro x y ⟨d, hd, d0, d1, -⟩
        rcases List.mem_cons.1 hd with rfl | hd
        · exact d0
        · have := (c3 d hd).1; omega
      have e0 : b.y0 = c.y0 := by
        obtain ⟨x, hx⟩ := some_in b1 b2
        obtain ⟨z, hz⟩ := some_in c1 c2
        have h1 := lowC _ _ ((h x b.y0).1 ((row_first hB (by omega) b0 x).2 hx))
        have h2 := lowB _ _ ((h z c.y0).2 ((row_first hC (by omega) c0 z).2 hz))
        omega
      have es : b.s = c.s := Gp.uniq b2 c2 fun x => by
        rw [← row_first hB (y := b.y0) (by omega) b0 x, ← row_first hC (y := b.y0) (by omega) (by omega) x, h]
      have e1 : b.y1 = c.y1 := by
        have h1 := y1_le hB hC h e0 es
        have h2 := y1_le hC hB (fun x y => (h x y).symm) e0.symm es.symm
        omega
      have e : b = c := by cases b; cases c; simp at e0 e1 es; rw [e0, e1, es]
      subst e
      rw [ih gB gC fun x y => ?_]
      have := h x y
      rw [inB_cons, inB_cons] at this
      constructor
      · rintro ⟨d, hd, d0, d1, dx⟩
        have hp := (b3 d hd).1
        rcases this.1 (.inr ⟨d, hd, d0, d1, dx⟩) with q | q
        · omega
        · exact q
      · rintro ⟨d, hd, d0, d1, dx⟩
        have hp := (c3 d hd).1
        rcases this.2 (.inr ⟨d, hd, d0, d1, dx⟩) with q | q
        · omega
        · exact q
/-- a stretch of a band -/
def rcS (y0 y1 : Int) (p : Sp) : Rc := ⟨p.a, y0, p.b - p.a, y1 - y0⟩
def bdR (b : Bd) : List Rc := b.s.map (rcS b.y0 b.y1)
def toR (B : List Bd) : List Rc := B.flatMap bdR
theorem in_bdR (b : Bd) (x y : Int) : inR (bdR b) x y ↔ b.y0 ≤ y ∧ y < b.y1 ∧ inS b.s x := by
  unfold inR bdR inS inC rcS
  constructor
  · rintro ⟨r, hr, h⟩
    obtain ⟨p, hp, rfl⟩ := List.mem_map.1 hr
    simp only at h
    exact ⟨by omega, by omega, p, hp, by omega, by omega⟩
  · rintro ⟨h0, h1, p, hp, h2, h3⟩
    exact ⟨_, List.mem_map.2 ⟨p, hp, rfl⟩, by simp only; omega⟩
theorem in_toR (B : List Bd) (x y : Int) : inR (toR B) x y ↔ inB B x y := by
  induction B with
  | nil => simp [toR, inR, inB]
  | cons b B ih =>
    rw [toR, List.flatMap_cons, inR_app, in_bdR, inB_cons]
    rw [show List.flatMap bdR B = toR B from rfl, ih]
/-- the one way to tell a set -/
noncomputable def bands (P : Pl) : List Bd := by
  classical exact if h : ∃ B, Bds B ∧ ∀ x y, inB B x y ↔ P x y then Classical.choose h else []
noncomputable def canon (P : Pl) : List Rc := toR (bands P)
/-- a set that can be told, by places below n in size -/
def Reg (n : Int) (P : Pl) : Prop := (∃ B, Bds B ∧ ∀ x y, inB B x y ↔ P x y) ∧ ∀ x y, P x y → -n ≤ x ∧ x < n ∧ -n ≤ y ∧ y < n
theorem bands_ok {P : Pl} (h : ∃ B, Bds B ∧ ∀ x y, inB B x y ↔ P x y) : Bds (bands P) ∧ ∀ x y, inB (bands P) x y ↔ P x y := by
  unfold bands
  rw [dif_pos h]
  exact Classical.choose_spec h
theorem bands_eq {P : Pl} {B : List Bd} (hB : Bds B) (h : ∀ x y, inB B x y ↔ P x y) : bands P = B := by
  obtain ⟨h1, h2⟩ := bands_ok ⟨B, hB, h⟩
  exact Bds.uniq h1 hB fun x y => by rw [h2, h]
theorem canon_eq {P : Pl} {B : List Bd} (hB : Bds B) (h : ∀ x y, inB B x y ↔ P x y) : canon P = toR B := by
  unfold canon
  rw [bands_eq hB h]
theorem in_canon {n : Int} {P : Pl} (h : Reg n P) (x y : Int) : inR (canon P) x y ↔ P x y := by
  unfold canon
  rw [in_toR, (bands_ok h.1).2]
theorem canon_inj {n m : Int} {P Q : Pl} (h : Reg n P) (k : Reg m Q) (e : canon P = canon Q) (x y : Int) : P x y ↔ Q x y := by
  rw [← in_canon h, ← in_canon k, e]
theorem pl_ext {P Q : Pl} (h : ∀ x y, P x y ↔ Q x y) : P = Q := funext fun x => funext fun y => propext (h x y)
end Go.Proofs.Ytcnlgdbmcdlknaa.Bn
