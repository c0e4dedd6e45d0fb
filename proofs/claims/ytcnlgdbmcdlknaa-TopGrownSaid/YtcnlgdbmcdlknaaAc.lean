/- How many rectangles there are, and where; rectangles changed one by one. By the prover of this seat. -/
import Derived.Test.YtcnlgdbmcdlknaaAb
set_option linter.unusedVariables false
set_option linter.unusedSimpArgs false
namespace Go.Proofs.Ytcnlgdbmcdlknaa.Bn
def RcIn (n : Int) (r : Rc) : Prop := -n ≤ r.x ∧ 0 < r.w ∧ r.x + r.w ≤ n ∧ -n ≤ r.y ∧ 0 < r.h ∧ r.y + r.h ≤ n
theorem mem_toR {B : List Bd} {r : Rc} : r ∈ toR B ↔ ∃ b ∈ B, ∃ p ∈ b.s, r = rcS b.y0 b.y1 p := by
  unfold toR bdR
  rw [List.mem_flatMap]
  constructor
  · rintro ⟨b, hb, h⟩
    obtain ⟨p, hp, rfl⟩ := List.mem_map.1 h
    exact ⟨b, hb, p, hp, rfl⟩
  · rintro ⟨b, hb, p, hp, rfl⟩
    exact ⟨b, hb, List.mem_map.2 ⟨p, hp, rfl⟩⟩
theorem bd_rng {n : Int} {P : Pl} (h : Reg n P) : ∀ b ∈ bands P, -n ≤ b.y0 ∧ b.y1 ≤ n ∧ ∀ p ∈ b.s, -n ≤ p.a ∧ p.b ≤ n := by
  obtain ⟨h1, h2⟩ := bands_ok h.1
  intro b hb
  obtain ⟨b0, b1, b2⟩ := h1.1 b hb
  have at_ : ∀ p ∈ b.s, -n ≤ p.a ∧ p.b ≤ n ∧ -n ≤ b.y0 ∧ b.y1 ≤ n := by
    intro p hp
    have hp0 := b2.1 p hp
    have k1 := h.2 _ _ ((h2 p.a b.y0).1 ⟨b, hb, by omega, b0, p, hp, by omega, hp0⟩)
    have k2 := h.2 _ _ ((h2 (p.b - 1) (b.y1 - 1)).1 ⟨b, hb, by omega, by omega, p, hp, by omega, by omega⟩)
    omega
  obtain ⟨p, hp⟩ : ∃ p, p ∈ b.s := List.exists_mem_of_ne_nil _ b1
  have := at_ p hp
  exact ⟨this.2.2.1, this.2.2.2, fun p hp => ⟨(at_ p hp).1, (at_ p hp).2.1⟩⟩
theorem canon_rng {n : Int} {P : Pl} (h : Reg n P) : ∀ r ∈ canon P, RcIn n r := by
  intro r hr
  obtain ⟨b, hb, p, hp, rfl⟩ := mem_toR.1 hr
  obtain ⟨a1, a2, a3⟩ := bd_rng h b hb
  obtain ⟨b0, b1, b2⟩ := (bands_ok h.1).1.1 b hb
  have := b2.1 p hp
  have := a3 p hp
  unfold RcIn rcS
  simp only
  omega
theorem sp_len : ∀ (s : List Sp) (m n : Int), Gp s → (∀ p ∈ s, m ≤ p.a ∧ p.b ≤ n) → m ≤ n → (s.length : Int) ≤ n - m
  | [], m, n, _, _, h => by simp; omega
  | p :: s, m, n, hg, h, hm => by
    obtain ⟨g1, g2, g3⟩ := hg.cons
    have hp := h p (by simp)
    have := sp_len s p.b n g2 (fun q hq => ⟨by have := g3 q hq; omega, (h q (by simp [hq])).2⟩) hp.2
    simp only [List.length_cons]
    omega
theorem bd_len : ∀ (B : List Bd) (m n k : Int), Bds B → (∀ b ∈ B, m ≤ b.y0 ∧ b.y1 ≤ n ∧ (b.s.length : Int) ≤ k) → m ≤ n → 0 ≤ k → ((toR B).length : Int) ≤ (n - m) * k
  | [], m, n, k, _, _, h, hk => by simpa [toR] using Int.mul_nonneg (by omega) hk
  | b :: B, m, n, k, hg, h, hm, hk => by
    obtain ⟨g1, g2, g3⟩ := hg.cons
    have hp := h b (by simp)
    have := bd_len B b.y1 n k g2 (fun q hq => ⟨(g3 q hq).1, (h q (by simp [hq])).2⟩) hp.2.1 hk
    have e : (toR (b :: B)).length = b.s.length + (toR B).length := by simp [toR, len_bdR]
    rw [e]
    have h2 : (n - m) * k = (b.y1 - m - 1) * k + k + (n - b.y1) * k := by
      rw [show (n - m) = (b.y1 - m - 1) + 1 + (n - b.y1) by omega, Int.add_mul, Int.add_mul, Int.one_mul]
    have h3 : 0 ≤ (b.y1 - m - 1) * k := Int.mul_nonneg (by omega) hk
    push_cast
    omega
theorem canon_len {n : Int} {P : Pl} (h : Reg n P) (hn : 0 ≤ n) : ((canon P).length : Int) ≤ (n + n) * (n + n) := by
  have h1 := (bands_ok h.1).1
  have := bd_len (bands P) (-n) n (n + n) h1 (fun b hb => by
    obtain ⟨a1, a2, a3⟩ := bd_rng h b hb
    have := sp_len b.s (-n) n (h1.1 b hb).2.2 a3 (by omega)
    exact ⟨a1, a2, by omega⟩) (by omega) (by omega)
  rw [show n - -n = n + n by omega] at this
  exact this
theorem Reg.mono {n m : Int} {P : Pl} (h : Reg n P) (hm : n ≤ m) : Reg m P := ⟨h.1, fun x y p => by have := h.2 x y p; omega⟩
/-! one by one -/
def thinR (r : Rc) : Rc := ⟨r.x + 1, r.y, r.w - 2, r.h⟩
def turnR (r : Rc) : Rc := ⟨r.y, r.x, r.h, r.w⟩
def wideR (r : Rc) : Rc := ⟨r.x - 1, r.y - 1, r.w + 2, r.h + 2⟩
def moveR (dx dy : Int) (r : Rc) : Rc := ⟨r.x + dx, r.y + dy, r.w, r.h⟩
def flipX (n : Int) (r : Rc) : Rc := ⟨n - r.x - r.w, r.y, r.w, r.h⟩
def flipY (n : Int) (r : Rc) : Rc := ⟨r.x, n - r.y - r.h, r.w, r.h⟩
def thinP (P : Pl) : Pl := fun x y => P (x - 1) y ∧ P x y ∧ P (x + 1) y
def turnP (P : Pl) : Pl := fun x y => P y x
def lowP (P : Pl) : Pl := fun x y => P x (y - 1) ∧ P x y ∧ P x (y + 1)
def moveP (dx dy : Int) (P : Pl) : Pl := fun x y => P (x - dx) (y - dy)
def wideP (P : Pl) : Pl := fun x y => ∃ dx dy : Int, -1 ≤ dx ∧ dx ≤ 1 ∧ -1 ≤ dy ∧ dy ≤ 1 ∧ P (x + dx) (y + dy)
theorem inR_map (f : Rc → Rc) (l : List Rc) (x y : Int) : inR (l.map f) x y ↔ ∃ r ∈ l, inC (f r) x y := by
  unfold inR
  constructor
  · rintro ⟨r, hr, h⟩
    obtain ⟨q, hq, rfl⟩ := List.mem_map.1 hr
    exact ⟨q, hq, h⟩
  · rintro ⟨q, hq, h⟩
    exact ⟨_, List.mem_map.2 ⟨q, hq, rfl⟩, h⟩
theorem turn_in (l : List Rc) (x y : Int) : inR (l.map turnR) x y ↔ inR l y x := by
  rw [inR_map]
  unfold inR
  exact ⟨fun ⟨r, hr, h⟩ => ⟨r, hr, by unfold inC turnR at *; simp only at h; omega⟩, fun ⟨r, hr, h⟩ => ⟨r, hr, by unfold inC turnR at *; simp only; omega⟩⟩
theorem move_in (dx dy : Int) (l : List Rc) (x y : Int) : inR (l.map (moveR dx dy)) x y ↔ inR l (x - dx) (y - dy) := by
  rw [inR_map]
  unfold inR
  exact ⟨fun ⟨r, hr, h⟩ => ⟨r, hr, by unfold inC moveR at *; simp only at h; omega⟩, fun ⟨r, hr, h⟩ => ⟨r, hr, by unfold inC moveR at *; simp only; omega⟩⟩
theorem flipX_in (n : Int) (l : List Rc) (x y : Int) : inR (l.map (flipX n)) x y ↔ inR l (n - 1 - x) y := by
  rw [inR_map]
  unfold inR
  exact ⟨fun ⟨r, hr, h⟩ => ⟨r, hr, by unfold inC flipX at *; simp only at h; omega⟩, fun ⟨r, hr, h⟩ => ⟨r, hr, by unfold inC flipX at *; simp only; omega⟩⟩
theorem flipY_in (n : Int) (l : List Rc) (x y : Int) : inR (l.map (flipY n)) x y ↔ inR l x (n - 1 - y) := by
  rw [inR_map]
  unfold inR
  exact ⟨fun ⟨r, hr, h⟩ => ⟨r, hr, by unfold inC flipY at *; simp only at h; omega⟩, fun ⟨r, hr, h⟩ => ⟨r, hr, by unfold inC flipY at *; simp only; omega⟩⟩
theorem wide_in (l : List Rc) (hl : ∀ r ∈ l, 0 < r.w ∧ 0 < r.h) (x y : Int) : inR (l.map wideR) x y ↔ wideP (inR l) x y := by
  rw [inR_map]
  unfold wideP inR
  constructor
  · rintro ⟨r, hr, h⟩
    have := hl r hr
    unfold inC wideR at h
    simp only at h
    refine ⟨if x < r.x then 1 else if x < r.x + r.w then 0 else -1, if y < r.y then 1 else if y < r.y + r.h then 0 else -1, ?_, ?_, ?_, ?_, r, hr, ?_⟩
    · split <;> (try split) <;> omega
    · split <;> (try split) <;> omega
    · split <;> (try split) <;> omega
    · split <;> (try split) <;> omega
    · unfold inC
      refine ⟨?_, ?_, ?_, ?_⟩ <;> (split <;> (try split) <;> omega)
  · rintro ⟨dx, dy, h1, h2, h3, h4, r, hr, h⟩
    refine ⟨r, hr, ?_⟩
    unfold inC wideR at *
    simp only
    omega
/-- two places side by side lie in one stretch -/
theorem one_span {s : List Sp} (g : Gp s) {x : Int} {p q : Sp} (hp : p ∈ s) (hq : q ∈ s) (p1 : p.a ≤ x) (p2 : x < p.b) (q1 : q.a ≤ x + 1) (q2 : x + 1 < q.b) : p = q := by
  induction s with
  | nil => cases hp
  | cons t s ih =>
    obtain ⟨g1, g2, g3⟩ := g.cons
    rcases List.mem_cons.1 hp with e1 | h1 <;> rcases List.mem_cons.1 hq with e2 | h2
    · rw [e1, e2]
    · have := g3 q h2; rw [← e1] at this; omega
    · have h5 := g3 p h1; have h6 := g2.1 p h1; rw [← e2] at h5; omega
    · exact ih g2 h1 h2
theorem one_band {B : List Bd} (h : Bds B) {y : Int} {b c : Bd} (hb : b ∈ B) (hc : c ∈ B) (b0 : b.y0 ≤ y) (b1 : y < b.y1) (c0 : c.y0 ≤ y) (c1 : y < c.y1) : b = c := by
  induction B with
  | nil => cases hb
  | cons t B ih =>
    obtain ⟨g1, g2, g3⟩ := h.cons
    rcases List.mem_cons.1 hb with e1 | h1 <;> rcases List.mem_cons.1 hc with e2 | h2
    · rw [e1, e2]
    · have := (g3 c h2).1; rw [← e1] at this; omega
    · have := (g3 b h1).1; rw [← e2] at this; omega
    · exact ih g2 h1 h2
theorem thin_in {n : Int} {P : Pl} (h : Reg n P) (x y : Int) : inR ((canon P).map thinR) x y ↔ thinP P x y := by
  obtain ⟨h1, h2⟩ := bands_ok h.1
  rw [inR_map]
  unfold thinP
  constructor
  · rintro ⟨r, hr, hc⟩
    obtain ⟨b, hb, p, hp, rfl⟩ := mem_toR.1 hr
    unfold inC thinR rcS at hc
    simp only at hc
    refine ⟨(h2 _ _).1 ⟨b, hb, by omega, by omega, p, hp, by omega, by omega⟩, (h2 _ _).1 ⟨b, hb, by omega, by omega, p, hp, by omega, by omega⟩, (h2 _ _).1 ⟨b, hb, by omega, by omega, p, hp, by omega, by omega⟩⟩
  · rintro ⟨k1, k2, k3⟩
    obtain ⟨b, hb, b0, b1, p, hp, p1, p2⟩ := (h2 _ _).2 k1
    obtain ⟨c, hc, c0, c1, q, hq, q1, q2⟩ := (h2 _ _).2 k2
    obtain ⟨d, hd, d0, d1, t, ht, t1, t2⟩ := (h2 _ _).2 k3
    obtain rfl := one_band h1 hb hc b0 b1 c0 c1
    obtain rfl := one_band h1 hb hd b0 b1 d0 d1
    have g := (h1.1 b hb).2.2
    obtain rfl := one_span g hp hq p1 p2 (by omega) (by omega)
    obtain rfl := one_span g hp ht q1 q2 t1 t2
    refine ⟨_, mem_toR.2 ⟨b, hb, p, hp, rfl⟩, ?_⟩
    unfold inC thinR rcS
    simp only
    omega
end Go.Proofs.Ytcnlgdbmcdlknaa.Bn
