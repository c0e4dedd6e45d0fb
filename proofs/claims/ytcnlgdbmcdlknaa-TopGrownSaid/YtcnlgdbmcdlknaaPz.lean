/- The operations upon regions, as sets of places. By the prover of this seat. Grown, flipped: the rest of the operations. By the prover of this seat. Grown and edged: the law. By the prover of this seat. Grown and edged: the shapes of what comes in. By the prover of this seat. -/
import Derived.Test.YtcnlgdbmcdlknaaPh
import Derived.Test.YtcnlgdbmcdlknaaPi
import Derived.Test.YtcnlgdbmcdlknaaPj
set_option linter.unusedVariables false
set_option linter.unusedSimpArgs false
set_option maxRecDepth 100000
set_option maxHeartbeats 400000
namespace Go.Proofs.Ytcnlgdbmcdlknaa.Bn
open Go Go.RowKit Go.Pm
theorem inR_filter (l : List Rc) (x y : Int) : inR (l.filter cntR) x y ↔ inR l x y := by
  constructor
  · rintro ⟨r, hr, h⟩; exact ⟨r, (List.mem_filter.1 hr).1, h⟩
  · rintro ⟨r, hr, h⟩
    refine ⟨r, List.mem_filter.2 ⟨hr, ?_⟩, h⟩
    obtain ⟨h1, h2, h3, h4⟩ := h
    unfold cntR
    rw [decide_t (show 0 < r.w by omega), decide_t (show 0 < r.h by omega)]
    rfl
theorem RcIn.mono {n m : Int} {r : Rc} (h : RcIn n r) (hm : n ≤ m) : RcIn m r := by
  unfold RcIn at h ⊢
  omega
theorem of_canon (l : List Rc) (n : Int) (hn : n ≤ 200) (hlen : l.length ≤ 200000) (hs : ∀ r ∈ l, Sm r) (hc : ∀ r ∈ l, cntR r = true → RcIn n r) (P : Pl) (hP : ∀ x y, inR l x y ↔ P x y) : PT 5 [slR l] (rgA (canon P)) ∧ Reg n P := by
  obtain ⟨h1, h2⟩ := of_ok l hlen hs (fun r hr h => (hc r hr h).mono hn)
  have e : inR (l.filter cntR) = P := pl_ext fun x y => by rw [inR_filter, hP]
  rw [e] at h1 h2
  refine ⟨h1, h2.1, fun x y hxy => ?_⟩
  rw [← e] at hxy
  obtain ⟨r, hr, a1, a2, a3, a4⟩ := hxy
  obtain ⟨b1, b2, b3, b4, b5, b6⟩ := hc r (List.mem_filter.1 hr).1 (List.mem_filter.1 hr).2
  omega
theorem canon_n {n : Int} {P : Pl} (h : Reg n P) (hn : n ≤ 200) : (∀ r ∈ canon P, RcIn n r) ∧ (∀ r ∈ canon P, Sm r) ∧ (canon P).length ≤ 160000 :=
  ⟨canon_rng h, fun r hr => ((canon_rng h r hr).mono hn).sm, (canon_lim (h.mono hn)).2.2⟩
theorem reg_sub {n m : Int} {P Q : Pl} (h : Reg m Q) (hP : Reg n P) (hs : ∀ x y, Q x y → P x y) : Reg n Q := ⟨h.1, fun x y hq => hP.2 x y (hs x y hq)⟩
theorem shift_ok {n k dx dy : Int} {P : Pl} (hP : Reg n P) (hn : 0 ≤ n) (hk : 0 ≤ k) (hnk : n + k ≤ 200) (x0 : -k ≤ dx) (x1 : dx ≤ k) (y0 : -k ≤ dy) (y1 : dy ≤ k) : PT 9 [rgA (canon P), i64 dx, i64 dy] (rgA (canon (moveP dx dy P))) ∧ Reg (n + k) (moveP dx dy P) := by
  obtain ⟨c1, c2, c3⟩ := canon_n hP (by omega)
  have ho := of_canon ((canon P).map (moveR dx dy)) (n + k) hnk (by rw [List.length_map]; omega) (fun r hr => by
    obtain ⟨q, hq, rfl⟩ := List.mem_map.1 hr
    obtain ⟨b1, b2, b3, b4, b5, b6⟩ := c1 q hq
    unfold Sm moveR
    simp only
    omega) (fun r hr _ => by
    obtain ⟨q, hq, rfl⟩ := List.mem_map.1 hr
    obtain ⟨b1, b2, b3, b4, b5, b6⟩ := c1 q hq
    unfold RcIn moveR
    simp only
    omega) (moveP dx dy P) (fun x y => by rw [move_in]; exact in_canon hP _ _)
  have hL := LoopT.count (fun j => shS dx dy (canon P).length (mixD (moveR dx dy) (canon P) j) j) (canon P).length (fun j hj => by
    have hn := mix_nth (moveR dx dy) (canon P) j hj
    exact sh_step dx dy _ _ _ (mix_len _ _ _) j hj (by omega) (by rw [hn]; exact c2 _ (nth_mem hj)) (by omega) (by omega) (by omega) (by omega) (by rw [hn]; exact mix_next (moveR dx dy) (canon P) j hj)) (sh_end dx dy _ _) 0 (Nat.zero_le _)
  rw [mix_zero, mix_end] at hL
  exact ⟨sh_fn dx dy (canon P) _ _ (by omega) (by omega) (by omega) (by omega) (by omega) hL (by rw [slV_eq _ _ (by rw [List.length_map])]; exact ho.1), ho.2⟩
theorem thin_ok {n : Int} {P : Pl} (hP : Reg n P) (hn : n ≤ 200) : PT 30 [rgA (canon P), i64 1] (rgA (canon (thinP P))) ∧ Reg n (thinP P) := by
  obtain ⟨c1, c2, c3⟩ := canon_n hP hn
  have ho := of_canon ((canon P).map thinR) n hn (by rw [List.length_map]; omega) (fun r hr => by
    obtain ⟨q, hq, rfl⟩ := List.mem_map.1 hr
    obtain ⟨b1, b2, b3, b4, b5, b6⟩ := c1 q hq
    unfold Sm thinR
    simp only
    omega) (fun r hr h => by
    obtain ⟨q, hq, rfl⟩ := List.mem_map.1 hr
    obtain ⟨b1, b2, b3, b4, b5, b6⟩ := c1 q hq
    unfold cntR thinR at h
    rw [Bool.and_eq_true, decide_eq_true_iff, decide_eq_true_iff] at h
    unfold RcIn thinR
    simp only at h ⊢
    omega) (thinP P) (fun x y => thin_in hP x y)
  have hL := LoopT.count (fun j => thS (canon P).length (mixD thinR (canon P) j) j) (canon P).length (fun j hj => by
    have hn := mix_nth thinR (canon P) j hj
    have h := th_step (canon P).length (mixD thinR (canon P) j) (mix_len _ _ _) j (by rw [mix_len]; exact hj) (by rw [mix_len]; omega) (by rw [hn]; exact c2 _ (nth_mem hj))
    rw [hn, mix_next thinR (canon P) j hj] at h
    exact h) (th_end _ _) 0 (Nat.zero_le _)
  rw [mix_zero, mix_end] at hL
  exact ⟨th_fn (canon P) _ _ (by omega) hL (by rw [slV_eq _ _ (by rw [List.length_map])]; exact ho.1), ho.2⟩
theorem turn_ok {n : Int} {P : Pl} (hP : Reg n P) (hn : n ≤ 200) : PT 52 [rgA (canon P)] (rgA (canon (turnP P))) ∧ Reg n (turnP P) := by
  obtain ⟨c1, c2, c3⟩ := canon_n hP hn
  have ho := of_canon ((canon P).map turnR) n hn (by rw [List.length_map]; omega) (fun r hr => by
    obtain ⟨q, hq, rfl⟩ := List.mem_map.1 hr
    obtain ⟨b1, b2, b3, b4, b5, b6⟩ := c1 q hq
    unfold Sm turnR
    simp only
    omega) (fun r hr h => by
    obtain ⟨q, hq, rfl⟩ := List.mem_map.1 hr
    obtain ⟨b1, b2, b3, b4, b5, b6⟩ := c1 q hq
    unfold RcIn turnR
    simp only
    omega) (turnP P) (fun x y => by rw [turn_in]; exact in_canon hP y x)
  have hL := LoopT.count (fun j => tuS (canon P).length (mixD turnR (canon P) j) j) (canon P).length (fun j hj => by
    have hn := mix_nth turnR (canon P) j hj
    exact tu_step _ _ _ (mix_len _ _ _) j hj (by omega) (by rw [hn]; exact mix_next turnR (canon P) j hj)) (tu_end _ _) 0 (Nat.zero_le _)
  rw [mix_zero, mix_end] at hL
  exact ⟨tu_fn (canon P) _ _ (by omega) hL (by rw [slV_eq _ _ (by rw [List.length_map])]; exact ho.1), ho.2⟩
theorem low_ok {n : Int} {P : Pl} (hP : Reg n P) (hn : n ≤ 200) : PT 29 [rgA (canon P), i64 1] (rgA (canon (lowP P))) ∧ Reg n (lowP P) := by
  obtain ⟨h1, k1⟩ := turn_ok hP hn
  obtain ⟨h2, k2⟩ := thin_ok k1 hn
  obtain ⟨h3, k3⟩ := turn_ok k2 hn
  exact ⟨low_fn _ _ _ _ h1 h2 h3, k3⟩
theorem shrink_ok {n : Int} {P : Pl} (hP : Reg n P) (hn : n ≤ 200) : PT 7 [rgA (canon P), i64 (-1)] (.tup [rgA (canon (lowP (thinP P))), i64 0]) ∧ Reg n (lowP (thinP P)) := by
  obtain ⟨h1, k1⟩ := thin_ok hP hn
  obtain ⟨h2, k2⟩ := low_ok k1 hn
  exact ⟨sk_fn _ _ _ h1 h2, k2⟩
theorem union_ok {n : Int} {P Q : Pl} (hP : Reg n P) (hQ : Reg n Q) (hn : n ≤ 200) (hl : (canon P).length + (canon Q).length ≤ 200000) : PT 10 [rgA (canon P), rgA (canon Q)] (rgA (canon (fun x y => P x y ∨ Q x y))) ∧ Reg n (fun x y => P x y ∨ Q x y) := by
  obtain ⟨c1, c2, c3⟩ := canon_n hP hn
  obtain ⟨d1, d2, d3⟩ := canon_n hQ hn
  have ho := of_canon (canon P ++ canon Q) n hn (by rw [List.length_append]; omega) (fun r hr => (List.mem_append.1 hr).elim (c2 r) (d2 r)) (fun r hr _ => (List.mem_append.1 hr).elim (c1 r) (d1 r)) (fun x y => P x y ∨ Q x y) (fun x y => by rw [inR_app, in_canon hP, in_canon hQ])
  exact ⟨union_fn _ _ _ _ (by omega) (by omega) rfl (by rw [slV_eq _ _ (by rw [List.length_append])]; exact ho.1), ho.2⟩
theorem meet_ok {n : Int} {P Q : Pl} (hP : Reg n P) (hQ : Reg 200 Q) (hn : n ≤ 200) : PT 11 [rgA (canon P), rgA (canon Q)] (rgA (canon (fun x y => P x y ∧ Q x y))) ∧ Reg n (fun x y => P x y ∧ Q x y) := by
  obtain ⟨h1, h2⟩ := join_ok 36 (.inl rfl) (fun a b => a && b) andF_ok (fun b => rfl) (hP.mono hn) hQ
  have e : joinP (fun a b => a && b) P Q = fun x y => P x y ∧ Q x y := pl_ext fun x y => by unfold joinP; rw [Bool.and_eq_true, pB_iff, pB_iff]
  rw [e] at h1 h2
  exact ⟨meet_fn _ _ _ h1, reg_sub h2 hP fun x y h => h.1⟩
theorem minus_ok {n : Int} {P Q : Pl} (hP : Reg n P) (hQ : Reg 200 Q) (hn : n ≤ 200) : PT 14 [rgA (canon P), rgA (canon Q)] (rgA (canon (fun x y => P x y ∧ ¬ Q x y))) ∧ Reg n (fun x y => P x y ∧ ¬ Q x y) := by
  obtain ⟨h1, h2⟩ := join_ok 39 (.inr rfl) (fun a b => a && !b) butF_ok (fun b => rfl) (hP.mono hn) hQ
  have e : joinP (fun a b => a && !b) P Q = fun x y => P x y ∧ ¬ Q x y := pl_ext fun x y => by unfold joinP; rw [Bool.and_eq_true, pB_iff, Bool.not_eq_true', ← Bool.not_eq_true, pB_iff]
  rw [e] at h1 h2
  exact ⟨minus_fn _ _ _ h1, reg_sub h2 hP fun x y h => h.1⟩
theorem canon_nil {P : Pl} (h : ∀ x y, ¬ P x y) : canon P = [] := by
  have : canon P = toR [] := canon_eq ⟨fun b hb => (by cases hb), List.Pairwise.nil⟩ fun x y => ⟨fun ⟨b, hb, _⟩ => (by cases hb), fun c => absurd c (h x y)⟩
  rw [this]
  rfl
theorem inside_ok {n : Int} {P Q : Pl} (hP : Reg n P) (hQ : Reg 200 Q) (hn : n ≤ 200) (h : ∀ x y, P x y → Q x y) : PT 8 [rgA (canon P), rgA (canon Q)] (bl true) := by
  have h1 := (minus_ok hP hQ hn).1
  rw [canon_nil (P := fun x y => P x y ∧ ¬ Q x y) (fun x y c => c.2 (h x y c.1))] at h1
  exact inside_fn _ _ _ h1 (empty_ok [])
def edgeP (P : Pl) : Pl := fun x y => P x y ∧ ¬ (thinP P x y ∧ lowP P x y)
theorem edge_ok {n : Int} {P : Pl} (hP : Reg n P) (hn : n ≤ 200) : PT 13 [rgA (canon P)] (rgA (canon (edgeP P))) ∧ Reg n (edgeP P) := by
  obtain ⟨h1, k1⟩ := thin_ok hP hn
  obtain ⟨h2, k2⟩ := low_ok hP hn
  obtain ⟨h3, k3⟩ := meet_ok k1 (k2.mono hn) hn
  obtain ⟨h4, k4⟩ := minus_ok hP (k3.mono hn) hn
  exact ⟨edge_fn _ _ _ _ _ h1 h2 h3 h4, k4⟩
theorem same_ok (l : List Rc) (hl : l.length ≤ 1000000) : PT 12 [rgA l, rgA l] (bl true) :=
  same_fn l (eq_fn l (LoopT.count (eqS l l) l.length (fun k hk => eq_step l l k hk rfl hl rfl) (eq_end l l) 0 (Nat.zero_le _)))
end Go.Proofs.Ytcnlgdbmcdlknaa.Bn
set_option linter.unusedVariables false
set_option linter.unusedSimpArgs false
set_option maxRecDepth 100000
set_option maxHeartbeats 400000
namespace Go.Proofs.Ytcnlgdbmcdlknaa.Bn
open Go Go.RowKit Go.Pm
theorem within_ok {n : Int} {P : Pl} (hP : Reg n P) (hn : n ≤ 200) (hin : ∀ x y, P x y → 0 ≤ x ∧ x < 28 ∧ 0 ≤ y ∧ y < 28) : PT 40 [rgA (canon P), A (eR ⟨0, 0, 28, 28⟩)] (rgA (canon P)) := by
  have ho := of_canon [⟨0, 0, 28, 28⟩] 200 (by omega) (by simp) (fun r hr => by rw [List.mem_singleton] at hr; subst hr; unfold Sm; simp) (fun r hr _ => by rw [List.mem_singleton] at hr; subst hr; unfold RcIn; simp) (inR [⟨0, 0, 28, 28⟩]) (fun x y => Iff.rfl)
  have hm := (meet_ok hP ho.2 hn).1
  have e : (fun x y => P x y ∧ inR [⟨0, 0, 28, 28⟩] x y) = P := pl_ext fun x y => ⟨fun h => h.1, fun h => ⟨h, ⟨0, 0, 28, 28⟩, by simp, by have := hin x y h; unfold inC; simp only; omega⟩⟩
  rw [e] at hm
  exact within_fn _ _ _ _ ho.1 hm
def flipP (b : Bool) (P : Pl) : Pl := fun x y => if b = true then P (27 - x) y else P x (27 - y)
theorem P_eq {P : Pl} {a b c d : Int} (h : P a b) (e1 : a = c) (e2 : b = d) : P c d := e1 ▸ e2 ▸ h
theorem flip_ok {P : Pl} (b : Bool) (hP : Reg 200 P) (hin : ∀ x y, P x y → 0 ≤ x ∧ x < 28 ∧ 0 ≤ y ∧ y < 28) : PT 15 [rgA (canon P), i64 28, i64 28, bl b] (rgA (canon (flipP b P))) ∧ Reg 200 (flipP b P) := by
  obtain ⟨c1, c2, c3⟩ := canon_n hP (by omega)
  have hw := within_ok hP (by omega) hin
  have cin : ∀ r ∈ canon P, 0 ≤ r.x ∧ r.x + r.w ≤ 28 ∧ 0 ≤ r.y ∧ r.y + r.h ≤ 28 := fun r hr => by
    obtain ⟨b1, b2, b3, b4, b5, b6⟩ := c1 r hr
    have h1 := hin r.x r.y ((in_canon hP _ _).1 ⟨r, hr, by unfold inC; omega⟩)
    have h2 := hin (r.x + r.w - 1) (r.y + r.h - 1) ((in_canon hP _ _).1 ⟨r, hr, by unfold inC; omega⟩)
    omega
  cases b with
  | true =>
    have ho := of_canon ((canon P).map (flipX 28)) 200 (by omega) (by rw [List.length_map]; omega) (fun r hr => by
      obtain ⟨q, hq, rfl⟩ := List.mem_map.1 hr
      obtain ⟨b1, b2, b3, b4, b5, b6⟩ := c1 q hq
      have := cin q hq
      unfold Sm flipX
      simp only
      omega) (fun r hr _ => by
      obtain ⟨q, hq, rfl⟩ := List.mem_map.1 hr
      obtain ⟨b1, b2, b3, b4, b5, b6⟩ := c1 q hq
      have := cin q hq
      unfold RcIn flipX
      simp only
      omega) (flipP true P) (fun x y => by rw [flipX_in]; exact in_canon hP _ _)
    have hL := LoopT.count (fun j => fpS 28 true (canon P).length (mixD (flipX 28) (canon P) j) j) (canon P).length (fun j hj => by
      have hn := mix_nth (flipX 28) (canon P) j hj
      exact fx_step 28 _ _ _ (mix_len _ _ _) j hj (by omega) (by rw [hn]; exact c2 _ (nth_mem hj)) (by omega) (by omega) (by rw [hn]; exact mix_next (flipX 28) (canon P) j hj)) (fp_end 28 true _ _) 0 (Nat.zero_le _)
    rw [mix_zero, mix_end] at hL
    exact ⟨fp_fn 28 true _ (canon P) _ _ (by omega) (by omega) (by omega) hw hL (by rw [slV_eq _ _ (by rw [List.length_map])]; exact ho.1), ho.2⟩
  | false =>
    have ho := of_canon ((canon P).map (flipY 28)) 200 (by omega) (by rw [List.length_map]; omega) (fun r hr => by
      obtain ⟨q, hq, rfl⟩ := List.mem_map.1 hr
      obtain ⟨b1, b2, b3, b4, b5, b6⟩ := c1 q hq
      have := cin q hq
      unfold Sm flipY
      simp only
      omega) (fun r hr _ => by
      obtain ⟨q, hq, rfl⟩ := List.mem_map.1 hr
      obtain ⟨b1, b2, b3, b4, b5, b6⟩ := c1 q hq
      have := cin q hq
      unfold RcIn flipY
      simp only
      omega) (flipP false P) (fun x y => by rw [flipY_in]; exact in_canon hP _ _)
    have hL := LoopT.count (fun j => fpS 28 false (canon P).length (mixD (flipY 28) (canon P) j) j) (canon P).length (fun j hj => by
      have hn := mix_nth (flipY 28) (canon P) j hj
      exact fy_step 28 _ _ _ (mix_len _ _ _) j hj (by omega) (by rw [hn]; exact c2 _ (nth_mem hj)) (by omega) (by omega) (by rw [hn]; exact mix_next (flipY 28) (canon P) j hj)) (fp_end 28 false _ _) 0 (Nat.zero_le _)
    rw [mix_zero, mix_end] at hL
    exact ⟨fp_fn 28 false _ (canon P) _ _ (by omega) (by omega) (by omega) hw hL (by rw [slV_eq _ _ (by rw [List.length_map])]; exact ho.1), ho.2⟩
def minX (lo : Int) (r : Rc) : Int := if r.x < lo then r.x else lo
def maxX (hi : Int) (r : Rc) : Int := if r.x + r.w > hi then r.x + r.w else hi
theorem box_ok {n : Int} {P : Pl} (hP : Reg n P) (hn : n ≤ 199) (h0 : 0 ≤ n) : ∃ b : Rc, PT 32 [rgA (canon P)] (A (eR b)) ∧ -n ≤ b.x ∧ 0 ≤ b.w ∧ b.x + b.w ≤ n ∧ -n ≤ b.y ∧ 0 ≤ b.h ∧ b.y + b.h ≤ n := by
  obtain ⟨c1, c2, c3⟩ := canon_n hP (by omega)
  have hcan := can_y (canon_can hP) (fun r hr => (c1 r hr).mono (by omega))
  obtain ⟨l, el⟩ : ∃ l, l = canon P := ⟨_, rfl⟩
  rw [← el] at c1 c2 c3 hcan ⊢
  by_cases hz : l.length = 0
  · exact ⟨_, bx_0 l hz, by simp only; omega⟩
  · have hp : 0 < l.length := by omega
    have f1 := c1 _ (nth_mem hp)
    have f2 := c1 _ (nth_mem (show l.length - 1 < l.length by omega))
    have hfe : (nth l 0).y ≤ (nth l (l.length - 1)).y := by
      rw [nth_eq hp, nth_eq (by omega)]
      by_cases e : l.length - 1 = 0
      · simp only [e]; exact Int.le_refl _
      · exact List.pairwise_iff_getElem.1 hcan 0 (l.length - 1) hp (by omega) (by omega)
    have key : ∀ (d j : Nat) (lo hi : Int), j + d = l.length → -n ≤ lo → lo < hi → hi ≤ n → ∃ lo2 hi2, LoopT C0 bxB (bxS l (nth l 0) (nth l (l.length - 1)) lo hi j) (.exit 0) (bxS l (nth l 0) (nth l (l.length - 1)) lo2 hi2 l.length) ∧ -n ≤ lo2 ∧ lo2 < hi2 ∧ hi2 ≤ n := by
      intro d
      induction d with
      | zero =>
        intro j lo hi hj h1 h2 h3
        obtain rfl : j = l.length := by omega
        exact ⟨lo, hi, bx_end l _ _ lo hi, h1, h2, h3⟩
      | succ d ih =>
        intro j lo hi hj h1 h2 h3
        have hjl : j < l.length := by omega
        obtain ⟨b1, b2, b3, -⟩ := c1 _ (nth_mem hjl)
        have g1 : -n ≤ minX lo (nth l j) ∧ minX lo (nth l j) ≤ lo := by unfold minX; split <;> omega
        have g2 : hi ≤ maxX hi (nth l j) ∧ maxX hi (nth l j) ≤ n := by unfold maxX; split <;> omega
        obtain ⟨lo2, hi2, q1, q2⟩ := ih (j + 1) (minX lo (nth l j)) (maxX hi (nth l j)) (by omega) g1.1 (by omega) g2.2
        exact ⟨lo2, hi2, LoopT.next (bx_step l _ _ lo hi _ _ j hjl (by omega) (c2 _ (nth_mem hjl)) rfl rfl) q1, q2⟩
    obtain ⟨b1, b2, b3, b4, b5, b6⟩ := f1
    obtain ⟨e1, e2, e3, e4, e5, e6⟩ := f2
    obtain ⟨lo2, hi2, q1, q2, q3, q4⟩ := key l.length 0 (nth l 0).x ((nth l 0).x + (nth l 0).w) (by omega) (by omega) (by omega) (by omega)
    refine ⟨_, bx_1 l _ _ lo2 hi2 hp (by omega) rfl rfl (c2 _ (nth_mem hp)) (c2 _ (nth_mem (by omega))) (by omega) (by omega) (by omega) (by omega) q1, ?_⟩
    simp only
    omega
theorem grow_ok {n : Int} {P : Pl} (hP : Reg n P) (hn : n ≤ 199) (h0 : 0 ≤ n) : PT 7 [rgA (canon P), i64 1] (.tup [rgA (canon (wideP P)), i64 0]) ∧ Reg (n + 1) (wideP P) := by
  obtain ⟨c1, c2, c3⟩ := canon_n hP (by omega)
  obtain ⟨b, hB, b1, b2, b3, b4, b5, b6⟩ := box_ok hP hn h0
  have hW := wider_ok b (by omega) (by omega) (by omega) (by omega) (by omega) (by omega) (by omega) (by omega)
  have h1 := of_canon [wideR b] 200 (by omega) (by simp) (fun r hr => by rw [List.mem_singleton] at hr; subst hr; unfold Sm wideR; simp only; omega) (fun r hr _ => by rw [List.mem_singleton] at hr; subst hr; unfold RcIn wideR; simp only; omega) (inR [wideR b]) (fun x y => Iff.rfl)
  have hne : (canon (inR [wideR b])).length ≠ 0 := fun h => by
    have := (in_canon h1.2 b.x b.y).2 ⟨wideR b, by simp, by unfold inC wideR; simp only; omega⟩
    rw [List.eq_nil_of_length_eq_zero h] at this
    obtain ⟨r, hr, _⟩ := this
    cases hr
  have hE := empty_ok (canon (inR [wideR b]))
  rw [decide_eq_false hne] at hE
  have ho := of_canon ((canon P).map wideR) (n + 1) (by omega) (by rw [List.length_map]; omega) (fun r hr => by
    obtain ⟨q, hq, rfl⟩ := List.mem_map.1 hr
    obtain ⟨b1, b2, b3, b4, b5, b6⟩ := c1 q hq
    unfold Sm wideR
    simp only
    omega) (fun r hr _ => by
    obtain ⟨q, hq, rfl⟩ := List.mem_map.1 hr
    obtain ⟨b1, b2, b3, b4, b5, b6⟩ := c1 q hq
    unfold RcIn wideR
    simp only
    omega) (wideP P) (fun x y => by
      rw [wide_in _ (fun r hr => ⟨(c1 r hr).2.1, (c1 r hr).2.2.2.2.1⟩), show inR (canon P) = P from pl_ext (in_canon hP)])
  have hL := LoopT.count (fun j => grS (canon P).length (mixD wideR (canon P) j) j) (canon P).length (fun j hj => by
    have hn := mix_nth wideR (canon P) j hj
    exact gr_step _ _ _ (mix_len _ _ _) j hj (by omega) (by rw [hn]; exact c2 _ (nth_mem hj)) (by rw [hn]; exact mix_next wideR (canon P) j hj)) (gr_end _ _) 0 (Nat.zero_le _)
  rw [mix_zero, mix_end] at hL
  exact ⟨gr_fn (canon P) _ _ _ b (by omega) hB hW h1.1 hE hL (by rw [slV_eq _ _ (by rw [List.length_map])]; exact ho.1), ho.2⟩
end Go.Proofs.Ytcnlgdbmcdlknaa.Bn
set_option linter.unusedVariables false
set_option linter.unusedSimpArgs false
set_option maxRecDepth 100000
set_option maxHeartbeats 1000000
namespace Go.Proofs.Ytcnlgdbmcdlknaa.Bn
open Go Go.RowKit Go.Pm
def smR (s : S4) : Rc := ⟨s.x % 16, s.y % 16, s.w % 12, s.h % 12⟩
theorem rs_ok (l : List S4) (hl : l.length ≤ 1000) (hs : ∀ s ∈ l, s.ok) : PT 6 [slS l] (slR (l.map smR)) := by
  have hL := LoopT.count (fun k => rsS l k ((l.take k).map smR).length ((l.take k).map smR)) l.length (fun k hk => by
    have e : ((l.take (k + 1)).map smR) = (l.take k).map smR ++ [smR (nth l k)] := by rw [take_nth hk, List.map_append]; rfl
    have h := rs_step l k ((l.take k).map smR).length ((l.take k).map smR) _ hk hl rfl (by rw [List.length_map, List.length_take]; omega) (hs _ (nth_mem hk)) (smR (nth l k)) rfl rfl rfl rfl rfl
    rw [show ((l.take (k + 1)).map smR).length = ((l.take k).map smR).length + 1 by rw [e]; simp, e]
    exact h) (rs_end l _ _) 0 (Nat.zero_le _)
  rw [List.take_length] at hL
  have h := rs_fn l _ _ hL
  rwa [slV_eq _ _ rfl] at h
theorem aw_ok : PT 4 [] (bl true) := by
  obtain ⟨h1, k1⟩ := of_canon aw1 200 (by omega) (by decide) (fun r hr => by unfold aw1 at hr; rw [List.mem_singleton] at hr; subst hr; unfold Sm; simp) (fun r hr _ => by unfold aw1 at hr; rw [List.mem_singleton] at hr; subst hr; unfold RcIn; simp) (inR aw1) (fun x y => Iff.rfl)
  have ec : canon (inR aw1) = aw1 := by
    have : canon (inR aw1) = toR [⟨0, 2, [⟨0, 1⟩]⟩] := canon_eq ⟨fun b hb => by
      rw [List.mem_singleton] at hb; subst hb
      exact ⟨by decide, by simp, fun p hp => by rw [List.mem_singleton] at hp; subst hp; decide, List.pairwise_singleton _ _⟩, List.pairwise_singleton _ _⟩ fun x y => by
        unfold inB inR aw1 inC inS
        simp
        omega
    rw [this]
    rfl
  rw [ec] at h1
  have ho := of_canon [⟨0, 0, 2, 2⟩] 200 (by omega) (by simp) (fun r hr => by rw [List.mem_singleton] at hr; subst hr; unfold Sm; simp) (fun r hr _ => by rw [List.mem_singleton] at hr; subst hr; unfold RcIn; simp) (inR [⟨0, 0, 2, 2⟩]) (fun x y => Iff.rfl)
  have hm := (meet_ok k1 ho.2 (by omega)).1
  have e : (fun x y => inR aw1 x y ∧ inR [⟨0, 0, 2, 2⟩] x y) = inR aw1 := pl_ext fun x y => ⟨fun h => h.1, fun h => ⟨h, ⟨0, 0, 2, 2⟩, by simp, by
    obtain ⟨r, hr, h1⟩ := h
    unfold aw1 at hr
    rw [List.mem_singleton] at hr
    subst hr
    unfold inC at h1 ⊢
    simp only at h1 ⊢
    omega⟩⟩
  rw [e, ec] at hm
  exact aw_fn h1 (bits_x (within_fn _ _ _ _ ho.1 hm))
theorem small_ok (l : List S4) (dx dy : Int) (x0 : -128 ≤ dx) (x1 : dx ≤ 127) (y0 : -128 ≤ dy) (y1 : dy ≤ 127) (h10 : l.length ≤ 10) (hs : ∀ s ∈ l, s.ok) : PT 3 [slS l, .s (.int .i8 dx), .s (.int .i8 dy)] (bl true) := by
  have hR := rs_ok l (by omega) hs
  have rin : ∀ r ∈ l.map smR, 0 ≤ r.x ∧ r.x ≤ 15 ∧ 0 ≤ r.y ∧ r.y ≤ 15 ∧ 0 ≤ r.w ∧ r.w ≤ 11 ∧ 0 ≤ r.h ∧ r.h ≤ 11 := fun r hr => by
    obtain ⟨s, hs', rfl⟩ := List.mem_map.1 hr
    obtain ⟨s0, s1, s2, s3, s4, s5, s6, s7⟩ := hs s hs'
    unfold smR
    simp only
    omega
  obtain ⟨P, eP⟩ : ∃ P, P = inR (l.map smR) := ⟨_, rfl⟩
  obtain ⟨hO, hP⟩ := of_canon (l.map smR) 27 (by omega) (by rw [List.length_map]; omega) (fun r hr => by have := rin r hr; unfold Sm; omega) (fun r hr h => by
    have := rin r hr
    unfold cntR at h
    rw [Bool.and_eq_true, decide_eq_true_iff, decide_eq_true_iff] at h
    unfold RcIn
    omega) P (fun x y => by rw [eP])
  have pin : ∀ x y, P x y → 0 ≤ x ∧ x < 28 ∧ 0 ≤ y ∧ y < 28 := fun x y h => by
    rw [eP] at h
    obtain ⟨r, hr, a1, a2, a3, a4⟩ := h
    have := rin r hr
    omega
  clear eP
  obtain ⟨hG, rG⟩ := grow_ok hP (by omega) (by omega)
  obtain ⟨hL, rL⟩ := shrink_ok hP (by omega)
  have hI := inside_ok (Q := wideP P) hP (rG.mono (by omega)) (by omega) (fun x y h => ⟨0, 0, by omega, by omega, by omega, by omega, P_eq h (by omega) (by omega)⟩)
  have hJ := inside_ok (Q := P) rL (hP.mono (by omega)) (by omega) (fun x y h => h.2.1.2.1)
  obtain ⟨hD, rD⟩ := edge_ok hP (by omega)
  obtain ⟨hF1, rF1⟩ := flip_ok true (hP.mono (by omega)) pin
  obtain ⟨hF2, -⟩ := flip_ok true rF1 (fun x y h => by have := pin _ _ h; omega)
  obtain ⟨hF3, rF3⟩ := flip_ok false (hP.mono (by omega)) pin
  obtain ⟨hF4, -⟩ := flip_ok false rF3 (fun x y h => by have := pin _ _ h; omega)
  have ef1 : flipP true (flipP true P) = P := pl_ext fun x y => ⟨fun h => P_eq (P := P) (a := 27 - (27 - x)) (b := y) h (by omega) rfl, fun h => P_eq (P := P) (c := 27 - (27 - x)) (d := y) h (by omega) rfl⟩
  have ef2 : flipP false (flipP false P) = P := pl_ext fun x y => ⟨fun h => P_eq (P := P) (a := x) (b := 27 - (27 - y)) h rfl (by omega), fun h => P_eq (P := P) (c := x) (d := 27 - (27 - y)) h rfl (by omega)⟩
  rw [ef1] at hF2
  rw [ef2] at hF4
  obtain ⟨hB, rB⟩ := shift_ok (dx := dx) (dy := dy) hP (k := 128) (by omega) (by omega) (by omega) (by omega) (by omega) (by omega) (by omega)
  obtain ⟨hG2, rG2⟩ := grow_ok rB (by omega) (by omega)
  obtain ⟨hG3, rG3⟩ := shift_ok (dx := dx) (dy := dy) rG (k := 128) (by omega) (by omega) (by omega) (by omega) (by omega) (by omega) (by omega)
  have eg : moveP dx dy (wideP P) = wideP (moveP dx dy P) := pl_ext fun x y => ⟨fun ⟨a, b, a1, a2, a3, a4, h⟩ => ⟨a, b, a1, a2, a3, a4, P_eq (P := P) h (by omega) (by omega)⟩, fun ⟨a, b, a1, a2, a3, a4, h⟩ => ⟨a, b, a1, a2, a3, a4, P_eq (P := P) h (by omega) (by omega)⟩⟩
  rw [eg] at hG3
  obtain ⟨hH, rH⟩ := edge_ok rB (by omega)
  obtain ⟨hH2, -⟩ := shift_ok (dx := dx) (dy := dy) rD (k := 128) (by omega) (by omega) (by omega) (by omega) (by omega) (by omega) (by omega)
  have ee : moveP dx dy (edgeP P) = edgeP (moveP dx dy P) := by
    have t1 : thinP (moveP dx dy P) = moveP dx dy (thinP P) := pl_ext fun x y => ⟨fun ⟨h1, h2, h3⟩ => ⟨P_eq (P := P) h1 (by omega) rfl, h2, P_eq (P := P) h3 (by omega) rfl⟩, fun ⟨h1, h2, h3⟩ => ⟨P_eq (P := P) h1 (by omega) rfl, h2, P_eq (P := P) h3 (by omega) rfl⟩⟩
    have t2 : lowP (moveP dx dy P) = moveP dx dy (lowP P) := pl_ext fun x y => ⟨fun ⟨h1, h2, h3⟩ => ⟨P_eq (P := P) h1 rfl (by omega), h2, P_eq (P := P) h3 rfl (by omega)⟩, fun ⟨h1, h2, h3⟩ => ⟨P_eq (P := P) h1 rfl (by omega), h2, P_eq (P := P) h3 rfl (by omega)⟩⟩
    unfold edgeP
    rw [t1, t2]
    rfl
  rw [ee] at hH2
  have r0 : Reg 28 (fun _ _ => False) := ⟨⟨[], ⟨fun b hb => (by cases hb), List.Pairwise.nil⟩, fun x y => ⟨fun ⟨b, hb, _⟩ => (by cases hb), fun c => c.elim⟩⟩, fun x y c => c.elim⟩
  obtain ⟨hS0, rS0⟩ := shift_ok (dx := -1) (dy := -1) hP (k := 1) (by omega) (by omega) (by omega) (by omega) (by omega) (by omega) (by omega)
  obtain ⟨hS1, rS1⟩ := shift_ok (dx := 0) (dy := -1) hP (k := 1) (by omega) (by omega) (by omega) (by omega) (by omega) (by omega) (by omega)
  obtain ⟨hS2, rS2⟩ := shift_ok (dx := 1) (dy := -1) hP (k := 1) (by omega) (by omega) (by omega) (by omega) (by omega) (by omega) (by omega)
  obtain ⟨hS3, rS3⟩ := shift_ok (dx := -1) (dy := 0) hP (k := 1) (by omega) (by omega) (by omega) (by omega) (by omega) (by omega) (by omega)
  obtain ⟨hS4, rS4⟩ := shift_ok (dx := 0) (dy := 0) hP (k := 1) (by omega) (by omega) (by omega) (by omega) (by omega) (by omega) (by omega)
  obtain ⟨hS5, rS5⟩ := shift_ok (dx := 1) (dy := 0) hP (k := 1) (by omega) (by omega) (by omega) (by omega) (by omega) (by omega) (by omega)
  obtain ⟨hS6, rS6⟩ := shift_ok (dx := -1) (dy := 1) hP (k := 1) (by omega) (by omega) (by omega) (by omega) (by omega) (by omega) (by omega)
  obtain ⟨hS7, rS7⟩ := shift_ok (dx := 0) (dy := 1) hP (k := 1) (by omega) (by omega) (by omega) (by omega) (by omega) (by omega) (by omega)
  obtain ⟨hS8, rS8⟩ := shift_ok (dx := 1) (dy := 1) hP (k := 1) (by omega) (by omega) (by omega) (by omega) (by omega) (by omega) (by omega)
  obtain ⟨hU0, rU0⟩ := union_ok (Q := moveP (-1) (-1) P) r0 rS0 (by omega) (by have h1 := canon_len r0 (by omega); have h2 := canon_len rS0 (by omega); omega)
  obtain ⟨hU1, rU1⟩ := union_ok (Q := moveP (0) (-1) P) rU0 rS1 (by omega) (by have h1 := canon_len rU0 (by omega); have h2 := canon_len rS1 (by omega); omega)
  obtain ⟨hU2, rU2⟩ := union_ok (Q := moveP (1) (-1) P) rU1 rS2 (by omega) (by have h1 := canon_len rU1 (by omega); have h2 := canon_len rS2 (by omega); omega)
  obtain ⟨hU3, rU3⟩ := union_ok (Q := moveP (-1) (0) P) rU2 rS3 (by omega) (by have h1 := canon_len rU2 (by omega); have h2 := canon_len rS3 (by omega); omega)
  obtain ⟨hU4, rU4⟩ := union_ok (Q := moveP (0) (0) P) rU3 rS4 (by omega) (by have h1 := canon_len rU3 (by omega); have h2 := canon_len rS4 (by omega); omega)
  obtain ⟨hU5, rU5⟩ := union_ok (Q := moveP (1) (0) P) rU4 rS5 (by omega) (by have h1 := canon_len rU4 (by omega); have h2 := canon_len rS5 (by omega); omega)
  obtain ⟨hU6, rU6⟩ := union_ok (Q := moveP (-1) (1) P) rU5 rS6 (by omega) (by have h1 := canon_len rU5 (by omega); have h2 := canon_len rS6 (by omega); omega)
  obtain ⟨hU7, rU7⟩ := union_ok (Q := moveP (0) (1) P) rU6 rS7 (by omega) (by have h1 := canon_len rU6 (by omega); have h2 := canon_len rS7 (by omega); omega)
  obtain ⟨hU8, rU8⟩ := union_ok (Q := moveP (1) (1) P) rU7 rS8 (by omega) (by have h1 := canon_len rU7 (by omega); have h2 := canon_len rS8 (by omega); omega)
  obtain ⟨hM0, rM0⟩ := meet_ok (Q := moveP (-1) (-1) P) hP (rS0.mono (by omega)) (by omega)
  obtain ⟨hM1, rM1⟩ := meet_ok (Q := moveP (0) (-1) P) rM0 (rS1.mono (by omega)) (by omega)
  obtain ⟨hM2, rM2⟩ := meet_ok (Q := moveP (1) (-1) P) rM1 (rS2.mono (by omega)) (by omega)
  obtain ⟨hM3, rM3⟩ := meet_ok (Q := moveP (-1) (0) P) rM2 (rS3.mono (by omega)) (by omega)
  obtain ⟨hM4, rM4⟩ := meet_ok (Q := moveP (0) (0) P) rM3 (rS4.mono (by omega)) (by omega)
  obtain ⟨hM5, rM5⟩ := meet_ok (Q := moveP (1) (0) P) rM4 (rS5.mono (by omega)) (by omega)
  obtain ⟨hM6, rM6⟩ := meet_ok (Q := moveP (-1) (1) P) rM5 (rS6.mono (by omega)) (by omega)
  obtain ⟨hM7, rM7⟩ := meet_ok (Q := moveP (0) (1) P) rM6 (rS7.mono (by omega)) (by omega)
  obtain ⟨hM8, rM8⟩ := meet_ok (Q := moveP (1) (1) P) rM7 (rS8.mono (by omega)) (by omega)
  obtain ⟨hE0, rE0⟩ := meet_ok (Q := moveP (0) (-1) P) hP (rS1.mono (by omega)) (by omega)
  obtain ⟨hE1, rE1⟩ := meet_ok (Q := moveP (-1) (0) P) rE0 (rS3.mono (by omega)) (by omega)
  obtain ⟨hE2, rE2⟩ := meet_ok (Q := moveP (1) (0) P) rE1 (rS5.mono (by omega)) (by omega)
  obtain ⟨hE3, rE3⟩ := meet_ok (Q := moveP (0) (1) P) rE2 (rS7.mono (by omega)) (by omega)
  rw [canon_nil (P := fun _ _ => False) (fun _ _ c => c)] at hU0
  have eu : (fun (x y : Int) => (fun (x y : Int) => (fun (x y : Int) => (fun (x y : Int) => (fun (x y : Int) => (fun (x y : Int) => (fun (x y : Int) => (fun (x y : Int) => (fun (x y : Int) => (fun (x y : Int) => False) x y ∨ (moveP (-1) (-1) P) x y) x y ∨ (moveP (0) (-1) P) x y) x y ∨ (moveP (1) (-1) P) x y) x y ∨ (moveP (-1) (0) P) x y) x y ∨ (moveP (0) (0) P) x y) x y ∨ (moveP (1) (0) P) x y) x y ∨ (moveP (-1) (1) P) x y) x y ∨ (moveP (0) (1) P) x y) x y ∨ (moveP (1) (1) P) x y : Pl) = wideP P := pl_ext fun x y => by
    constructor
    · rintro (((((((((h | h) | h) | h) | h) | h) | h) | h) | h) | h)
      · exact h.elim
      · exact ⟨1, 1, by omega, by omega, by omega, by omega, P_eq (P := P) h (by omega) (by omega)⟩
      · exact ⟨0, 1, by omega, by omega, by omega, by omega, P_eq (P := P) h (by omega) (by omega)⟩
      · exact ⟨-1, 1, by omega, by omega, by omega, by omega, P_eq (P := P) h (by omega) (by omega)⟩
      · exact ⟨1, 0, by omega, by omega, by omega, by omega, P_eq (P := P) h (by omega) (by omega)⟩
      · exact ⟨0, 0, by omega, by omega, by omega, by omega, P_eq (P := P) h (by omega) (by omega)⟩
      · exact ⟨-1, 0, by omega, by omega, by omega, by omega, P_eq (P := P) h (by omega) (by omega)⟩
      · exact ⟨1, -1, by omega, by omega, by omega, by omega, P_eq (P := P) h (by omega) (by omega)⟩
      · exact ⟨0, -1, by omega, by omega, by omega, by omega, P_eq (P := P) h (by omega) (by omega)⟩
      · exact ⟨-1, -1, by omega, by omega, by omega, by omega, P_eq (P := P) h (by omega) (by omega)⟩
    · rintro ⟨a, b, a1, a2, a3, a4, h⟩
      have ha : a = -1 ∨ a = 0 ∨ a = 1 := by omega
      have hb : b = -1 ∨ b = 0 ∨ b = 1 := by omega
      rcases hb with rfl | rfl | rfl <;> rcases ha with rfl | rfl | rfl
      · exact .inr (P_eq (P := P) h (by omega) (by omega))
      · exact .inl (.inr (P_eq (P := P) h (by omega) (by omega)))
      · exact .inl (.inl (.inr (P_eq (P := P) h (by omega) (by omega))))
      · exact .inl (.inl (.inl (.inr (P_eq (P := P) h (by omega) (by omega)))))
      · exact .inl (.inl (.inl (.inl (.inr (P_eq (P := P) h (by omega) (by omega))))))
      · exact .inl (.inl (.inl (.inl (.inl (.inr (P_eq (P := P) h (by omega) (by omega)))))))
      · exact .inl (.inl (.inl (.inl (.inl (.inl (.inr (P_eq (P := P) h (by omega) (by omega))))))))
      · exact .inl (.inl (.inl (.inl (.inl (.inl (.inl (.inr (P_eq (P := P) h (by omega) (by omega)))))))))
      · exact .inl (.inl (.inl (.inl (.inl (.inl (.inl (.inl (.inr (P_eq (P := P) h (by omega) (by omega))))))))))
  have em : (fun (x y : Int) => (fun (x y : Int) => (fun (x y : Int) => (fun (x y : Int) => (fun (x y : Int) => (fun (x y : Int) => (fun (x y : Int) => (fun (x y : Int) => (fun (x y : Int) => (P) x y ∧ (moveP (-1) (-1) P) x y) x y ∧ (moveP (0) (-1) P) x y) x y ∧ (moveP (1) (-1) P) x y) x y ∧ (moveP (-1) (0) P) x y) x y ∧ (moveP (0) (0) P) x y) x y ∧ (moveP (1) (0) P) x y) x y ∧ (moveP (-1) (1) P) x y) x y ∧ (moveP (0) (1) P) x y) x y ∧ (moveP (1) (1) P) x y : Pl) = lowP (thinP P) := pl_ext fun x y => by
    constructor
    · rintro ⟨⟨⟨⟨⟨⟨⟨⟨⟨h, h0⟩, h1⟩, h2⟩, h3⟩, h4⟩, h5⟩, h6⟩, h7⟩, h8⟩
      exact ⟨⟨P_eq (P := P) h8 (by omega) (by omega), P_eq (P := P) h7 (by omega) (by omega), P_eq (P := P) h6 (by omega) (by omega)⟩, ⟨P_eq (P := P) h5 (by omega) (by omega), h, P_eq (P := P) h3 (by omega) (by omega)⟩, ⟨P_eq (P := P) h2 (by omega) (by omega), P_eq (P := P) h1 (by omega) (by omega), P_eq (P := P) h0 (by omega) (by omega)⟩⟩
    · rintro ⟨⟨h8, h7, h6⟩, ⟨h5, h, h3⟩, ⟨h2, h1, h0⟩⟩
      exact ⟨⟨⟨⟨⟨⟨⟨⟨⟨h, P_eq (P := P) h0 (by omega) (by omega)⟩, P_eq (P := P) h1 (by omega) (by omega)⟩, P_eq (P := P) h2 (by omega) (by omega)⟩, P_eq (P := P) h3 (by omega) (by omega)⟩, P_eq (P := P) h (by omega) (by omega)⟩, P_eq (P := P) h5 (by omega) (by omega)⟩, P_eq (P := P) h6 (by omega) (by omega)⟩, P_eq (P := P) h7 (by omega) (by omega)⟩, P_eq (P := P) h8 (by omega) (by omega)⟩
  obtain ⟨hD2, -⟩ := minus_ok hP (rE3.mono (by omega)) (by omega)
  have ed : (fun x y => P x y ∧ ¬ (fun (x y : Int) => (fun (x y : Int) => (fun (x y : Int) => (fun (x y : Int) => (P) x y ∧ (moveP (0) (-1) P) x y) x y ∧ (moveP (-1) (0) P) x y) x y ∧ (moveP (1) (0) P) x y) x y ∧ (moveP (0) (1) P) x y) x y) = edgeP P := pl_ext fun x y => by
    have q : (fun (x y : Int) => (fun (x y : Int) => (fun (x y : Int) => (fun (x y : Int) => (P) x y ∧ (moveP (0) (-1) P) x y) x y ∧ (moveP (-1) (0) P) x y) x y ∧ (moveP (1) (0) P) x y) x y ∧ (moveP (0) (1) P) x y) x y ↔ thinP P x y ∧ lowP P x y := by
      constructor
      · rintro ⟨⟨⟨⟨h, h1⟩, h3⟩, h5⟩, h7⟩
        exact ⟨⟨P_eq (P := P) h5 (by omega) (by omega), h, P_eq (P := P) h3 (by omega) (by omega)⟩, ⟨P_eq (P := P) h7 (by omega) (by omega), h, P_eq (P := P) h1 (by omega) (by omega)⟩⟩
      · rintro ⟨⟨h5, h, h3⟩, ⟨h7, _, h1⟩⟩
        exact ⟨⟨⟨⟨h, P_eq (P := P) h1 (by omega) (by omega)⟩, P_eq (P := P) h3 (by omega) (by omega)⟩, P_eq (P := P) h5 (by omega) (by omega)⟩, P_eq (P := P) h7 (by omega) (by omega)⟩
    unfold edgeP
    rw [q]
  rw [eu] at hU8
  rw [em] at hM8
  rw [ed] at hD2
  have len : ∀ {n : Int} {Q : Pl}, Reg n Q → n ≤ 200 → (canon Q).length ≤ 1000000 := fun h hn => by have := (canon_n h hn).2.2; omega
  exact top_walk l dx dy x0 x1 y0 y1 h10 _ _ _ _ _ _ _ _ _ _ _ _ _ _ _ _ _ _ _ _ _ _ _ _ _ _ _ _ _ _ _ _ _ _ _ _ _ _ _ aw_ok hR hO hG hL hI hJ hD hD2 hF1 hF2 hF3 hF4 hB hG2 hG3 hH hH2 (same_ok _ (len rG (by omega))) (same_ok _ (len rL (by omega))) (same_ok _ (len rD (by omega))) (same_ok _ (len hP (by omega))) (same_ok _ (len rG2 (by omega))) (same_ok _ (len rH (by omega))) hS0 hS1 hS2 hS3 hS4 hS5 hS6 hS7 hS8 hU0 hM0 hU1 hM1 hU2 hM2 hU3 hM3 hU4 hM4 hU5 hM5 hU6 hM6 hU7 hM7 hU8 hM8 hE0 hE1 hE2 hE3
theorem top_ok (l : List S4) (dx dy : Int) (x0 : -128 ≤ dx) (x1 : dx ≤ 127) (y0 : -128 ≤ dy) (y1 : dy ≤ 127) (hl : l.length ≤ 9223372036854775807) (hs : ∀ s ∈ l, s.ok) : PT 3 [slS l, .s (.int .i8 dx), .s (.int .i8 dy)] (bl true) := by
  by_cases h10 : l.length ≤ 10
  · exact small_ok l dx dy x0 x1 y0 y1 h10 hs
  · exact top_big l dx dy aw_ok h10 hl
end Go.Proofs.Ytcnlgdbmcdlknaa.Bn
set_option linter.unusedVariables false
set_option linter.unusedSimpArgs false
set_option maxRecDepth 100000
set_option maxHeartbeats 4000000
namespace Go.Proofs.Ytcnlgdbmcdlknaa
open Go.RowKit Go.Pm
theorem fits_u8 {cs : List AV} (h : Fits (.int .u8) cs) : ∃ n : Int, cs = [u8 n] ∧ 0 ≤ n ∧ n ≤ 255 := by
  obtain ⟨n, rfl, hw⟩ := h
  simp [Lit.wf, IntKind.min, IntKind.max, IntKind.signed, IntKind.bits] at hw
  exact ⟨n, rfl, by omega, by omega⟩
theorem fits_i8 {cs : List AV} (h : Fits (.int .i8) cs) : ∃ n : Int, cs = [.s (.int .i8 n)] ∧ -128 ≤ n ∧ n ≤ 127 := by
  obtain ⟨n, rfl, hw⟩ := h
  simp [Lit.wf, IntKind.min, IntKind.max, IntKind.signed, IntKind.bits] at hw
  exact ⟨n, rfl, by omega, by omega⟩
def shS4 : Sh := .seq (.int .u8) (.seq (.int .u8) (.seq (.int .u8) (.seq (.int .u8) .unit)))
theorem fits_s4 {cs : List AV} (h : Fits shS4 cs) : ∃ a : Bn.S4, cs = Bn.eS a ∧ a.ok := by
  obtain ⟨_, _, rfl, h1, _, _, rfl, h2, _, _, rfl, h3, _, _, rfl, h4, rfl⟩ := h
  obtain ⟨a1, rfl, p1, q1⟩ := fits_u8 h1
  obtain ⟨a2, rfl, p2, q2⟩ := fits_u8 h2
  obtain ⟨a3, rfl, p3, q3⟩ := fits_u8 h3
  obtain ⟨a4, rfl, p4, q4⟩ := fits_u8 h4
  exact ⟨⟨a1, a2, a3, a4⟩, rfl, p1, q1, p2, q2, p3, q3, p4, q4⟩
theorem fits_s4s {cs : List AV} (h : Fits (.sl shS4) cs) : ∃ l : List Bn.S4, cs = [Bn.slS l] ∧ (l.length ≤ 9223372036854775807 ∧ ∀ a ∈ l, a.ok) := by
  obtain ⟨l, h1, h3, h2⟩ := fits_list (enc := Bn.eS) (Q := Bn.S4.ok) (fun cs hc => by obtain ⟨a, rfl, p⟩ := fits_s4 hc; exact ⟨a, rfl, p⟩) h
  exact ⟨l, h1, Nat.le_trans h3 (by decide), h2⟩
end Go.Proofs.Ytcnlgdbmcdlknaa
