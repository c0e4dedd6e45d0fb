/- Two regions joined: rows, cuts, and what they hold. By the prover of this seat. -/
import Derived.Test.YtcnlgdbmcdlknaaPd
set_option linter.unusedVariables false
set_option linter.unusedSimpArgs false
set_option maxRecDepth 100000
set_option maxHeartbeats 400000
namespace Go.Proofs.Ytcnlgdbmcdlknaa.Bn
open Go Go.RowKit Go.Pm
/-- how many at the beginning -/
def tkN (p : Rc → Bool) : List Rc → Nat
  | [] => 0
  | r :: l => if p r = true then tkN p l + 1 else 0
theorem tk_ok (p : Rc → Bool) : ∀ l : List Rc, tkN p l ≤ l.length ∧ (∀ j, j < tkN p l → p (nth l j) = true) ∧ (tkN p l < l.length → ¬ p (nth l (tkN p l)) = true)
  | [] => ⟨Nat.le_refl _, fun j hj => by simp [tkN] at hj, fun h => by simp [tkN] at h⟩
  | r :: l => by
    obtain ⟨h1, h2, h3⟩ := tk_ok p l
    rw [tkN]
    by_cases h : p r = true
    · rw [if_pos h]
      refine ⟨by simpa using h1, fun j hj => ?_, fun hl => ?_⟩
      · cases j with
        | zero => exact h
        | succ j => exact h2 j (by omega)
      · exact h3 (by simpa using hl)
    · rw [if_neg h]
      exact ⟨Nat.zero_le _, fun j hj => absurd hj (Nat.not_lt_zero j), fun _ => h⟩
theorem tk_mem (g : Rc → Int) (y : Int) : ∀ l : List Rc, l.Pairwise (fun r q => g r ≤ g q) → ∀ r, r ∈ l.take (tkN (fun r => decide (g r ≤ y)) l) ↔ r ∈ l ∧ g r ≤ y
  | [], _, r => by simp
  | a :: l, hp, r => by
    obtain ⟨h1, h2⟩ := List.pairwise_cons.1 hp
    rw [tkN]
    by_cases h : g a ≤ y
    · rw [if_pos (decide_eq_true h), List.take_succ_cons, List.mem_cons, List.mem_cons, tk_mem g y l h2 r]
      constructor
      · rintro (rfl | ⟨h3, h4⟩)
        · exact ⟨.inl rfl, h⟩
        · exact ⟨.inr h3, h4⟩
      · rintro ⟨rfl | h3, h4⟩
        · exact .inl rfl
        · exact .inr ⟨h3, h4⟩
    · rw [if_neg (by simpa using h), List.take_zero]
      constructor
      · intro q; cases q
      · rintro ⟨h3, h4⟩
        rcases List.mem_cons.1 h3 with rfl | h3
        · exact absurd h4 h
        · have := h1 r h3; omega
/-- those that are over, dropped -/
def dpW (f : Rc → Int) (y : Int) : List Rc → List Rc
  | [] => []
  | r :: l => if f r ≤ y then dpW f y l else r :: l
theorem dp_sub (f : Rc → Int) (y : Int) : ∀ l : List Rc, (dpW f y l).Sublist l
  | [] => List.Sublist.refl _
  | r :: l => by
    rw [dpW]
    split
    · exact (dp_sub f y l).cons r
    · exact List.Sublist.refl _
theorem dp_mem (f : Rc → Int) (y : Int) : ∀ l : List Rc, l.Pairwise (fun r q => f r ≤ f q) → ∀ r, r ∈ dpW f y l ↔ r ∈ l ∧ y < f r
  | [], _, r => by simp [dpW]
  | a :: l, hp, r => by
    obtain ⟨h1, h2⟩ := List.pairwise_cons.1 hp
    rw [dpW]
    by_cases h : f a ≤ y
    · rw [if_pos h, dp_mem f y l h2 r, List.mem_cons]
      constructor
      · rintro ⟨h3, h4⟩; exact ⟨.inr h3, h4⟩
      · rintro ⟨rfl | h3, h4⟩
        · omega
        · exact ⟨h3, h4⟩
    · rw [if_neg h]
      constructor
      · intro h3
        refine ⟨h3, ?_⟩
        rcases List.mem_cons.1 h3 with rfl | h3
        · omega
        · have := h1 r h3; omega
      · exact fun h3 => h3.1
abbrev dW (y : Int) (l : List Rc) : List Rc := dpW (fun r => r.y + r.h) y l
abbrev rowD (y : Int) (l : List Rc) : List Rc := (dW y l).take (tkN (fun r => decide (r.y ≤ y)) (dW y l))
abbrev aW (x : Int) (l : List Rc) : List Rc := dpW (fun r => r.x + r.w) x l
def acB (x : Int) (l : List Rc) : Bool := match aW x l with
  | [] => false
  | r :: _ => decide (r.x ≤ x)
theorem ro_loop (y : Int) : ∀ l : List Rc, l.length ≤ 1000000 → (∀ r ∈ l, Sm r) → LoopT C1 roB (roS y l) (.exit 0) (roS y (dW y l))
  | [], _, _ => ro_end y [] (by simp)
  | r :: l, hl, hs => by
    rw [dW, dpW]
    by_cases h : r.y + r.h ≤ y
    · rw [if_pos h]
      exact LoopT.next (ro_step y (r :: l) l (by simp) hl (hs r (by simp)) h rfl) (ro_loop y l (by simp at hl; omega) fun q hq => hs q (by simp [hq]))
    · rw [if_neg h]
      exact ro_stop y (r :: l) (by simp) hl (hs r (by simp)) h
theorem row_ok (y : Int) (l : List Rc) (hl : l.length ≤ 1000000) (hs : ∀ r ∈ l, Sm r) : CallH Try.prog G0 56 [.ptr 0 0, i64 y] [.arr 1 [slR l] 0] (slR (rowD y l)) [.arr 1 [slR (dW y l)] 0] := by
  have hd : (dW y l).length ≤ l.length := (dp_sub (fun r => r.y + r.h) y l).length_le
  obtain ⟨h1, h2, h3⟩ := tk_ok (fun r => decide (r.y ≤ y)) (dW y l)
  refine ro_fn y l (dW y l) _ _ h1 (by omega) rfl (ro_loop y l hl hs) (LoopT.count (rpS y (dW y l)) (tkN (fun r => decide (r.y ≤ y)) (dW y l)) (fun j hj => rp_step y (dW y l) j (by omega) (by omega) (by simpa using h2 j hj)) ?_ 0 (Nat.zero_le _))
  by_cases h : tkN (fun r => decide (r.y ≤ y)) (dW y l) < (dW y l).length
  · exact rp_stop y (dW y l) _ h (by omega) (by simpa using h3 h)
  · rw [show tkN (fun r => decide (r.y ≤ y)) (dW y l) = (dW y l).length by omega]
    exact rp_end y (dW y l)
theorem ac_loop (x : Int) : ∀ l : List Rc, l.length ≤ 1000000 → (∀ r ∈ l, Sm r) → LoopT C1 acL (acS x l) (.exit 0) (acS x (aW x l))
  | [], _, _ => ac_end x [] (by simp)
  | r :: l, hl, hs => by
    rw [aW, dpW]
    by_cases h : r.x + r.w ≤ x
    · rw [if_pos h]
      exact LoopT.next (ac_step x (r :: l) l (by simp) hl (hs r (by simp)) h rfl) (ac_loop x l (by simp at hl; omega) fun q hq => hs q (by simp [hq]))
    · rw [if_neg h]
      exact ac_stop x (r :: l) (by simp) hl (hs r (by simp)) h
theorem acr_ok (x : Int) (l : List Rc) (hl : l.length ≤ 1000000) (hs : ∀ r ∈ l, Sm r) : CallH Try.prog G0 58 [.ptr 0 0, i64 x] [.arr 1 [slR l] 0] (bl (acB x l)) [.arr 1 [slR (aW x l)] 0] := by
  have hL := ac_loop x l hl hs
  have hd : (aW x l).length ≤ l.length := (dp_sub (fun r => r.x + r.w) x l).length_le
  have hd2 : (aW x l).length ≤ 1000000 := by omega
  unfold acB
  cases hq : aW x l with
  | nil =>
    rw [hq] at hL
    exact ac_n x l [] (by simp) hL
  | cons r t =>
    rw [hq] at hL hd2
    by_cases h : r.x ≤ x
    · have := ac_t x l (r :: t) (by simp) hd2 h hL
      rw [← decide_t h] at this
      exact this
    · have := ac_f x l (r :: t) (by simp) hd2 h hL
      rw [← decide_eq_false h] at this
      exact this
def xE (r : Rc) : List Int := [r.x, r.x + r.w]
theorem cut_len (f : Rc → List Int) (hf : ∀ r, (f r).length = 2) (l : List Rc) : (l.flatMap f).length = 2 * l.length := by
  induction l with
  | nil => rfl
  | cons r l ih => rw [List.flatMap_cons, List.length_append, hf, ih, List.length_cons]; omega
theorem cuty_ok (la lb : List Rc) (ha : la.length ≤ 200000) (hb : lb.length ≤ 200000) (sa : ∀ r ∈ la, Sm r) (sb : ∀ r ∈ lb, Sm r) : PT 54 [.fn (.func 55) [] [], .sl 2 [slR la, slR lb]] (slI (sortU ((la ++ lb).flatMap yE))) := by
  have key : ∀ (j : Int) (l : List Rc) (z : List Int) (hl : l.length ≤ 200000) (hz : z.length ≤ 400000) (hs : ∀ r ∈ l, Sm r), LoopT C0 cuB (cuyS la lb j l z z.length 0) (.exit 2) (cuyS la lb j l (z ++ l.flatMap yE) (z ++ l.flatMap yE).length l.length) := fun j l z hl hz hs => by
    have hz2 : ∀ k, k ≤ l.length → (z ++ (l.take k).flatMap yE).length = z.length + 2 * k := fun k hk => by rw [List.length_append, cut_len yE (fun _ => rfl), List.length_take]; omega
    have := LoopT.count (C := C0) (c := cuB) (e := .exit 2) (fun k => cuyS la lb j l (z ++ (l.take k).flatMap yE) (z.length + 2 * k) k) l.length (fun k hk => cuy_step la lb j l _ _ _ k (hz2 k (by omega)).symm (by omega) hk (by omega) (hs _ (nth_mem hk)) (by rw [take_nth hk, List.flatMap_append, ← List.append_assoc]; rfl)) (cuy_end la lb j l _ _) 0 (Nat.zero_le _)
    rw [← hz2 l.length (Nat.le_refl _), List.take_length] at this
    simpa using this
  have e : (la ++ lb).flatMap yE = (([] : List Int) ++ la.flatMap yE) ++ lb.flatMap yE := by simp
  have h1 := coy_0 la lb _ _ _ _ (key 0 la [] ha (by simp) sa)
  have h2 := coy_1 la lb _ _ _ _ (key 1 lb ([] ++ la.flatMap yE) hb (by rw [List.nil_append, cut_len yE (fun _ => rfl)]; omega) sb)
  have hL := LoopT.next h1 (LoopT.next h2 (coy_2 la lb _ _))
  rw [← e] at hL
  obtain ⟨z, hz⟩ : ∃ z, z = (la ++ lb).flatMap yE := ⟨_, rfl⟩
  have hzl : z.length ≤ 800000 := by rw [hz, cut_len yE (fun _ => rfl), List.length_append]; omega
  rw [← hz] at hL ⊢
  have h3 := sortI_ok z (by omega)
  have hm := (ms_perm z).length_eq
  have h4 := compI_ok (msI z) (by omega)
  rw [hm] at h4
  have := cuy_fn la lb z (msI z) (sortU z) z.length (sortU z).length hL h3 h4
  rwa [row_sl (sz := 1) (fun _ => rfl) _ _ _ rfl (by omega)] at this
theorem cutx_ok (la lb : List Rc) (ha : la.length ≤ 200000) (hb : lb.length ≤ 200000) (sa : ∀ r ∈ la, Sm r) (sb : ∀ r ∈ lb, Sm r) : PT 54 [.fn (.func 57) [] [], .sl 2 [slR la, slR lb]] (slI (sortU ((la ++ lb).flatMap xE))) := by
  have key : ∀ (j : Int) (l : List Rc) (z : List Int) (hl : l.length ≤ 200000) (hz : z.length ≤ 400000) (hs : ∀ r ∈ l, Sm r), LoopT C0 cuB (cuxS la lb j l z z.length 0) (.exit 2) (cuxS la lb j l (z ++ l.flatMap xE) (z ++ l.flatMap xE).length l.length) := fun j l z hl hz hs => by
    have hz2 : ∀ k, k ≤ l.length → (z ++ (l.take k).flatMap xE).length = z.length + 2 * k := fun k hk => by rw [List.length_append, cut_len xE (fun _ => rfl), List.length_take]; omega
    have := LoopT.count (C := C0) (c := cuB) (e := .exit 2) (fun k => cuxS la lb j l (z ++ (l.take k).flatMap xE) (z.length + 2 * k) k) l.length (fun k hk => cux_step la lb j l _ _ _ k (hz2 k (by omega)).symm (by omega) hk (by omega) (hs _ (nth_mem hk)) (by rw [take_nth hk, List.flatMap_append, ← List.append_assoc]; rfl)) (cux_end la lb j l _ _) 0 (Nat.zero_le _)
    rw [← hz2 l.length (Nat.le_refl _), List.take_length] at this
    simpa using this
  have e : (la ++ lb).flatMap xE = (([] : List Int) ++ la.flatMap xE) ++ lb.flatMap xE := by simp
  have h1 := cox_0 la lb _ _ _ _ (key 0 la [] ha (by simp) sa)
  have h2 := cox_1 la lb _ _ _ _ (key 1 lb ([] ++ la.flatMap xE) hb (by rw [List.nil_append, cut_len xE (fun _ => rfl)]; omega) sb)
  have hL := LoopT.next h1 (LoopT.next h2 (cox_2 la lb _ _))
  rw [← e] at hL
  obtain ⟨z, hz⟩ : ∃ z, z = (la ++ lb).flatMap xE := ⟨_, rfl⟩
  have hzl : z.length ≤ 800000 := by rw [hz, cut_len xE (fun _ => rfl), List.length_append]; omega
  rw [← hz] at hL ⊢
  have h3 := sortI_ok z (by omega)
  have hm := (ms_perm z).length_eq
  have h4 := compI_ok (msI z) (by omega)
  rw [hm] at h4
  have := cux_fn la lb z (msI z) (sortU z) z.length (sortU z).length hL h3 h4
  rwa [row_sl (sz := 1) (fun _ => rfl) _ _ _ rfl (by omega)] at this
end Go.Proofs.Ytcnlgdbmcdlknaa.Bn
