/- What was read is put as it was; sizes; the laws. By the prover of this seat. -/
import Derived.Test.YtjgjcpbkmeillaaDoorTm
set_option linter.unusedVariables false
set_option linter.unusedSimpArgs false
set_option maxRecDepth 100000
set_option maxHeartbeats 4000000
namespace Go.Proofs.YtjgjcpbkmeillaaDoor
open Go.RowKit Go.Pm
def pre (s : ByteArray) (p : Nat) : ByteArray := s.extract 0 p
theorem pre_size {s : ByteArray} {p : Nat} (h : p ≤ s.size) : (pre s p).size = p := by unfold pre; rw [ext_size _ _ _ h]; omega
theorem pre_app {s : ByteArray} {p q : Nat} (h : p ≤ q) (hq : q ≤ s.size) : pre s q = pre s p ++ s.extract p q := by
  refine ba_ext (by rw [ByteArray.size_append, pre_size hq, pre_size (by omega), ext_size _ _ _ hq]; omega) fun i hi => ?_
  rw [pre_size hq] at hi
  unfold pre
  rw [byte_ext s 0 q i hq (by omega), byte_app, ext_size _ _ _ (show p ≤ s.size by omega)]
  split
  · rw [byte_ext s 0 p i (by omega) (by omega)]
  · rw [byte_ext s p q _ hq (by omega)]
    congr 1
    omega
theorem pre_all (s : ByteArray) : pre s s.size = s := by
  refine ba_ext (pre_size (Nat.le_refl _)) fun i hi => ?_
  rw [pre_size (Nat.le_refl _)] at hi
  unfold pre
  rw [byte_ext s 0 s.size i (Nat.le_refl _) (by omega), Nat.zero_add]
theorem pre_zero (s : ByteArray) : pre s 0 = eB := nil_of (by rw [pre_size (Nat.zero_le _)])
theorem num_back {o z : Int} {s : ByteArray} {r : Nat × Int} (ho : o = 0 ∨ o = 1) (hz : szB z = true) (hr : r.1 ≤ s.size) (h : (nuR o z s r).2 = 0) :
    r.2 = 0 ∧ (nuR o z s r).1 = r.1 + wdD z ∧ r.1 + wdD z ≤ s.size ∧ putD o z (nuV o z s r) = (s.extract r.1 (r.1 + wdD z), 0) ∧ pre s (nuR o z s r).1 = pre s r.1 ++ (putD o z (nuV o z s r)).1 := by
  obtain ⟨h1, h2, h3⟩ := nuR_zero h
  have hg := get_zero ho hz (extract_size s r.1 (wdD z) (by omega))
  have hp := put_get o z _ hg
  have hv : nuV o z s r = (getD o z (s.extract r.1 (r.1 + wdD z))).1 := by unfold nuV; rw [if_pos ⟨h1, h2⟩]
  rw [← hv] at hp
  refine ⟨h1, h3, by omega, hp, ?_⟩
  rw [h3, hp, pre_app (p := r.1) (q := r.1 + wdD z) (by omega) (by omega)]
theorem padB_front (b : ByteArray) : ∀ q, padB (b ++ oneB 0) q = padB b (q + 1)
  | 0 => rfl
  | q + 1 => by rw [padB, padB_front b q]; rfl
theorem flG_back {s : ByteArray} : ∀ (q p : Nat), p ≤ s.size → (flG s q p).2 = 0 → (flG s q p).1 = p + q ∧ p + q ≤ s.size ∧ pre s (p + q) = padB (pre s p) q
  | 0, p, h, _ => ⟨rfl, h, rfl⟩
  | q + 1, p, h, h0 => by
    unfold flG at h0 ⊢
    by_cases e : p = s.size
    · rw [if_pos e] at h0; exact absurd (show (3 : Int) = 0 from h0) (by decide)
    · rw [if_neg e] at h0 ⊢
      by_cases hb : byteAt s p = 0
      · rw [if_pos hb] at h0 ⊢
        obtain ⟨h1, h2, h3⟩ := flG_back q (p + 1) (by omega) h0
        refine ⟨by omega, by omega, ?_⟩
        have e1 : s.extract p (p + 1) = oneB 0 := (ext_one s p (by omega)).2 hb
        rw [show p + (q + 1) = p + 1 + q by omega, h3, pre_app (p := p) (q := p + 1) (by omega) (by omega), e1, padB_front]
      · rw [if_neg hb] at h0; exact absurd (show (2 : Int) = 0 from h0) (by decide)
theorem fill_back {s : ByteArray} {r : Nat × Int} (hr : r.1 ≤ s.size) (h : (fuR s r).2 = 0) : r.2 = 0 ∧ pre s (fuR s r).1 = fillB (pre s r.1) := by
  unfold fuR at h ⊢
  by_cases h0 : r.2 = 0
  · rw [if_pos h0] at h ⊢
    obtain ⟨h1, h2, h3⟩ := flG_back _ _ hr h
    refine ⟨h0, ?_⟩
    rw [h1, h3]
    unfold fillB
    rw [pre_size hr]
  · rw [if_neg h0] at h; exact absurd h h0
theorem fxR_back {o : Int} {zs : List Int} {s : ByteArray} : ∀ (n k : Nat), k ≤ n → (fxR o zs s n).2 = 0 → (fxR o zs s k).2 = 0
  | 0, k, hk, h => by obtain rfl : k = 0 := by omega
                      exact h
  | n + 1, k, hk, h => by
    by_cases e : k = n + 1
    · rw [e]; exact h
    · exact fxR_back n k (by omega) (nuR_zero (o := o) (z := nth zs n) (s := s) (r := fxR o zs s n) h).1
theorem nth_app_l {l m : List Int} {k : Nat} (h : k < l.length) : nth (l ++ m) k = nth l k := by
  rw [nth_eq (by rw [List.length_append]; omega), nth_eq h, List.getElem_append_left h]
theorem nth_app_r (l : List Int) (v : Int) : nth (l ++ [v]) l.length = v := by
  rw [nth_eq (by rw [List.length_append]; simp)]
  simp
theorem fxV_nth (o : Int) (zs : List Int) (s : ByteArray) : ∀ (n k : Nat), k < n → nth (fxV o zs s n) k = nuV o (nth zs k) s (fxR o zs s k)
  | n + 1, k, hk => by
    have hl := fxV_len o zs s n
    rw [fxV]
    by_cases e : k = n
    · subst e
      have := nth_app_r (fxV o zs s k) (nuV o (nth zs k) s (fxR o zs s k))
      rw [hl] at this
      exact this
    · rw [nth_app_l (by omega)]
      exact fxV_nth o zs s n k (by omega)
theorem liV_nth (o z : Int) (s : ByteArray) (p : Nat) : ∀ (n k : Nat), k < n → nth (liV o z s p n) k = (getD o z (s.extract (p + k * wdD z) (p + k * wdD z + wdD z))).1
  | n + 1, k, hk => by
    have hl := liV_len o z s p n
    rw [liV]
    by_cases e : k = n
    · subst e
      have := nth_app_r (liV o z s p k) (getD o z (s.extract (p + k * wdD z) (p + k * wdD z + wdD z))).1
      rw [hl] at this
      exact this
    · rw [nth_app_l (by omega)]
      exact liV_nth o z s p n k (by omega)
theorem catP_back {o : Int} {zs : List Int} {s : ByteArray} (ho : o = 0 ∨ o = 1) (n : Nat) (hz : ∀ k, k < n → szB (nth zs k) = true) (h : (fxR o zs s n).2 = 0) : ∀ k, k ≤ n → catP o zs (fxV o zs s n) k = pre s (fxR o zs s k).1
  | 0, _ => (pre_zero s).symm
  | k + 1, hk => by
    have hb := num_back ho (hz k (by omega)) (fxR_le o zs s k) (fxR_back n (k + 1) hk h)
    rw [catP, catP_back ho n hz h k (by omega), fxV_nth o zs s n k (by omega)]
    exact hb.2.2.2.2.symm
theorem catL_back {o z : Int} {s : ByteArray} (ho : o = 0 ∨ o = 1) (hz : szB z = true) (p n : Nat) (h : p + n * wdD z ≤ s.size) : ∀ k, k ≤ n → (∀ j, j < k → (putD o z (nth (liV o z s p n) j)).2 = 0) ∧ pre s p ++ catL o z (liV o z s p n) k = pre s (p + k * wdD z)
  | 0, _ => ⟨fun j hj => by omega, by rw [Nat.zero_mul]; exact app_e _⟩
  | k + 1, hk => by
    have hk2 : (k + 1) * wdD z ≤ n * wdD z := Nat.mul_le_mul_right _ hk
    have e2 : (k + 1) * wdD z = k * wdD z + wdD z := Nat.succ_mul _ _
    obtain ⟨h1, h2⟩ := catL_back ho hz p n h k (by omega)
    have hg := get_zero ho hz (extract_size s (p + k * wdD z) (wdD z) (by omega))
    have hp := put_get o z _ hg
    rw [← liV_nth o z s p n k (by omega)] at hp
    refine ⟨fun j hj => ?_, ?_⟩
    · by_cases e : j = k
      · subst e; rw [hp]
      · exact h1 j (by omega)
    · rw [catL, ← app_assoc, h2, hp, e2]
      dsimp only
      rw [pre_app (p := p + k * wdD z) (q := p + (k * wdD z + wdD z)) (by omega) (by omega)]
      simp only [Nat.add_assoc]
theorem idx_range_none {p : Nat → Bool} {n : Nat} (h : ∀ k, k < n → p k = false) : idxD p (List.range n) = none := by
  cases hi : idxD p (List.range n) with
  | none => rfl
  | some k =>
    obtain ⟨h1, h2, _⟩ := idx_some hi
    rw [List.length_range] at h1
    rw [nth_range _ _ h1, h k h1] at h2
    cases h2
theorem fits_of {o : Int} {f : Fm} {x : Fl} (F : Fit o f x) : fitsD o f x = 0 := by
  unfold fitsD
  rw [if_neg (fun q => q F.len), idx_range_none (fun k hk => by unfold errN; rw [F.num k hk]; rfl)]
  dsimp only
  rw [if_neg (fun q => by rcases F.byt with h | h; exact q.1 h; rw [h] at q; cases q.2), if_neg (by have := F.big; omega), if_neg (fun q => by rcases F.lst with h | h; omega; exact h q.2), if_neg (by have := F.lng; omega)]
  cases hj : idxD (errL o f.list) x.L with
  | none => rfl
  | some j =>
    obtain ⟨h1, h2, _⟩ := idx_some hj
    exact absurd (F.row j h1) (errL_t h2)
theorem fill_pre {s : ByteArray} {p : Nat} (hp : p ≤ s.size) (h : (fuR s (p, 0)).2 = 0) : pre s (fuR s (p, 0)).1 = fillB (pre s p) := (fill_back (r := (p, 0)) hp h).2
theorem text_back {o : Int} {f : Fm} {s : ByteArray} {r : Nat × Int} (ho : o = 0 ∨ o = 1) (hs : s.size ≤ 65536) (hr : r.1 ≤ s.size) (hm : r.1 % 4 = 0) (h : (txR o f s r).2.2 = false) (h0 : (txR o f s r).2.1.2 = 0) (N L : List Int) :
    ((txR o f s r).1.size = 0 ∨ f.bytes = true) ∧ (txR o f s r).1.size ≤ 65536 ∧ pre s (txR o f s r).2.1.1 = pre s r.1 ++ tB o f ⟨N, (txR o f s r).1, L⟩ := by
  unfold txR at h h0 ⊢
  unfold tB
  by_cases hb : f.bytes = true
  · rw [if_pos hb] at h h0 ⊢
    rw [if_pos hb]
    by_cases e2 : (nuR o 4 s r).2 = 0
    · rw [if_neg (fun q => q e2)] at h h0 ⊢
      by_cases hsm : s.size < (nuR o 4 s r).1 + (nuV o 4 s r).toNat
      · rw [if_pos hsm] at h; cases h
      · rw [if_neg hsm] at h h0 ⊢
        dsimp only at h0 ⊢
        obtain ⟨b1, b2, b3, b4, b5⟩ := num_back ho sz4 hr e2
        have hv := nuV4 o s r ho
        have hvn : nuV o 4 s r = ((nuV o 4 s r).toNat : Int) := by omega
        generalize (nuV o 4 s r).toNat = m at *
        have hsz : (s.extract (nuR o 4 s r).1 ((nuR o 4 s r).1 + m)).size = m := extract_size s _ _ (by omega)
        refine ⟨.inr hb, by rw [hsz]; omega, ?_⟩
        rw [hsz, fill_pre (by omega) h0, pre_app (p := (nuR o 4 s r).1) (q := (nuR o 4 s r).1 + m) (by omega) (by omega), b5, hvn]
        unfold num4
        rw [app_assoc, fillB_app _ _ (by rw [pre_size hr]; exact hm)]
    · rw [if_pos e2] at h; cases h
  · rw [if_neg hb] at h h0 ⊢
    rw [if_neg hb]
    exact ⟨.inl rfl, Nat.zero_le _, (app_e _).symm⟩
theorem list_back {o : Int} {f : Fm} {s : ByteArray} {r : Nat × Int} (ho : o = 0 ∨ o = 1) (hlz : f.list = 0 ∨ szB f.list = true) (hs : s.size ≤ 65536) (hr : r.1 ≤ s.size) (hm : r.1 % 4 = 0) (h0 : (lsR o f s r).2.2 = 0) (N : List Int) (B : ByteArray) :
    ((lsR o f s r).1.length = 0 ∨ ¬ f.list = 0) ∧ (lsR o f s r).1.length ≤ 65536 ∧ (∀ k, k < (lsR o f s r).1.length → (putD o f.list (nth (lsR o f s r).1 k)).2 = 0) ∧ pre s (lsR o f s r).2.1 = pre s r.1 ++ lB o f ⟨N, B, (lsR o f s r).1⟩ ∧ (lsR o f s r).2.1 ≤ s.size := by
  unfold lsR at h0 ⊢
  unfold lB
  by_cases hl : f.list = 0
  · rw [if_pos hl] at h0 ⊢
    rw [if_pos hl]
    exact ⟨.inl rfl, Nat.zero_le _, fun k hk => absurd hk (Nat.not_lt_zero _), (app_e _).symm, hr⟩
  · rw [if_neg hl] at h0 ⊢
    rw [if_neg hl]
    have hz := hlz.resolve_left hl
    have hwl := wd_le hz
    by_cases e2 : (nuR o 4 s r).2 = 0
    · rw [if_neg (fun q => q e2)] at h0 ⊢
      by_cases hsm : s.size < (nuR o 4 s r).1 + (nuV o 4 s r).toNat * wdD f.list
      · rw [if_pos hsm] at h0; exact absurd (show (3 : Int) = 0 from h0) (by decide)
      · rw [if_neg hsm] at h0 ⊢
        dsimp only at h0 ⊢
        obtain ⟨b1, b2, b3, b4, b5⟩ := num_back ho sz4 hr e2
        have hv := nuV4 o s r ho
        have hvn : nuV o 4 s r = ((nuV o 4 s r).toNat : Int) := by omega
        generalize (nuV o 4 s r).toNat = m at *
        have hm1 : m * 1 ≤ m * wdD f.list := Nat.mul_le_mul_left _ hwl.1
        obtain ⟨c1, c2⟩ := catL_back (s := s) ho hz (nuR o 4 s r).1 m (by omega) m (Nat.le_refl _)
        rw [liV_len]
        refine ⟨.inr hl, by omega, c1, ?_, fuR_le (r := ((nuR o 4 s r).1 + m * wdD f.list, 0)) (show (nuR o 4 s r).1 + m * wdD f.list ≤ s.size by omega)⟩
        rw [fill_pre (by omega) h0, ← c2, b5, hvn]
        unfold num4
        rw [app_assoc, fillB_app _ _ (by rw [pre_size hr]; exact hm)]
    · rw [if_pos e2] at h0; exact absurd h0 e2
theorem back_all {o : Int} {f : Fm} {s : ByteArray} (hk : knoD o f = 0) (hs : s.size ≤ 65536) (h : (bodD o f s).2.2 = 0) : Fit o f (bodD o f s).1 ∧ encD o f (bodD o f s).1 = pre s (bodD o f s).2.1 ∧ (bodD o f s).2.1 ≤ s.size := by
  obtain ⟨ho, h16, hz, hlz⟩ := kno_zero hk
  obtain ⟨n, hn⟩ : ∃ n, n = f.fixed.length := ⟨_, rfl⟩
  have hx := fxR_le o f.fixed s n
  have hr1 : r1D o f s = fuR s (fxR o f.fixed s n) := by unfold r1D; rw [hn]
  have h1le : (r1D o f s).1 ≤ s.size := by rw [hr1]; exact fuR_le hx
  -- the text
  have key : (r1D o f s).2 = 0 ∧ (txR o f s (r1D o f s)).2.2 = false ∧ (txR o f s (r1D o f s)).2.1.2 = 0 := by
    have st : (txR o f s (r1D o f s)).2.2 = true → ¬ (txR o f s (r1D o f s)).2.1.2 = 0 := by
      intro e
      unfold txR at e ⊢
      split at e
      · rename_i hb
        rw [if_pos hb]
        split at e
        · rename_i h2; rw [if_pos h2]; exact h2
        · rename_i h2
          rw [if_neg h2]
          split at e
          · rename_i h3; rw [if_pos h3]; show ¬ (3 : Int) = 0; decide
          · cases e
      · cases e
    have hst : (txR o f s (r1D o f s)).2.2 = false := by
      cases hc : (txR o f s (r1D o f s)).2.2 with
      | false => rfl
      | true =>
        unfold bodD at h
        rw [if_pos hc] at h
        exact absurd h (st hc)
    have h2 : (lsR o f s (txR o f s (r1D o f s)).2.1).2.2 = 0 := by
      unfold bodD at h
      rw [if_neg (by rw [hst]; exact Bool.false_ne_true)] at h
      exact h
    have h3 : (txR o f s (r1D o f s)).2.1.2 = 0 := by
      have hle := txR_le (o := o) (f := f) h1le
      generalize (txR o f s (r1D o f s)).2.1 = r at h2 hle
      unfold lsR at h2
      split at h2
      · exact h2
      · split at h2
        · rename_i q; exact absurd h2 q
        · rename_i q
          exact (nuR_zero (Decidable.not_not.1 q)).1
    refine ⟨?_, hst, h3⟩
    have hst' := hst
    unfold txR at h3 hst'
    split at h3
    · rename_i hb
      rw [if_pos hb] at hst'
      split at h3
      · rename_i q; exact absurd h3 q
      · rename_i q
        exact (nuR_zero (Decidable.not_not.1 q)).1
    · exact h3
  obtain ⟨k1, k2, k3⟩ := key
  rw [hr1] at k1
  obtain ⟨k0, kp⟩ := fill_back hx k1
  rw [← hr1] at k1 kp
  have hcat := catP_back (o := o) (zs := f.fixed) (s := s) ho n (by rw [hn]; exact hz) k0 n (Nat.le_refl _)
  have hlen := fxV_len o f.fixed s n
  have hm1 : (r1D o f s).1 % 4 = 0 := by
    have := (fillB_size (pre s (fxR o f.fixed s n).1)).1
    rw [← kp, pre_size h1le] at this
    exact this
  have t2le := txR_le (o := o) (f := f) h1le
  have hL : (lsR o f s (txR o f s (r1D o f s)).2.1).2.2 = 0 := by
    unfold bodD at h
    rw [if_neg (by rw [k2]; exact Bool.false_ne_true)] at h
    exact h
  obtain ⟨t1, t2, t3⟩ := text_back ho hs h1le hm1 k2 k3 (fxV o f.fixed s n) (lsR o f s (txR o f s (r1D o f s)).2.1).1
  have hm2 : (txR o f s (r1D o f s)).2.1.1 % 4 = 0 := by
    have := congrArg ByteArray.size t3
    rw [ByteArray.size_append, pre_size t2le, pre_size h1le] at this
    have := tB_size o f ⟨fxV o f.fixed s n, (txR o f s (r1D o f s)).1, (lsR o f s (txR o f s (r1D o f s)).2.1).1⟩
    omega
  obtain ⟨l1, l2, l3, l4, l5⟩ := list_back (f := f) ho hlz hs t2le hm2 hL (fxV o f.fixed s n) (txR o f s (r1D o f s)).1
  have hb : bodD o f s = (⟨fxV o f.fixed s n, (txR o f s (r1D o f s)).1, (lsR o f s (txR o f s (r1D o f s)).2.1).1⟩, (lsR o f s (txR o f s (r1D o f s)).2.1).2) := by
    unfold bodD
    rw [if_neg (by rw [k2]; exact Bool.false_ne_true), hn]
  rw [hb]
  refine ⟨⟨by rw [← hn]; exact hlen, fun k hk => ?_, t1, t2, l1, l2, l3⟩, ?_, l5⟩
  · dsimp only at hk ⊢
    rw [hlen] at hk
    have hbk := num_back ho (hz k (by omega)) (fxR_le o f.fixed s k) (fxR_back n (k + 1) hk k0)
    rw [fxV_nth _ _ _ n k hk, hbk.2.2.2.1]
  · rw [enc_eq]
    dsimp only
    rw [hlen, hcat, ← kp, ← t3, ← l4]
theorem put_of_get {o : Int} {f : Fm} {s : ByteArray} (h : (getF o f s).2 = 0) : putF o f (getF o f s).1 = (s, 0) ∧ (getF o f s).1.N.length ≤ 16 ∧ (getF o f s).1.L.length ≤ 65536 := by
  unfold getF at h ⊢
  by_cases k0 : knoD o f = 0
  · rw [if_neg (fun q => q k0)] at h ⊢
    by_cases hs : s.size > 65536
    · rw [if_pos hs] at h; exact absurd (show (4 : Int) = 0 from h) (by decide)
    rw [if_neg hs] at h ⊢
    unfold finD at h ⊢
    by_cases h0 : (bodD o f s).2.2 = 0
    · rw [if_neg (fun q => q h0)] at h ⊢
      by_cases hp : (bodD o f s).2.1 < s.size
      · rw [if_pos hp] at h; exact absurd (show (2 : Int) = 0 from h) (by decide)
      rw [if_neg hp]
      obtain ⟨F, he, hle⟩ := back_all k0 (by omega) h0
      have : (bodD o f s).2.1 = s.size := by omega
      rw [this, pre_all] at he
      have hf := fits_of F
      have h16 := (kno_zero k0).2.1
      refine ⟨?_, ?_, F.lng⟩
      · unfold putF
        rw [if_neg (fun q => q k0), if_neg (fun q => q hf), he, if_neg hs]
      · have := F.len
        dsimp only
        omega
    · rw [if_pos h0] at h; exact absurd h h0
  · rw [if_pos k0] at h; exact absurd h k0
theorem get_nil {o : Int} {f : Fm} {s : ByteArray} (h : ¬ (getF o f s).2 = 0) : (getF o f s).1 = nilF := by
  unfold getF at h ⊢
  by_cases k0 : knoD o f = 0
  · rw [if_neg (fun q => q k0)] at h ⊢
    by_cases hs : s.size > 65536
    · rw [if_pos hs]
    rw [if_neg hs] at h ⊢
    unfold finD at h ⊢
    by_cases h0 : (bodD o f s).2.2 = 0
    · rw [if_neg (fun q => q h0)] at h ⊢
      by_cases hp : (bodD o f s).2.1 < s.size
      · rw [if_pos hp]
      · rw [if_neg hp] at h; exact absurd rfl h
    · rw [if_pos h0]
  · rw [if_pos k0]
theorem put_right {o : Int} {f : Fm} {x : Fl} (h : (putF o f x).2 = 0) : knoD o f = 0 ∧ Fit o f x ∧ (encD o f x).size ≤ 65536 ∧ (putF o f x).1 = encD o f x := by
  unfold putF at h ⊢
  by_cases k0 : knoD o f = 0
  · rw [if_neg (fun q => q k0)] at h ⊢
    by_cases f0 : fitsD o f x = 0
    · rw [if_neg (fun q => q f0)] at h ⊢
      by_cases hs : (encD o f x).size > 65536
      · rw [if_pos hs] at h; exact absurd (show (4 : Int) = 0 from h) (by decide)
      · rw [if_neg hs]
        exact ⟨k0, fits_zero f0, by omega, rfl⟩
    · rw [if_pos f0] at h; exact absurd h f0
  · rw [if_pos k0] at h; exact absurd h k0
theorem put_nil {o : Int} {f : Fm} {x : Fl} (h : ¬ (putF o f x).2 = 0) : (putF o f x).1 = eB := by
  unfold putF at h ⊢
  by_cases k0 : knoD o f = 0
  · rw [if_neg (fun q => q k0)] at h ⊢
    by_cases f0 : fitsD o f x = 0
    · rw [if_neg (fun q => q f0)] at h ⊢
      by_cases hs : (encD o f x).size > 65536
      · rw [if_pos hs]
      · rw [if_neg hs] at h; exact absurd rfl h
    · rw [if_pos f0]
  · rw [if_pos k0]
theorem get_trk {o : Int} {f : Fm} {x : Fl} {s Z : ByteArray} (k0 : knoD o f = 0) (F : Fit o f x) (hs : s.size ≤ 65536) (hA : Ag s (encD o f x ++ Z)) :
    (s.size < (encD o f x).size → getF o f s = (nilF, 3)) ∧ (s.size = (encD o f x).size → getF o f s = (x, 0)) ∧ ((encD o f x).size < s.size → getF o f s = (nilF, 2)) := by
  obtain ⟨h1, h2⟩ := track (kno_zero k0).1 F hA
  unfold getF
  rw [if_neg (fun q => q k0), if_neg (show ¬ s.size > 65536 by omega)]
  unfold finD
  obtain ⟨n1, n2⟩ := nuR_trk h1
  refine ⟨fun h => ?_, fun h => ?_, fun h => ?_⟩
  · have e : ¬ (bodD o f s).2.2 = 0 := fun q => by have := (n1 q).1; omega
    rw [if_pos e, (n2 e).2]
  · have e : (bodD o f s).2.2 = 0 := Decidable.byContradiction fun q => by have := (n2 q).1; omega
    rw [if_neg (fun q => q e), if_neg (by rw [(n1 e).2]; show ¬ (encD o f x).size < s.size; omega), h2 (by omega)]
  · have e : (bodD o f s).2.2 = 0 := Decidable.byContradiction fun q => by have := (n2 q).1; omega
    rw [if_neg (fun q => q e), if_pos (by rw [(n1 e).2]; exact h)]
theorem ag_self (E : ByteArray) : Ag E (E ++ eB) := fun i h1 h2 => by rw [app_e]
theorem ag_more (E c : ByteArray) : Ag (E ++ c) (E ++ c) := fun i h1 h2 => rfl
theorem ag_cut (E : ByteArray) (k : Nat) (h : k ≤ E.size) : Ag (E.extract 0 k) (E ++ eB) := fun i h1 h2 => by
  rw [ext_size _ _ _ h] at h1
  rw [app_e, byte_ext E 0 k i h (by omega), Nat.zero_add]
end Go.Proofs.YtjgjcpbkmeillaaDoor
