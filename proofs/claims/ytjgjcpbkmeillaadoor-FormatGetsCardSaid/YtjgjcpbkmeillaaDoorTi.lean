/- Get, by the document: what it is. By the prover of this seat. -/
import Derived.Test.YtjgjcpbkmeillaaDoorTh
set_option linter.unusedVariables false
set_option linter.unusedSimpArgs false
set_option maxRecDepth 100000
set_option maxHeartbeats 4000000
namespace Go.Proofs.YtjgjcpbkmeillaaDoor
open Go.RowKit Go.Pm
theorem nuR_bad {o z : Int} {s : ByteArray} {r : Nat × Int} (h : ¬ (nuR o z s r).2 = 0) : (r.2 = 0 ∧ s.size < r.1 + wdD z ∧ (nuR o z s r) = (r.1, 3)) ∨ (¬ r.2 = 0 ∧ nuR o z s r = r) := by
  unfold nuR at h ⊢
  by_cases h0 : r.2 = 0
  · rw [if_pos h0] at h ⊢
    by_cases h1 : s.size < r.1 + wdD z
    · rw [if_pos h1]; exact .inl ⟨h0, h1, rfl⟩
    · rw [if_neg h1] at h; exact absurd rfl h
  · rw [if_neg h0]; exact .inr ⟨h0, rfl⟩
theorem tk_good {o z : Int} {s : ByteArray} {r R : Nat × Int} (hs : s.size ≤ 65536) (ha : alike r R) (h : (nuR o z s R).2 = 0) : CallH Tryd.prog G1 44 [.ptr 0 0, i64 (wdD z)] [bA s r.1 r.2] (st (s.extract R.1 (R.1 + wdD z))) [bA s (nuR o z s R).1 0] := by
  obtain ⟨h1, h2, h3⟩ := nuR_zero h
  obtain ⟨a1, a2⟩ := ha
  have e := a1.trans h1
  rw [h3, e, a2 e]
  exact tk_take s R.1 (wdD z) hs h2
theorem tk_bad {o z : Int} {s : ByteArray} {r R : Nat × Int} (hs : s.size ≤ 65536) (hz : wdD z ≤ 4) (hR : R.1 ≤ s.size) (ha : alike r R) (h : ¬ (nuR o z s R).2 = 0) : CallH Tryd.prog G1 44 [.ptr 0 0, i64 (wdD z)] [bA s r.1 r.2] (st ⟨#[]⟩) [bA s r.1 (nuR o z s R).2] := by
  obtain ⟨a1, a2⟩ := ha
  rcases nuR_bad h with ⟨h0, h1, h2⟩ | ⟨h0, h1⟩
  · have e := a1.trans h0
    rw [h2, e, a2 e]
    exact tk_short s R.1 (wdD z) hR hs h1 (by omega)
  · have e : ¬ r.2 = 0 := fun q => h0 (a1.symm.trans q)
    rw [h1, ← a1]
    exact tk_err s r.1 r.2 (wdD z) e
theorem no_stay (s : ByteArray) (p : Nat) (e : Int) (he : ¬ e = 0) : CallH Tryd.prog G1 46 [.ptr 0 0] [bA s p e] (.tup []) [bA s p e] := rno_fn s p p e e (rno_err s p e he)
def rfV (o : Int) (zs : List Int) (s : ByteArray) : Nat → List Int
  | 0 => []
  | k + 1 => if (fxR o zs s (k + 1)).2 = 0 then rfV o zs s k ++ [nuV o (nth zs k) s (fxR o zs s k)] else rfV o zs s k
theorem rfV_eq (o : Int) (zs : List Int) (s : ByteArray) : ∀ k, (fxR o zs s k).2 = 0 → rfV o zs s k = fxV o zs s k
  | 0, _ => rfl
  | k + 1, h => by
    have h0 := (nuR_zero (o := o) (z := nth zs k) (s := s) (r := fxR o zs s k) h).1
    rw [rfV, if_pos h, fxV, rfV_eq o zs s k h0]
theorem rfV_le (o : Int) (zs : List Int) (s : ByteArray) : ∀ k, (rfV o zs s k).length ≤ k
  | 0 => Nat.le_refl _
  | k + 1 => by
    have := rfV_le o zs s k
    unfold rfV
    split
    · rw [List.length_append]; simp; omega
    · omega
theorem rfx_loop (o : Int) (f : Fm) (s : ByteArray) (ho : o = 0 ∨ o = 1) (hl : f.fixed.length ≤ 16) (hz : ∀ k, k < f.fixed.length → szB (nth f.fixed k) = true) (hs : s.size ≤ 65536) : LoopT C1 rgB (rgS o f s 0 0 0 0 []) (.exit 0) (rgS o f s f.fixed.length (fxR o f.fixed s f.fixed.length).1 (fxR o f.fixed s f.fixed.length).2 (rfV o f.fixed s f.fixed.length).length (rfV o f.fixed s f.fixed.length)) :=
  LoopT.count (fun k => rgS o f s k (fxR o f.fixed s k).1 (fxR o f.fixed s k).2 (rfV o f.fixed s k).length (rfV o f.fixed s k)) f.fixed.length (fun k hk => by
    have hzk := hz k hk
    have hw := rbytes_ok _ hzk
    have hwl := wd_le hzk
    by_cases h : (fxR o f.fixed s (k + 1)).2 = 0
    · have h0 := nuR_zero (o := o) (z := nth f.fixed k) (s := s) (r := fxR o f.fixed s k) h
      have hc := tk_good (o := o) (z := nth f.fixed k) (s := s) (r := fxR o f.fixed s k) (R := fxR o f.fixed s k) hs ⟨rfl, fun _ => rfl⟩ h
      have hv := val_ok o (nth f.fixed k) (s.extract (fxR o f.fixed s k).1 ((fxR o f.fixed s k).1 + wdD (nth f.fixed k))) ho hzk (extract_size _ _ _ (by omega))
      have ev : nuV o (nth f.fixed k) s (fxR o f.fixed s k) = (getD o (nth f.fixed k) (s.extract (fxR o f.fixed s k).1 ((fxR o f.fixed s k).1 + wdD (nth f.fixed k)))).1 := by
        unfold nuV; rw [if_pos ⟨h0.1, h0.2.1⟩]
      show Tri C1 rgB (rgS o f s k (fxR o f.fixed s k).1 (fxR o f.fixed s k).2 (rfV o f.fixed s k).length (rfV o f.fixed s k)) .normal (rgS o f s (k + 1) (fxR o f.fixed s (k + 1)).1 (fxR o f.fixed s (k + 1)).2 (rfV o f.fixed s (k + 1)).length (rfV o f.fixed s (k + 1)))
      have er : rfV o f.fixed s (k + 1) = rfV o f.fixed s k ++ [nuV o (nth f.fixed k) s (fxR o f.fixed s k)] := by rw [rfV, if_pos h]
      rw [er, h, h0.1, List.length_append, ev]
      rw [h0.1] at hc
      exact rg_step o f s _ k _ _ _ _ _ _ rfl hk hl (rfV_le _ _ _ _) hw hc hv
    · have hc := tk_bad (o := o) (z := nth f.fixed k) (s := s) (r := fxR o f.fixed s k) (R := fxR o f.fixed s k) hs hwl.2 (fxR_le _ _ _ _) ⟨rfl, fun _ => rfl⟩ h
      have er : rfV o f.fixed s (k + 1) = rfV o f.fixed s k := by rw [rfV, if_neg h]
      have ep : (fxR o f.fixed s (k + 1)).1 = (fxR o f.fixed s k).1 := by
        rcases nuR_bad h with ⟨_, _, h2⟩ | ⟨_, h2⟩
        · show (nuR o (nth f.fixed k) s (fxR o f.fixed s k)).1 = _; rw [h2]
        · show (nuR o (nth f.fixed k) s (fxR o f.fixed s k)).1 = _; rw [h2]
      show Tri C1 rgB (rgS o f s k (fxR o f.fixed s k).1 (fxR o f.fixed s k).2 (rfV o f.fixed s k).length (rfV o f.fixed s k)) .normal (rgS o f s (k + 1) (fxR o f.fixed s (k + 1)).1 (fxR o f.fixed s (k + 1)).2 (rfV o f.fixed s (k + 1)).length (rfV o f.fixed s (k + 1)))
      rw [er, ep]
      exact rg_skip o f s _ k _ _ _ _ _ _ _ hk hl h hw hc) (rg_end o f s _ _ _ _) 0 (Nat.zero_le _)
theorem rz_run (o : Int) (f : Fm) (s : ByteArray) (ho : o = 0 ∨ o = 1) (m : Nat) (vs : List Int) (b : ByteArray) (n p k : Nat) (hn : n ≤ 4294967295) (hz : szB f.list = true) (hs : s.size ≤ 65536) (hk : k < n) (hp : ¬ s.size < p + (k + 1) * wdD f.list) : Tri C1 rzB (rzS o f s m vs b n k (p + k * wdD f.list) 0 k (liV o f.list s p k)) .normal (rzS o f s m vs b n (k + 1) (p + (k + 1) * wdD f.list) 0 (k + 1) (liV o f.list s p (k + 1))) := by
  have hw := rbytes_ok _ hz
  have hwl := wd_le hz
  have e2 : (k + 1) * wdD f.list = k * wdD f.list + wdD f.list := Nat.succ_mul _ _
  have h1 : k * 1 ≤ k * wdD f.list := Nat.mul_le_mul_left _ hwl.1
  have hc := tk_take s (p + k * wdD f.list) (wdD f.list) hs (by omega)
  have hv := val_ok o f.list (s.extract (p + k * wdD f.list) (p + k * wdD f.list + wdD f.list)) ho hz (extract_size _ _ _ (by omega))
  rw [show p + (k + 1) * wdD f.list = p + k * wdD f.list + wdD f.list by omega]
  exact rz_step o f s m vs b _ n k _ _ k _ _ _ (liV_len _ _ _ _ _) hk (by omega) (by omega) hn hw hc hv
theorem rz_full (o : Int) (f : Fm) (s : ByteArray) (ho : o = 0 ∨ o = 1) (m : Nat) (vs : List Int) (b : ByteArray) (n p : Nat) (hn : n ≤ 4294967295) (hz : szB f.list = true) (hs : s.size ≤ 65536) (hp : ¬ s.size < p + n * wdD f.list) : LoopT C1 rzB (rzS o f s m vs b n 0 p 0 0 []) (.exit 2) (rzS o f s m vs b n n (p + n * wdD f.list) 0 n (liV o f.list s p n)) := by
  have L := LoopT.count (fun k => rzS o f s m vs b n k (p + k * wdD f.list) 0 k (liV o f.list s p k)) n (fun k hk => by
    have hk2 : (k + 1) * wdD f.list ≤ n * wdD f.list := Nat.mul_le_mul_right _ hk
    exact rz_run o f s ho m vs b n p k hn hz hs hk (by omega)) (rz_end o f s m vs b n _ _ _) 0 (Nat.zero_le _)
  simp only [Nat.zero_mul, Nat.add_zero] at L
  exact L
theorem rz_part (o : Int) (f : Fm) (s : ByteArray) (ho : o = 0 ∨ o = 1) (m : Nat) (vs : List Int) (b : ByteArray) (n p : Nat) (hn : n ≤ 4294967295) (hz : szB f.list = true) (hs : s.size ≤ 65536) (hp0 : p ≤ s.size) (hp : s.size < p + n * wdD f.list) : ∃ (i q j : Nat) (ls : List Int), j = ls.length ∧ LoopT C1 rzB (rzS o f s m vs b n 0 p 0 0 []) (.exit 2) (rzS o f s m vs b n i q 3 j ls) := by
  have hw := rbytes_ok _ hz
  have hwl := wd_le hz
  obtain ⟨w, hwd⟩ : ∃ w, w = wdD f.list := ⟨_, rfl⟩
  obtain ⟨k, hk⟩ : ∃ k, k = (s.size - p) / w := ⟨_, rfl⟩
  have hkw : k * w ≤ s.size - p := by rw [hk]; exact Nat.div_mul_le_self _ _
  have hkw2 : s.size - p < (k + 1) * w := by rw [hk]; exact (Nat.div_lt_iff_lt_mul (by omega)).1 (Nat.lt_succ_self _)
  have e2 : (k + 1) * w = k * w + w := Nat.succ_mul _ _
  have hkn : k < n := by
    rcases Nat.lt_or_ge k n with h | h
    · exact h
    · have := Nat.mul_le_mul_right w h
      rw [← hwd] at hp
      omega
  have h1 : k * 1 ≤ k * w := Nat.mul_le_mul_left _ (by omega)
  have hc := tk_short s (p + k * wdD f.list) (wdD f.list) (by rw [← hwd]; omega) hs (by rw [← hwd]; omega) (by omega)
  have L := LoopT.count (fun k => rzS o f s m vs b n k (p + k * wdD f.list) 0 k (liV o f.list s p k)) k (fun k' hk' => by
    have hk2 : (k' + 1) * wdD f.list ≤ k * wdD f.list := Nat.mul_le_mul_right _ hk'
    exact rz_run o f s ho m vs b n p k' hn hz hs (by omega) (by rw [← hwd] at hk2 ⊢; omega)) (LoopT.next (rz_skip o f s m vs b _ n k _ _ k _ 3 _ hkn (by omega) hn (by decide) hw hc) (rz_out o f s m vs b n (k + 1) _ k 3 (by decide) _)) 0 (Nat.zero_le _)
  simp only [Nat.zero_mul, Nat.add_zero] at L
  exact ⟨_, _, _, _, (liV_len _ _ _ _ _).symm, L⟩
theorem rget_0 (f : Fm) (s : ByteArray) : Pu 19 [i64 0, fmA f, st s] (getFR (getF 0 f s)) := by
  have hk := rc_ok f
  unfold getF
  have ek : knoD 0 f = checkD f := by unfold knoD; rw [if_pos (by omega)]
  by_cases k0 : knoD 0 f = 0
  · rw [if_neg (fun q => q k0)]
    obtain ⟨ho, h16, hz, hlz⟩ := kno_zero k0
    rw [← ek, k0] at hk
    by_cases hs : s.size > 65536
    · rw [if_pos hs]; exact rget_long0 f s hs hk
    rw [if_neg hs]
    have hs' : s.size ≤ 65536 := by omega
    have LN := rfx_loop 0 f s ho h16 hz hs'
    have hx := fxR_le 0 f.fixed s f.fixed.length
    obtain ⟨r1, F1, ha1⟩ := rno_ok s hs' (fxR 0 f.fixed s f.fixed.length) (fxR 0 f.fixed s f.fixed.length) ⟨rfl, fun _ => rfl⟩ hx
    have hr1 : (r1D 0 f s).1 ≤ s.size := fuR_le hx
    have hvs : (r1D 0 f s).2 = 0 → rfV 0 f.fixed s f.fixed.length = fxV 0 f.fixed s f.fixed.length := fun h => rfV_eq _ _ _ _ (by
      unfold r1D fuR at h
      by_cases q : (fxR 0 f.fixed s f.fixed.length).2 = 0
      · exact q
      · rw [if_neg q] at h; exact h)
    change alike r1 (r1D 0 f s) at ha1
    unfold bodD
    generalize fxR 0 f.fixed s f.fixed.length = r0 at *
    generalize r1D 0 f s = R1 at *
    cases hb : f.bytes with
    | false =>
      have ht : txR 0 f s R1 = (eB, R1, false) := by unfold txR; rw [hb]; rfl
      rw [ht]
      simp only [Bool.false_eq_true, if_false]
      clear ht
      generalize hRR : R1 = R at *
      generalize hrr : r1 = r at *
      have ha := ha1
      have hR := hr1
      have N1le := nuR_le (o := 0) (z := 4) (s := s) (r := R) hR
      have v1 := nuV4 0 s R (by omega)
      unfold lsR
      by_cases hl : f.list = 0
      · rw [if_pos hl]
        unfold finD
        dsimp only
        by_cases hE : R.2 = 0
        · rw [if_neg (fun q => q hE)]
          have er : r.2 = 0 := ha.1.trans hE
          rw [er] at F1
          rw [← ha.2 er]
          have hV := hvs hE
          rw [← hV] at *
          by_cases hp : r.1 < s.size
          · rw [if_pos hp]
            exact rg0_00more f s hk hs _ _ _ rfl _ LN _ F1 hb hl hp
          · rw [if_neg hp]
            exact rg0_00right f s hk hs _ _ _ rfl _ LN _ F1 hb hl hp
        · rw [if_pos hE, ← ha.1]
          exact rg0_00err f s hk hs _ _ _ rfl _ LN _ _ F1 hb hl (fun q => hE (ha.1.symm.trans q))
      rw [if_neg hl]
      have hzl : szB f.list = true := hlz.resolve_left hl
      have hwl := wd_le hzl
      by_cases e4 : (nuR 0 4 s R).2 = 0
      · rw [if_neg (fun q => q e4)]
        have hzero := nuR_zero e4
        have T3 := tk_good (r := r) hs' ha e4
        have V2 := val_ok 0 4 (s.extract R.1 (R.1 + wdD 4)) (by omega) sz4 (extract_size _ _ _ (by omega))
        have ev : nuV 0 4 s R = (getD 0 4 (s.extract R.1 (R.1 + wdD 4))).1 := by unfold nuV; rw [if_pos ⟨hzero.1, hzero.2.1⟩]
        obtain ⟨c, hc⟩ : ∃ c : Nat, c = (nuV 0 4 s R).toNat := ⟨_, rfl⟩
        have hcv : nuV 0 4 s R = (c : Int) := by omega
        rw [← ev, hcv] at V2
        rw [← hc]
        have er : r.2 = 0 := ha.1.trans hzero.1
        by_cases hsh : s.size < (nuR 0 4 s R).1 + c * wdD f.list
        · rw [if_pos hsh]
          obtain ⟨i, q, j, ls, hj, LL⟩ := rz_part 0 f s (by omega) _ (rfV 0 f.fixed s f.fixed.length) (⟨#[]⟩) c (nuR 0 4 s R).1 (by omega) hzl hs' N1le hsh
          unfold finD
          dsimp only
          rw [if_pos (show ¬ (3 : Int) = 0 by decide)]
          exact rg0_0Lerr f s hk hs _ _ _ rfl _ LN _ _ F1 hb hl _ _ _ T3 V2 _ _ _ _ _ hj LL _ _ (no_stay _ _ _ (by decide)) (by decide)
        · rw [if_neg hsh]
          have LL := rz_full 0 f s (by omega) (rfV 0 f.fixed s f.fixed.length).length (rfV 0 f.fixed s f.fixed.length) (⟨#[]⟩) c (nuR 0 4 s R).1 (by omega) hzl hs' hsh
          obtain ⟨r5, F3, ha5⟩ := rno_ok s hs' ((nuR 0 4 s R).1 + c * wdD f.list, 0) ((nuR 0 4 s R).1 + c * wdD f.list, 0) ⟨rfl, fun _ => rfl⟩ (by show _ + _ ≤ _; omega)
          have h5 : (fuR s ((nuR 0 4 s R).1 + c * wdD f.list, 0)).1 ≤ s.size := fuR_le (by show _ + _ ≤ _; omega)
          generalize fuR s ((nuR 0 4 s R).1 + c * wdD f.list, 0) = R5 at *
          have hV := hvs hzero.1
          rw [← hV]
          unfold finD
          dsimp only
          by_cases hE : R5.2 = 0
          · rw [if_neg (fun q => q hE)]
            have er5 : r5.2 = 0 := ha5.1.trans hE
            rw [er5] at F3
            rw [← ha5.2 er5]
            by_cases hp : r5.1 < s.size
            · rw [if_pos hp]
              exact rg0_0Lmore f s hk hs _ _ _ rfl _ LN _ _ F1 hb hl _ _ _ T3 V2 _ _ _ _ _ (liV_len _ _ _ _ _).symm LL _ F3 hp
            · rw [if_neg hp]
              exact rg0_0Lright f s hk hs _ _ _ rfl _ LN _ _ F1 hb hl _ _ _ T3 V2 _ _ _ _ _ (liV_len _ _ _ _ _).symm LL _ F3 hp
          · rw [if_pos hE, ← ha5.1]
            exact rg0_0Lerr f s hk hs _ _ _ rfl _ LN _ _ F1 hb hl _ _ _ T3 V2 _ _ _ _ _ (liV_len _ _ _ _ _).symm LL _ _ F3 (fun q => hE (ha5.1.symm.trans q))
      · rw [if_pos e4]
        have T3 := tk_bad (r := r) hs' (by decide) hR ha e4
        have LL := rz_out 0 f s (rfV 0 f.fixed s f.fixed.length).length (rfV 0 f.fixed s f.fixed.length) (⟨#[]⟩) 0 0 r.1 0 (nuR 0 4 s R).2 e4 []
        have F3 := no_stay s r.1 (nuR 0 4 s R).2 e4
        unfold finD
        dsimp only
        rw [if_pos e4]
        exact rg0_0eerr f s hk hs _ _ _ rfl _ LN _ _ F1 hb hl _ _ _ T3 e4 LL _ _ F3 e4
    | true =>
      have N1le := nuR_le (o := 0) (z := 4) (s := s) (r := R1) hr1
      have v1 := nuV4 0 s R1 (by omega)
      by_cases e2 : (nuR 0 4 s R1).2 = 0
      · have hzero := nuR_zero e2
        have T1 := tk_good (r := r1) hs' ha1 e2
        have V1 := val_ok 0 4 (s.extract R1.1 (R1.1 + wdD 4)) (by omega) sz4 (extract_size _ _ _ (by omega))
        have ev : nuV 0 4 s R1 = (getD 0 4 (s.extract R1.1 (R1.1 + wdD 4))).1 := by unfold nuV; rw [if_pos ⟨hzero.1, hzero.2.1⟩]
        obtain ⟨c, hc⟩ : ∃ c : Nat, c = (nuV 0 4 s R1).toNat := ⟨_, rfl⟩
        have hcv : nuV 0 4 s R1 = (c : Int) := by omega
        rw [← ev, hcv] at V1
        by_cases hsm : s.size < (nuR 0 4 s R1).1 + c
        · have ht : txR 0 f s R1 = (eB, ((nuR 0 4 s R1).1, 3), true) := by
            unfold txR
            rw [if_pos hb, if_neg (fun q => q e2), ← hc, if_pos hsm]
          rw [ht, if_pos rfl]
          have T2 := tk_short s (nuR 0 4 s R1).1 c N1le hs' hsm (by omega)
          have F2 := no_stay s (nuR 0 4 s R1).1 3 (by decide)
          unfold finD
          dsimp only
          rw [if_pos (by decide)]
          by_cases hl : f.list = 0
          · exact rg0_s0err f s hk hs _ _ _ rfl _ LN _ _ F1 hb _ _ _ T1 V1 _ _ _ (by decide) T2 _ _ F2 hl (by decide)
          · exact rg0_seerr f s hk hs _ _ _ rfl _ LN _ _ F1 hb _ _ _ T1 V1 _ _ _ (by decide) T2 _ _ F2 hl _ _ _ (tk_err _ _ _ 4 (by decide)) (by decide) (rz_out 0 f s _ _ _ _ _ _ _ _ (by decide) _) _ _ (no_stay _ _ _ (by decide)) (by decide)
        · have ht : txR 0 f s R1 = (s.extract (nuR 0 4 s R1).1 ((nuR 0 4 s R1).1 + c), fuR s ((nuR 0 4 s R1).1 + c, 0), false) := by
            unfold txR
            rw [if_pos hb, if_neg (fun q => q e2), ← hc, if_neg hsm]
          rw [ht]
          simp only [Bool.false_eq_true, if_false]
          clear ht
          have T2 := tk_take s (nuR 0 4 s R1).1 c hs' hsm
          obtain ⟨r, F2, ha⟩ := rno_ok s hs' ((nuR 0 4 s R1).1 + c, 0) ((nuR 0 4 s R1).1 + c, 0) ⟨rfl, fun _ => rfl⟩ (by show _ + _ ≤ _; omega)
          have hR : (fuR s ((nuR 0 4 s R1).1 + c, 0)).1 ≤ s.size := fuR_le (by show _ + _ ≤ _; omega)
          replace hvs := hvs hzero.1
          clear ev hc hcv v1
          generalize hcc : c = c' at *
          generalize hpp : (nuR 0 4 s R1).1 = p2 at *
          generalize hRR : fuR s (p2 + c', 0) = R at *
          have hvs : R.2 = 0 → rfV 0 f.fixed s f.fixed.length = fxV 0 f.fixed s f.fixed.length := fun _ => hvs
          have N1le := nuR_le (o := 0) (z := 4) (s := s) (r := R) hR
          have v1 := nuV4 0 s R (by omega)
          unfold lsR
          by_cases hl : f.list = 0
          · rw [if_pos hl]
            unfold finD
            dsimp only
            by_cases hE : R.2 = 0
            · rw [if_neg (fun q => q hE)]
              have er : r.2 = 0 := ha.1.trans hE
              rw [er] at F2
              rw [← ha.2 er]
              have hV := hvs hE
              rw [← hV] at *
              by_cases hp : r.1 < s.size
              · rw [if_pos hp]
                exact rg0_10more f s hk hs _ _ _ rfl _ LN _ _ F1 hb _ _ _ T1 V1 _ _ T2 _ F2 hl hp
              · rw [if_neg hp]
                exact rg0_10right f s hk hs _ _ _ rfl _ LN _ _ F1 hb _ _ _ T1 V1 _ _ T2 _ F2 hl hp
            · rw [if_pos hE, ← ha.1]
              exact rg0_10err f s hk hs _ _ _ rfl _ LN _ _ F1 hb _ _ _ T1 V1 _ _ T2 _ _ F2 hl (fun q => hE (ha.1.symm.trans q))
          rw [if_neg hl]
          have hzl : szB f.list = true := hlz.resolve_left hl
          have hwl := wd_le hzl
          by_cases e4 : (nuR 0 4 s R).2 = 0
          · rw [if_neg (fun q => q e4)]
            have hzero := nuR_zero e4
            have T3 := tk_good (r := r) hs' ha e4
            have V2 := val_ok 0 4 (s.extract R.1 (R.1 + wdD 4)) (by omega) sz4 (extract_size _ _ _ (by omega))
            have ev : nuV 0 4 s R = (getD 0 4 (s.extract R.1 (R.1 + wdD 4))).1 := by unfold nuV; rw [if_pos ⟨hzero.1, hzero.2.1⟩]
            obtain ⟨c, hc⟩ : ∃ c : Nat, c = (nuV 0 4 s R).toNat := ⟨_, rfl⟩
            have hcv : nuV 0 4 s R = (c : Int) := by omega
            rw [← ev, hcv] at V2
            rw [← hc]
            have er : r.2 = 0 := ha.1.trans hzero.1
            by_cases hsh : s.size < (nuR 0 4 s R).1 + c * wdD f.list
            · rw [if_pos hsh]
              obtain ⟨i, q, j, ls, hj, LL⟩ := rz_part 0 f s (by omega) _ (rfV 0 f.fixed s f.fixed.length) (s.extract p2 (p2 + c')) c (nuR 0 4 s R).1 (by omega) hzl hs' N1le hsh
              unfold finD
              dsimp only
              rw [if_pos (show ¬ (3 : Int) = 0 by decide)]
              exact rg0_1Lerr f s hk hs _ _ _ rfl _ LN _ _ F1 hb _ _ _ T1 V1 _ _ T2 _ _ F2 hl _ _ _ T3 V2 _ _ _ _ _ hj LL _ _ (no_stay _ _ _ (by decide)) (by decide)
            · rw [if_neg hsh]
              have LL := rz_full 0 f s (by omega) (rfV 0 f.fixed s f.fixed.length).length (rfV 0 f.fixed s f.fixed.length) (s.extract p2 (p2 + c')) c (nuR 0 4 s R).1 (by omega) hzl hs' hsh
              obtain ⟨r5, F3, ha5⟩ := rno_ok s hs' ((nuR 0 4 s R).1 + c * wdD f.list, 0) ((nuR 0 4 s R).1 + c * wdD f.list, 0) ⟨rfl, fun _ => rfl⟩ (by show _ + _ ≤ _; omega)
              have h5 : (fuR s ((nuR 0 4 s R).1 + c * wdD f.list, 0)).1 ≤ s.size := fuR_le (by show _ + _ ≤ _; omega)
              generalize fuR s ((nuR 0 4 s R).1 + c * wdD f.list, 0) = R5 at *
              have hV := hvs hzero.1
              rw [← hV]
              unfold finD
              dsimp only
              by_cases hE : R5.2 = 0
              · rw [if_neg (fun q => q hE)]
                have er5 : r5.2 = 0 := ha5.1.trans hE
                rw [er5] at F3
                rw [← ha5.2 er5]
                by_cases hp : r5.1 < s.size
                · rw [if_pos hp]
                  exact rg0_1Lmore f s hk hs _ _ _ rfl _ LN _ _ F1 hb _ _ _ T1 V1 _ _ T2 _ _ F2 hl _ _ _ T3 V2 _ _ _ _ _ (liV_len _ _ _ _ _).symm LL _ F3 hp
                · rw [if_neg hp]
                  exact rg0_1Lright f s hk hs _ _ _ rfl _ LN _ _ F1 hb _ _ _ T1 V1 _ _ T2 _ _ F2 hl _ _ _ T3 V2 _ _ _ _ _ (liV_len _ _ _ _ _).symm LL _ F3 hp
              · rw [if_pos hE, ← ha5.1]
                exact rg0_1Lerr f s hk hs _ _ _ rfl _ LN _ _ F1 hb _ _ _ T1 V1 _ _ T2 _ _ F2 hl _ _ _ T3 V2 _ _ _ _ _ (liV_len _ _ _ _ _).symm LL _ _ F3 (fun q => hE (ha5.1.symm.trans q))
          · rw [if_pos e4]
            have T3 := tk_bad (r := r) hs' (by decide) hR ha e4
            have LL := rz_out 0 f s (rfV 0 f.fixed s f.fixed.length).length (rfV 0 f.fixed s f.fixed.length) (s.extract p2 (p2 + c')) 0 0 r.1 0 (nuR 0 4 s R).2 e4 []
            have F3 := no_stay s r.1 (nuR 0 4 s R).2 e4
            unfold finD
            dsimp only
            rw [if_pos e4]
            exact rg0_1eerr f s hk hs _ _ _ rfl _ LN _ _ F1 hb _ _ _ T1 V1 _ _ T2 _ _ F2 hl _ _ _ T3 e4 LL _ _ F3 e4
      · have ht : txR 0 f s R1 = (eB, nuR 0 4 s R1, true) := by
          unfold txR
          rw [if_pos hb, if_pos e2]
        rw [ht, if_pos rfl]
        have T1 := tk_bad (r := r1) hs' (by decide) hr1 ha1 e2
        have F2 := no_stay s r1.1 (nuR 0 4 s R1).2 e2
        unfold finD
        dsimp only
        rw [if_pos e2]
        by_cases hl : f.list = 0
        · exact rg0_e0err f s hk hs _ _ _ rfl _ LN _ _ F1 hb _ _ _ T1 e2 _ _ F2 hl e2
        · exact rg0_eeerr f s hk hs _ _ _ rfl _ LN _ _ F1 hb _ _ _ T1 e2 _ _ F2 hl _ _ _ (tk_err _ _ _ 4 e2) e2 (rz_out 0 f s _ _ _ _ _ _ _ _ e2 _) _ _ (no_stay _ _ _ e2) e2
  · rw [if_pos k0]
    rw [ek] at k0 ⊢
    exact rget_kno0 f s _ k0 hk
theorem rget_1 (f : Fm) (s : ByteArray) : Pu 19 [i64 1, fmA f, st s] (getFR (getF 1 f s)) := by
  have hk := rc_ok f
  unfold getF
  have ek : knoD 1 f = checkD f := by unfold knoD; rw [if_pos (by omega)]
  by_cases k0 : knoD 1 f = 0
  · rw [if_neg (fun q => q k0)]
    obtain ⟨ho, h16, hz, hlz⟩ := kno_zero k0
    rw [← ek, k0] at hk
    by_cases hs : s.size > 65536
    · rw [if_pos hs]; exact rget_long1 f s hs hk
    rw [if_neg hs]
    have hs' : s.size ≤ 65536 := by omega
    have LN := rfx_loop 1 f s ho h16 hz hs'
    have hx := fxR_le 1 f.fixed s f.fixed.length
    obtain ⟨r1, F1, ha1⟩ := rno_ok s hs' (fxR 1 f.fixed s f.fixed.length) (fxR 1 f.fixed s f.fixed.length) ⟨rfl, fun _ => rfl⟩ hx
    have hr1 : (r1D 1 f s).1 ≤ s.size := fuR_le hx
    have hvs : (r1D 1 f s).2 = 0 → rfV 1 f.fixed s f.fixed.length = fxV 1 f.fixed s f.fixed.length := fun h => rfV_eq _ _ _ _ (by
      unfold r1D fuR at h
      by_cases q : (fxR 1 f.fixed s f.fixed.length).2 = 0
      · exact q
      · rw [if_neg q] at h; exact h)
    change alike r1 (r1D 1 f s) at ha1
    unfold bodD
    generalize fxR 1 f.fixed s f.fixed.length = r0 at *
    generalize r1D 1 f s = R1 at *
    cases hb : f.bytes with
    | false =>
      have ht : txR 1 f s R1 = (eB, R1, false) := by unfold txR; rw [hb]; rfl
      rw [ht]
      simp only [Bool.false_eq_true, if_false]
      clear ht
      generalize hRR : R1 = R at *
      generalize hrr : r1 = r at *
      have ha := ha1
      have hR := hr1
      have N1le := nuR_le (o := 1) (z := 4) (s := s) (r := R) hR
      have v1 := nuV4 1 s R (by omega)
      unfold lsR
      by_cases hl : f.list = 0
      · rw [if_pos hl]
        unfold finD
        dsimp only
        by_cases hE : R.2 = 0
        · rw [if_neg (fun q => q hE)]
          have er : r.2 = 0 := ha.1.trans hE
          rw [er] at F1
          rw [← ha.2 er]
          have hV := hvs hE
          rw [← hV] at *
          by_cases hp : r.1 < s.size
          · rw [if_pos hp]
            exact rg1_00more f s hk hs _ _ _ rfl _ LN _ F1 hb hl hp
          · rw [if_neg hp]
            exact rg1_00right f s hk hs _ _ _ rfl _ LN _ F1 hb hl hp
        · rw [if_pos hE, ← ha.1]
          exact rg1_00err f s hk hs _ _ _ rfl _ LN _ _ F1 hb hl (fun q => hE (ha.1.symm.trans q))
      rw [if_neg hl]
      have hzl : szB f.list = true := hlz.resolve_left hl
      have hwl := wd_le hzl
      by_cases e4 : (nuR 1 4 s R).2 = 0
      · rw [if_neg (fun q => q e4)]
        have hzero := nuR_zero e4
        have T3 := tk_good (r := r) hs' ha e4
        have V2 := val_ok 1 4 (s.extract R.1 (R.1 + wdD 4)) (by omega) sz4 (extract_size _ _ _ (by omega))
        have ev : nuV 1 4 s R = (getD 1 4 (s.extract R.1 (R.1 + wdD 4))).1 := by unfold nuV; rw [if_pos ⟨hzero.1, hzero.2.1⟩]
        obtain ⟨c, hc⟩ : ∃ c : Nat, c = (nuV 1 4 s R).toNat := ⟨_, rfl⟩
        have hcv : nuV 1 4 s R = (c : Int) := by omega
        rw [← ev, hcv] at V2
        rw [← hc]
        have er : r.2 = 0 := ha.1.trans hzero.1
        by_cases hsh : s.size < (nuR 1 4 s R).1 + c * wdD f.list
        · rw [if_pos hsh]
          obtain ⟨i, q, j, ls, hj, LL⟩ := rz_part 1 f s (by omega) _ (rfV 1 f.fixed s f.fixed.length) (⟨#[]⟩) c (nuR 1 4 s R).1 (by omega) hzl hs' N1le hsh
          unfold finD
          dsimp only
          rw [if_pos (show ¬ (3 : Int) = 0 by decide)]
          exact rg1_0Lerr f s hk hs _ _ _ rfl _ LN _ _ F1 hb hl _ _ _ T3 V2 _ _ _ _ _ hj LL _ _ (no_stay _ _ _ (by decide)) (by decide)
        · rw [if_neg hsh]
          have LL := rz_full 1 f s (by omega) (rfV 1 f.fixed s f.fixed.length).length (rfV 1 f.fixed s f.fixed.length) (⟨#[]⟩) c (nuR 1 4 s R).1 (by omega) hzl hs' hsh
          obtain ⟨r5, F3, ha5⟩ := rno_ok s hs' ((nuR 1 4 s R).1 + c * wdD f.list, 0) ((nuR 1 4 s R).1 + c * wdD f.list, 0) ⟨rfl, fun _ => rfl⟩ (by show _ + _ ≤ _; omega)
          have h5 : (fuR s ((nuR 1 4 s R).1 + c * wdD f.list, 0)).1 ≤ s.size := fuR_le (by show _ + _ ≤ _; omega)
          generalize fuR s ((nuR 1 4 s R).1 + c * wdD f.list, 0) = R5 at *
          have hV := hvs hzero.1
          rw [← hV]
          unfold finD
          dsimp only
          by_cases hE : R5.2 = 0
          · rw [if_neg (fun q => q hE)]
            have er5 : r5.2 = 0 := ha5.1.trans hE
            rw [er5] at F3
            rw [← ha5.2 er5]
            by_cases hp : r5.1 < s.size
            · rw [if_pos hp]
              exact rg1_0Lmore f s hk hs _ _ _ rfl _ LN _ _ F1 hb hl _ _ _ T3 V2 _ _ _ _ _ (liV_len _ _ _ _ _).symm LL _ F3 hp
            · rw [if_neg hp]
              exact rg1_0Lright f s hk hs _ _ _ rfl _ LN _ _ F1 hb hl _ _ _ T3 V2 _ _ _ _ _ (liV_len _ _ _ _ _).symm LL _ F3 hp
          · rw [if_pos hE, ← ha5.1]
            exact rg1_0Lerr f s hk hs _ _ _ rfl _ LN _ _ F1 hb hl _ _ _ T3 V2 _ _ _ _ _ (liV_len _ _ _ _ _).symm LL _ _ F3 (fun q => hE (ha5.1.symm.trans q))
      · rw [if_pos e4]
        have T3 := tk_bad (r := r) hs' (by decide) hR ha e4
        have LL := rz_out 1 f s (rfV 1 f.fixed s f.fixed.length).length (rfV 1 f.fixed s f.fixed.length) (⟨#[]⟩) 0 0 r.1 0 (nuR 1 4 s R).2 e4 []
        have F3 := no_stay s r.1 (nuR 1 4 s R).2 e4
        unfold finD
        dsimp only
        rw [if_pos e4]
        exact rg1_0eerr f s hk hs _ _ _ rfl _ LN _ _ F1 hb hl _ _ _ T3 e4 LL _ _ F3 e4
    | true =>
      have N1le := nuR_le (o := 1) (z := 4) (s := s) (r := R1) hr1
      have v1 := nuV4 1 s R1 (by omega)
      by_cases e2 : (nuR 1 4 s R1).2 = 0
      · have hzero := nuR_zero e2
        have T1 := tk_good (r := r1) hs' ha1 e2
        have V1 := val_ok 1 4 (s.extract R1.1 (R1.1 + wdD 4)) (by omega) sz4 (extract_size _ _ _ (by omega))
        have ev : nuV 1 4 s R1 = (getD 1 4 (s.extract R1.1 (R1.1 + wdD 4))).1 := by unfold nuV; rw [if_pos ⟨hzero.1, hzero.2.1⟩]
        obtain ⟨c, hc⟩ : ∃ c : Nat, c = (nuV 1 4 s R1).toNat := ⟨_, rfl⟩
        have hcv : nuV 1 4 s R1 = (c : Int) := by omega
        rw [← ev, hcv] at V1
        by_cases hsm : s.size < (nuR 1 4 s R1).1 + c
        · have ht : txR 1 f s R1 = (eB, ((nuR 1 4 s R1).1, 3), true) := by
            unfold txR
            rw [if_pos hb, if_neg (fun q => q e2), ← hc, if_pos hsm]
          rw [ht, if_pos rfl]
          have T2 := tk_short s (nuR 1 4 s R1).1 c N1le hs' hsm (by omega)
          have F2 := no_stay s (nuR 1 4 s R1).1 3 (by decide)
          unfold finD
          dsimp only
          rw [if_pos (by decide)]
          by_cases hl : f.list = 0
          · exact rg1_s0err f s hk hs _ _ _ rfl _ LN _ _ F1 hb _ _ _ T1 V1 _ _ _ (by decide) T2 _ _ F2 hl (by decide)
          · exact rg1_seerr f s hk hs _ _ _ rfl _ LN _ _ F1 hb _ _ _ T1 V1 _ _ _ (by decide) T2 _ _ F2 hl _ _ _ (tk_err _ _ _ 4 (by decide)) (by decide) (rz_out 1 f s _ _ _ _ _ _ _ _ (by decide) _) _ _ (no_stay _ _ _ (by decide)) (by decide)
        · have ht : txR 1 f s R1 = (s.extract (nuR 1 4 s R1).1 ((nuR 1 4 s R1).1 + c), fuR s ((nuR 1 4 s R1).1 + c, 0), false) := by
            unfold txR
            rw [if_pos hb, if_neg (fun q => q e2), ← hc, if_neg hsm]
          rw [ht]
          simp only [Bool.false_eq_true, if_false]
          clear ht
          have T2 := tk_take s (nuR 1 4 s R1).1 c hs' hsm
          obtain ⟨r, F2, ha⟩ := rno_ok s hs' ((nuR 1 4 s R1).1 + c, 0) ((nuR 1 4 s R1).1 + c, 0) ⟨rfl, fun _ => rfl⟩ (by show _ + _ ≤ _; omega)
          have hR : (fuR s ((nuR 1 4 s R1).1 + c, 0)).1 ≤ s.size := fuR_le (by show _ + _ ≤ _; omega)
          replace hvs := hvs hzero.1
          clear ev hc hcv v1
          generalize hcc : c = c' at *
          generalize hpp : (nuR 1 4 s R1).1 = p2 at *
          generalize hRR : fuR s (p2 + c', 0) = R at *
          have hvs : R.2 = 0 → rfV 1 f.fixed s f.fixed.length = fxV 1 f.fixed s f.fixed.length := fun _ => hvs
          have N1le := nuR_le (o := 1) (z := 4) (s := s) (r := R) hR
          have v1 := nuV4 1 s R (by omega)
          unfold lsR
          by_cases hl : f.list = 0
          · rw [if_pos hl]
            unfold finD
            dsimp only
            by_cases hE : R.2 = 0
            · rw [if_neg (fun q => q hE)]
              have er : r.2 = 0 := ha.1.trans hE
              rw [er] at F2
              rw [← ha.2 er]
              have hV := hvs hE
              rw [← hV] at *
              by_cases hp : r.1 < s.size
              · rw [if_pos hp]
                exact rg1_10more f s hk hs _ _ _ rfl _ LN _ _ F1 hb _ _ _ T1 V1 _ _ T2 _ F2 hl hp
              · rw [if_neg hp]
                exact rg1_10right f s hk hs _ _ _ rfl _ LN _ _ F1 hb _ _ _ T1 V1 _ _ T2 _ F2 hl hp
            · rw [if_pos hE, ← ha.1]
              exact rg1_10err f s hk hs _ _ _ rfl _ LN _ _ F1 hb _ _ _ T1 V1 _ _ T2 _ _ F2 hl (fun q => hE (ha.1.symm.trans q))
          rw [if_neg hl]
          have hzl : szB f.list = true := hlz.resolve_left hl
          have hwl := wd_le hzl
          by_cases e4 : (nuR 1 4 s R).2 = 0
          · rw [if_neg (fun q => q e4)]
            have hzero := nuR_zero e4
            have T3 := tk_good (r := r) hs' ha e4
            have V2 := val_ok 1 4 (s.extract R.1 (R.1 + wdD 4)) (by omega) sz4 (extract_size _ _ _ (by omega))
            have ev : nuV 1 4 s R = (getD 1 4 (s.extract R.1 (R.1 + wdD 4))).1 := by unfold nuV; rw [if_pos ⟨hzero.1, hzero.2.1⟩]
            obtain ⟨c, hc⟩ : ∃ c : Nat, c = (nuV 1 4 s R).toNat := ⟨_, rfl⟩
            have hcv : nuV 1 4 s R = (c : Int) := by omega
            rw [← ev, hcv] at V2
            rw [← hc]
            have er : r.2 = 0 := ha.1.trans hzero.1
            by_cases hsh : s.size < (nuR 1 4 s R).1 + c * wdD f.list
            · rw [if_pos hsh]
              obtain ⟨i, q, j, ls, hj, LL⟩ := rz_part 1 f s (by omega) _ (rfV 1 f.fixed s f.fixed.length) (s.extract p2 (p2 + c')) c (nuR 1 4 s R).1 (by omega) hzl hs' N1le hsh
              unfold finD
              dsimp only
              rw [if_pos (show ¬ (3 : Int) = 0 by decide)]
              exact rg1_1Lerr f s hk hs _ _ _ rfl _ LN _ _ F1 hb _ _ _ T1 V1 _ _ T2 _ _ F2 hl _ _ _ T3 V2 _ _ _ _ _ hj LL _ _ (no_stay _ _ _ (by decide)) (by decide)
            · rw [if_neg hsh]
              have LL := rz_full 1 f s (by omega) (rfV 1 f.fixed s f.fixed.length).length (rfV 1 f.fixed s f.fixed.length) (s.extract p2 (p2 + c')) c (nuR 1 4 s R).1 (by omega) hzl hs' hsh
              obtain ⟨r5, F3, ha5⟩ := rno_ok s hs' ((nuR 1 4 s R).1 + c * wdD f.list, 0) ((nuR 1 4 s R).1 + c * wdD f.list, 0) ⟨rfl, fun _ => rfl⟩ (by show _ + _ ≤ _; omega)
              have h5 : (fuR s ((nuR 1 4 s R).1 + c * wdD f.list, 0)).1 ≤ s.size := fuR_le (by show _ + _ ≤ _; omega)
              generalize fuR s ((nuR 1 4 s R).1 + c * wdD f.list, 0) = R5 at *
              have hV := hvs hzero.1
              rw [← hV]
              unfold finD
              dsimp only
              by_cases hE : R5.2 = 0
              · rw [if_neg (fun q => q hE)]
                have er5 : r5.2 = 0 := ha5.1.trans hE
                rw [er5] at F3
                rw [← ha5.2 er5]
                by_cases hp : r5.1 < s.size
                · rw [if_pos hp]
                  exact rg1_1Lmore f s hk hs _ _ _ rfl _ LN _ _ F1 hb _ _ _ T1 V1 _ _ T2 _ _ F2 hl _ _ _ T3 V2 _ _ _ _ _ (liV_len _ _ _ _ _).symm LL _ F3 hp
                · rw [if_neg hp]
                  exact rg1_1Lright f s hk hs _ _ _ rfl _ LN _ _ F1 hb _ _ _ T1 V1 _ _ T2 _ _ F2 hl _ _ _ T3 V2 _ _ _ _ _ (liV_len _ _ _ _ _).symm LL _ F3 hp
              · rw [if_pos hE, ← ha5.1]
                exact rg1_1Lerr f s hk hs _ _ _ rfl _ LN _ _ F1 hb _ _ _ T1 V1 _ _ T2 _ _ F2 hl _ _ _ T3 V2 _ _ _ _ _ (liV_len _ _ _ _ _).symm LL _ _ F3 (fun q => hE (ha5.1.symm.trans q))
          · rw [if_pos e4]
            have T3 := tk_bad (r := r) hs' (by decide) hR ha e4
            have LL := rz_out 1 f s (rfV 1 f.fixed s f.fixed.length).length (rfV 1 f.fixed s f.fixed.length) (s.extract p2 (p2 + c')) 0 0 r.1 0 (nuR 1 4 s R).2 e4 []
            have F3 := no_stay s r.1 (nuR 1 4 s R).2 e4
            unfold finD
            dsimp only
            rw [if_pos e4]
            exact rg1_1eerr f s hk hs _ _ _ rfl _ LN _ _ F1 hb _ _ _ T1 V1 _ _ T2 _ _ F2 hl _ _ _ T3 e4 LL _ _ F3 e4
      · have ht : txR 1 f s R1 = (eB, nuR 1 4 s R1, true) := by
          unfold txR
          rw [if_pos hb, if_pos e2]
        rw [ht, if_pos rfl]
        have T1 := tk_bad (r := r1) hs' (by decide) hr1 ha1 e2
        have F2 := no_stay s r1.1 (nuR 1 4 s R1).2 e2
        unfold finD
        dsimp only
        rw [if_pos e2]
        by_cases hl : f.list = 0
        · exact rg1_e0err f s hk hs _ _ _ rfl _ LN _ _ F1 hb _ _ _ T1 e2 _ _ F2 hl e2
        · exact rg1_eeerr f s hk hs _ _ _ rfl _ LN _ _ F1 hb _ _ _ T1 e2 _ _ F2 hl _ _ _ (tk_err _ _ _ 4 e2) e2 (rz_out 1 f s _ _ _ _ _ _ _ _ e2 _) _ _ (no_stay _ _ _ e2) e2
  · rw [if_pos k0]
    rw [ek] at k0 ⊢
    exact rget_kno1 f s _ k0 hk
theorem rget_ok (o : Int) (f : Fm) (s : ByteArray) : Pu 19 [i64 o, fmA f, st s] (getFR (getF o f s)) := by
  by_cases h0 : o = 0
  · subst h0; exact rget_0 f s
  by_cases h1 : o = 1
  · subst h1; exact rget_1 f s
  · have e : knoD o f = 10 := by unfold knoD; rw [if_neg (by omega)]
    unfold getF
    rw [e, if_pos (by decide)]
    exact rget_odd o f s h0 h1
end Go.Proofs.YtjgjcpbkmeillaaDoor
