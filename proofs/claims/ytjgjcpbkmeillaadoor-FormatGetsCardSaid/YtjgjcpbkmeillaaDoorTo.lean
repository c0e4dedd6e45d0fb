/- The laws of Put and Get. By the prover of this seat. -/
import Derived.Test.YtjgjcpbkmeillaaDoorTn
set_option linter.unusedVariables false
set_option linter.unusedSimpArgs false
set_option maxRecDepth 100000
set_option maxHeartbeats 4000000
namespace Go.Proofs.YtjgjcpbkmeillaaDoor
open Go.RowKit Go.Pm
theorem same_self (x : Fl) (h1 : x.N.length ≤ 1000000) (h2 : x.L.length ≤ 1000000) : Pu 21 [flA x, flA x] (bl true) := by
  have := same_ok x x h1 h2
  unfold sameD at this
  simp only [decide_true, Bool.and_self] at this
  exact this
theorem rsame_self (x : Fl) (h1 : x.N.length ≤ 1000000) (h2 : x.L.length ≤ 1000000) : Pu 20 [flA x, flA x] (bl true) := by
  have := rsame_ok x x h1 h2
  unfold sameD at this
  simp only [decide_true, Bool.and_self] at this
  exact this
theorem same_nil : Pu 21 [flA ⟨[], ⟨#[]⟩, []⟩, flA ⟨[], ⟨#[]⟩, []⟩] (bl true) := same_self ⟨[], ⟨#[]⟩, []⟩ (Nat.zero_le _) (Nat.zero_le _)
theorem get_light (o : Int) (f : Fm) (s : ByteArray) : (getF o f s).1.N.length ≤ 1000000 ∧ (getF o f s).1.L.length ≤ 1000000 := by
  by_cases h : (getF o f s).2 = 0
  · have := put_of_get h
    omega
  · rw [get_nil h]
    exact ⟨Nat.zero_le _, Nat.zero_le _⟩
theorem put2 (z v : Int) : (putD 0 z v).2 = (putD 1 z v).2 := by
  unfold putD
  rw [if_neg (by omega), if_neg (by omega)]
  cases knownD z with
  | none => rfl
  | some s => dsimp only; split <;> rfl
theorem fits2 (f : Fm) (x : Fl) : fitsD 0 f x = fitsD 1 f x := by
  have e1 : errN 0 f x = errN 1 f x := by funext i; unfold errN; rw [put2]
  have e2 : errL 0 f.list = errL 1 f.list := by funext v; unfold errL; rw [put2]
  unfold fitsD
  rw [e1, e2]
  simp only [put2]
theorem kno2 (f : Fm) : knoD 0 f = knoD 1 f := by unfold knoD; rw [if_pos (by omega), if_pos (by omega)]
def fS (n : Nat) : Nat := n + padN n
theorem fillB_fS (b : ByteArray) : (fillB b).size = fS b.size := by unfold fillB fS; rw [padB_size]
theorem enc_size {o : Int} {f : Fm} {x : Fl} (ho : o = 0 ∨ o = 1) (F : Fit o f x) : (encD o f x).size = fS (sumW f.fixed f.fixed.length) + (if f.bytes = true then fS (4 + x.B.size) else 0) + (if f.list = 0 then 0 else fS (4 + x.L.length * wdD f.list)) := by
  rw [enc_eq, ByteArray.size_append, ByteArray.size_append, fillB_fS, catP_sum F x.N.length (Nat.le_refl _), F.len]
  unfold tB lB
  congr 1
  · congr 1
    split
    · rw [fillB_fS, ByteArray.size_append, (num4_ok o x.B.size ho F.big).1]
    · rfl
  · split
    · rfl
    · rw [fillB_fS, ByteArray.size_append, (num4_ok o x.L.length ho F.lng).1, catL_sum F x.L.length (Nat.le_refl _)]
theorem fit2 {f : Fm} {x : Fl} (F : Fit 0 f x) : Fit 1 f x := ⟨F.len, fun k hk => by rw [← put2]; exact F.num k hk, F.byt, F.big, F.lst, F.lng, fun k hk => by rw [← put2]; exact F.row k hk⟩
theorem fS_le (n : Nat) : n ≤ fS n ∧ fS n % 4 = 0 := by unfold fS padN; omega
theorem fS4 (n : Nat) : 4 ≤ fS (4 + n) := by unfold fS; omega
theorem least_le {f : Fm} {x : Fl} (hk : knoD 0 f = 0) (F : Fit 0 f x) : leastD f ≤ (encD 0 f x).size ∧ ((encD 0 f x).size % 4 = 0) ∧ (x.B.size = 0 → x.L.length = 0 → (encD 0 f x).size = leastD f) := by
  have hc : checkD f = 0 := by unfold knoD at hk; rw [if_pos (by omega)] at hk; exact hk
  rw [enc_size (.inl rfl) F]
  unfold leastD
  rw [if_pos hc]
  have a := fS_le (sumW f.fixed f.fixed.length)
  have b := fS_le (4 + x.B.size)
  have c := fS_le (4 + x.L.length * wdD f.list)
  have b4 := fS4 x.B.size
  have c4 := fS4 (x.L.length * wdD f.list)
  have e0 : sumW f.fixed f.fixed.length + padN (sumW f.fixed f.fixed.length) = fS (sumW f.fixed f.fixed.length) := rfl
  rw [e0]
  refine ⟨?_, ?_, fun h1 h2 => ?_⟩
  · split <;> split <;> omega
  · split <;> split <;> omega
  · have e4 : fS 4 = 4 := by decide
    rw [h1, h2, Nat.zero_mul, Nat.add_zero, e4]
theorem ords_ok (f : Fm) (x : Fl) : Pu 5 [fmA f, flA x] (bl true) := by
  rcases light_or x with hd | ⟨hd, h1, h2, h3⟩
  · exact ords_dark f x hd
  by_cases hl : f.fixed.length > 30
  · exact ords_long f x hd hl
  have P := pput_ok 0 f x
  have R := pput_ok 1 f x
  by_cases e : (putF 0 f x).2 = 0
  · obtain ⟨k0, F, hs, hp⟩ := put_right e
    have k1 : knoD 1 f = 0 := by rw [← kno2]; exact k0
    have f1 : fitsD 1 f x = 0 := fits_of (fit2 F)
    have hsz : (encD 1 f x).size = (encD 0 f x).size := by rw [enc_size (.inl rfl) F, enc_size (.inr rfl) (fit2 F)]
    have hq : putF 1 f x = (encD 1 f x, 0) := by
      unfold putF
      rw [if_neg (fun q => q k1), if_neg (fun q => q f1), if_neg (by omega)]
    have hp0 : putF 0 f x = (encD 0 f x, 0) := Prod.ext hp e
    rw [hp0] at P
    rw [hq] at R
    obtain ⟨l1, l2, l3⟩ := least_le k0 F
    have E := least_ok f
    by_cases hB : x.B = ⟨#[]⟩
    · by_cases hL : 0 < x.L.length
      · exact ords_l f x hd hl _ _ _ _ rfl hsz l2 P R E l1 hs hB hL
      · exact ords_0 f x hd hl _ _ _ _ rfl hsz l2 P R E l1 hs hB hL (l3 (by rw [hB]; rfl) (by omega))
    · exact ords_b f x hd hl _ _ _ _ rfl hsz l2 P R E l1 hs hB
  · have e1 : (putF 1 f x).2 = (putF 0 f x).2 := by
      unfold putF
      rw [← kno2, ← fits2]
      by_cases k0 : knoD 0 f = 0
      · by_cases f0 : fitsD 0 f x = 0
        · have F := fits_zero f0
          have hsz : (encD 1 f x).size = (encD 0 f x).size := by rw [enc_size (.inl rfl) F, enc_size (.inr rfl) (fit2 F)]
          simp only [k0, f0, hsz, not_true_eq_false, if_false]
          split <;> rfl
        · simp only [k0, f0, not_true_eq_false, not_false_eq_true, if_true, if_false]
      · simp only [k0, not_true_eq_false, not_false_eq_true, if_true, if_false]
    have n0 := put_nil e
    have n1 := put_nil (o := 1) (f := f) (x := x) (by rw [e1]; exact e)
    unfold putR at P R
    rw [n0] at P
    rw [n1, e1] at R
    exact ords_err f x hd hl _ e P R
theorem back_ok (o : Int) (f : Fm) (x : Fl) (s : ByteArray) : Pu 6 [i64 o, fmA f, flA x, st s] (bl true) := by
  rcases light_or x with hd | ⟨hd, h1, h2, h3⟩
  · exact back_dark o f x s hd
  by_cases hl : f.fixed.length > 30
  · exact back_long o f x s hd hl
  by_cases hs : s.size > 5000
  · exact back_big o f x s hd hl hs
  have P := pput_ok o f x
  have G2 := pget_ok o f s
  have one : ∀ (goal : Prop), ((putF o f x).2 = 0 → Pu 11 [i64 o, fmA f, flA x] (.tup [st (encD o f x), i64 0]) → Pu 18 [i64 o, fmA f, st (encD o f x)] (.tup [flA x, i64 0]) → Pu 21 [flA x, flA x] (bl true) → goal) → (¬ (putF o f x).2 = 0 → Pu 11 [i64 o, fmA f, flA x] (.tup [st ⟨#[]⟩, i64 (putF o f x).2]) → goal) → goal := by
    intro goal a b
    by_cases e : (putF o f x).2 = 0
    · obtain ⟨k0, F, hz, hp⟩ := put_right e
      have hp0 : putF o f x = (encD o f x, 0) := Prod.ext hp e
      have hg := (get_trk k0 F hz (ag_self _)).2.1 rfl
      have G := pget_ok o f (encD o f x)
      rw [hg] at G
      rw [hp0] at P
      exact a e P G (same_self x (by omega) (by omega))
    · unfold putR at P
      rw [put_nil e] at P
      exact b e P
  by_cases g : (getF o f s).2 = 0
  · have hp := (put_of_get g).1
    have P2 := pput_ok o f (getF o f s).1
    rw [hp] at P2
    unfold getFR at G2
    rw [g] at G2
    exact one _ (fun e P G S => back_pp o f x s hd hl hs _ P G S _ G2 P2) (fun e P => back_np o f x s hd hl hs _ e P _ G2 P2)
  · unfold getFR at G2
    rw [get_nil g] at G2
    exact one _ (fun e P G S => back_pn o f x s hd hl hs _ P G S _ g G2 same_nil) (fun e P => back_nn o f x s hd hl hs _ e P _ g G2 same_nil)
theorem cuts_ok (o : Int) (f : Fm) (x : Fl) (k c : Int) (hk0 : 0 ≤ k) (hk1 : k < 65536) (hc0 : 0 ≤ c) (hc1 : c < 256) : Pu 7 [i64 o, fmA f, flA x, .s (.int .u16 k), u8 c] (bl true) := by
  rcases light_or x with hd | ⟨hd, h1, h2, h3⟩
  · exact cuts_dark o f x k c hk0 hk1 hc0 hc1 hd
  by_cases hl : f.fixed.length > 30
  · exact cuts_long o f x k c hk0 hk1 hc0 hc1 hd hl
  have P := pput_ok o f x
  by_cases e : (putF o f x).2 = 0
  · obtain ⟨k0, F, hz, hp⟩ := put_right e
    have hp0 : putF o f x = (encD o f x, 0) := Prod.ext hp e
    rw [hp0] at P
    by_cases hb : (encD o f x).size > 60000
    · exact cuts_big o f x k c hk0 hk1 hc0 hc1 hd hl _ hb P
    have hm : (encD o f x ++ strA [u8 c]).size = (encD o f x).size + 1 := by rw [ByteArray.size_append, strA_size]; rfl
    have hg := (get_trk (s := encD o f x ++ strA [u8 c]) k0 F (by omega) (ag_more _ _)).2.2 (by omega)
    have G := pget_ok o f (encD o f x ++ strA [u8 c])
    rw [hg] at G
    by_cases h0 : encD o f x = ⟨#[]⟩
    · exact cuts_nil o f x k c hk0 hk1 hc0 hc1 hd hl _ hb P _ G h0
    · have hpos : 0 < (encD o f x).size := by
        rcases Nat.eq_zero_or_pos (encD o f x).size with h | h
        · exact absurd (ba_nil h) h0
        · exact h
      have q0 := Int.emod_nonneg k (show ((encD o f x).size : Int) ≠ 0 by omega)
      have q1 := Int.emod_lt_of_pos k (show (0 : Int) < ((encD o f x).size : Int) by omega)
      have hcut : (encD o f x).extract 0 (k % ((encD o f x).size : Int)).toNat = (encD o f x).extract 0 (k % ((encD o f x).size : Int)).toNat := rfl
      have hle : (k % ((encD o f x).size : Int)).toNat < (encD o f x).size := by omega
      have hsz := ext_size (encD o f x) 0 _ (Nat.le_of_lt hle)
      have hg2 := (get_trk (s := (encD o f x).extract 0 (k % ((encD o f x).size : Int)).toNat) k0 F (by omega) (ag_cut _ _ (Nat.le_of_lt hle))).1 (by omega)
      have G2 := pget_ok o f ((encD o f x).extract 0 (k % ((encD o f x).size : Int)).toNat)
      rw [hg2] at G2
      exact cuts_main o f x k c hk0 hk1 hc0 hc1 hd hl _ hb P _ G h0 hpos G2 same_nil
  · exact cuts_err o f x k c hk0 hk1 hc0 hc1 hd hl _ _ e P
theorem sames_ok (x y : Fl) : Pu 8 [flA x, flA y] (bl true) := by
  rcases light_or x with hd | ⟨hd, h1, h2, h3⟩
  · exact same_darkx x y hd
  rcases light_or y with hy | ⟨hy, g1, g2, g3⟩
  · exact same_darky x y hd hy
  have e : sameD y x = sameD x y := by
    unfold sameD
    congr 1
    · congr 1
      · exact decide_eq_decide.2 eq_comm
      · exact decide_eq_decide.2 eq_comm
    · exact decide_eq_decide.2 eq_comm
  have S4 := same_ok y x (by omega) (by omega)
  rw [e] at S4
  exact same_main x y hd hy _ (same_ok x y (by omega) (by omega)) (rsame_ok x y (by omega) (by omega)) (same_self x (by omega) (by omega)) S4
end Go.Proofs.YtjgjcpbkmeillaaDoor
