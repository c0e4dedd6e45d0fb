/- Get, by the program: what it is. By the prover of this seat. -/
import Derived.Test.YtcnlgdbmcdlknaaDoorHc
set_option linter.unusedVariables false
set_option linter.unusedSimpArgs false
set_option maxRecDepth 100000
set_option maxHeartbeats 4000000
namespace Go.Proofs.YtcnlgdbmcdlknaaDoor.Fo
open Go.RowKit Go.Pm
theorem ext_one (s : ByteArray) (p : Nat) (h : p < s.size) : (s.extract p (p + 1) = ⟨#[0]⟩) ↔ byteAt s p = 0 := by
  have hsz : (s.extract p (p + 1)).size = 1 := extract_size s p 1 (by omega)
  have hb : byteAt (s.extract p (p + 1)) 0 = byteAt s p := by
    have e : (s.extract p (p + 1)).data = s.data.extract p (p + 1) := ByteArray.data_extract
    unfold byteAt
    rw [e, Array.toList_extract]
    simp only [List.getD_eq_getElem?_getD]
    have hl : p < s.data.toList.length := by rw [Array.length_toList]; exact h
    rw [List.extract_eq_take_drop, List.getElem?_take, List.getElem?_drop]
    simp
  constructor
  · intro e
    rw [← hb, e]
    rfl
  · intro e
    refine ba_ext (by rw [hsz]; rfl) fun i hi => ?_
    rw [hsz] at hi
    obtain rfl : i = 0 := by omega
    rw [hb, e]
    rfl
def nilF : Fl := ⟨[], eB, []⟩
def getFR (r : Fl × Int) : AV := .tup [flA r.1, i64 r.2]
/-- the text; whether it ends there -/
def txR (o : Int) (f : Fm) (s : ByteArray) (r : Nat × Int) : ByteArray × (Nat × Int) × Bool :=
  if f.bytes = true then
    if ¬ (nuR o 4 s r).2 = 0 then (eB, nuR o 4 s r, true)
    else if s.size < (nuR o 4 s r).1 + (nuV o 4 s r).toNat then (eB, ((nuR o 4 s r).1, 3), true)
    else (s.extract (nuR o 4 s r).1 ((nuR o 4 s r).1 + (nuV o 4 s r).toNat), fuR s ((nuR o 4 s r).1 + (nuV o 4 s r).toNat, 0), false)
  else (eB, r, false)
def liV (o z : Int) (s : ByteArray) (p : Nat) : Nat → List Int
  | 0 => []
  | k + 1 => liV o z s p k ++ [(getD o z (s.extract (p + k * wdD z) (p + k * wdD z + wdD z))).1]
theorem liV_len (o z : Int) (s : ByteArray) (p : Nat) : ∀ k, (liV o z s p k).length = k
  | 0 => rfl
  | k + 1 => by rw [liV, List.length_append, liV_len o z s p k]; rfl
def lsR (o : Int) (f : Fm) (s : ByteArray) (r : Nat × Int) : List Int × (Nat × Int) :=
  if f.list = 0 then ([], r)
  else if ¬ (nuR o 4 s r).2 = 0 then ([], nuR o 4 s r)
  else if s.size < (nuR o 4 s r).1 + (nuV o 4 s r).toNat * wdD f.list then ([], ((nuR o 4 s r).1, 3))
  else (liV o f.list s (nuR o 4 s r).1 (nuV o 4 s r).toNat, fuR s ((nuR o 4 s r).1 + (nuV o 4 s r).toNat * wdD f.list, 0))
def r1D (o : Int) (f : Fm) (s : ByteArray) : Nat × Int := fuR s (fxR o f.fixed s f.fixed.length)
def bodD (o : Int) (f : Fm) (s : ByteArray) : Fl × (Nat × Int) :=
  if (txR o f s (r1D o f s)).2.2 = true then (⟨fxV o f.fixed s f.fixed.length, (txR o f s (r1D o f s)).1, []⟩, (txR o f s (r1D o f s)).2.1)
  else (⟨fxV o f.fixed s f.fixed.length, (txR o f s (r1D o f s)).1, (lsR o f s (txR o f s (r1D o f s)).2.1).1⟩, (lsR o f s (txR o f s (r1D o f s)).2.1).2)
def finD (s : ByteArray) (x : Fl × (Nat × Int)) : Fl × Int := if ¬ x.2.2 = 0 then (nilF, x.2.2) else if x.2.1 < s.size then (nilF, 2) else (x.1, 0)
def getF (o : Int) (f : Fm) (s : ByteArray) : Fl × Int := if ¬ knoD o f = 0 then (nilF, knoD o f) else if s.size > 65536 then (nilF, 4) else finD s (bodD o f s)
theorem sz4 : szB 4 = true := by decide
theorem wd4 : wdD 4 = 4 := by decide
theorem nuV4 (o : Int) (s : ByteArray) (r : Nat × Int) (ho : o = 0 ∨ o = 1) : 0 ≤ nuV o 4 s r ∧ nuV o 4 s r ≤ 4294967295 := by
  unfold nuV
  by_cases h : r.2 = 0 ∧ ¬ s.size < r.1 + wdD 4
  · rw [if_pos h]
    have hb : (s.extract r.1 (r.1 + wdD 4)).size = wdD 4 := extract_size s r.1 _ (by omega)
    have hk : knownD 4 = some ⟨4, 0, 4294967295⟩ := by decide
    unfold getD
    rw [if_neg (by omega), hk]
    simp only []
    have hw : Span.wd ⟨4, 0, 4294967295⟩ = 4 := by decide
    rw [wd4] at hb ⊢
    rw [if_neg (by rw [hb, hw]; omega), if_neg (by rw [hb, hw]; omega)]
    have := (put_read o 4 _ ⟨4, 0, 4294967295⟩ ho hk (by rw [hw]; exact hb)).1
    unfold hasD at this
    simp at this
    exact this
  · rw [if_neg h]; omega
theorem fx_loop (o : Int) (f : Fm) (s : ByteArray) (ho : o = 0 ∨ o = 1) (hl : f.fixed.length ≤ 16) (hz : ∀ k, k < f.fixed.length → szB (nth f.fixed k) = true) (hs : s.size ≤ 65536) : LoopT C2 byB (byS o f s 0 0 0 []) (.exit 0) (byS o f s f.fixed.length (fxR o f.fixed s f.fixed.length).1 (fxR o f.fixed s f.fixed.length).2 (fxV o f.fixed s f.fixed.length)) :=
  LoopT.count (fun k => byS o f s k (fxR o f.fixed s k).1 (fxR o f.fixed s k).2 (fxV o f.fixed s k)) f.fixed.length (fun k hk => by_step o f s k _ _ _ _ _ _ (fxV_len _ _ _ _) hk hl (nu_ok o _ s (fxR o f.fixed s k) ho (hz k hk) hs (fxR_le _ _ _ _))) (by_end o f s _ _ _) 0 (Nat.zero_le _)
theorem nuV_z {o z : Int} {s : ByteArray} {p : Nat} (h : ¬ s.size < p + wdD z) : nuV o z s (p, 0) = (getD o z (s.extract p (p + wdD z))).1 := by
  unfold nuV
  rw [if_pos ⟨rfl, h⟩]
theorem nuR_z {o z : Int} {s : ByteArray} {p : Nat} (h : ¬ s.size < p + wdD z) : nuR o z s (p, 0) = (p + wdD z, 0) := by
  unfold nuR
  rw [if_pos rfl, if_neg h]
theorem nuR_zero {o z : Int} {s : ByteArray} {r : Nat × Int} (h : (nuR o z s r).2 = 0) : r.2 = 0 ∧ ¬ s.size < r.1 + wdD z ∧ (nuR o z s r).1 = r.1 + wdD z := by
  unfold nuR at h ⊢
  by_cases h0 : r.2 = 0
  · rw [if_pos h0] at h ⊢
    by_cases h1 : s.size < r.1 + wdD z
    · rw [if_pos h1] at h; exact absurd (show (3 : Int) = 0 from h) (by decide)
    · rw [if_neg h1]; exact ⟨h0, h1, rfl⟩
  · rw [if_neg h0] at h; exact absurd h h0
theorem li_loop (o : Int) (f : Fm) (s : ByteArray) (ho : o = 0 ∨ o = 1) (nN : Nat) (vs : List Int) (b : ByteArray) (n p : Nat) (hn : n ≤ 65536) (hz : szB f.list = true) (hs : s.size ≤ 65536) (hp : ¬ s.size < p + n * wdD f.list) : LoopT C2 lyB (lyS o f s nN vs b n 0 p 0 []) (.exit 2) (lyS o f s nN vs b n n (p + n * wdD f.list) 0 (liV o f.list s p n)) := by
  have L := LoopT.count (fun k => lyS o f s nN vs b n k (p + k * wdD f.list) 0 (liV o f.list s p k)) n (fun k hk => by
    have hk2 : (k + 1) * wdD f.list ≤ n * wdD f.list := Nat.mul_le_mul_right _ hk
    have e2 : (k + 1) * wdD f.list = k * wdD f.list + wdD f.list := Nat.succ_mul _ _
    have hno : ¬ s.size < p + k * wdD f.list + wdD f.list := by omega
    have hc := nu_ok o f.list s (p + k * wdD f.list, 0) ho hz hs (show p + k * wdD f.list ≤ s.size by omega)
    rw [nuV_z hno, nuR_z hno] at hc
    have := ly_step o f s nN vs b n k _ _ _ _ _ _ (liV_len o f.list s p k) hk hn hc
    rw [show p + (k + 1) * wdD f.list = p + k * wdD f.list + wdD f.list by omega]
    exact this) (ly_end o f s nN vs b n _ _ _) 0 (Nat.zero_le _)
  simp only [Nat.zero_mul, Nat.add_zero] at L
  exact L
theorem fin1 (o : Int) (f : Fm) (s : ByteArray) (vs : List Int) (n p : Nat) (b : ByteArray) (e : Int) (X1 X2 X3 : Bk) (hn : n = vs.length) (hk : Pu 53 [i64 o, fmA f] (i64 0)) (hs : ¬ s.size > 65536) (BL : CallH Tryd.prog G1 57 [fmA f, st s, .ptr 0 0, .ptr 1 0, fNum s o, fFil s] [bI 0, bI 0] (A [.osl 5 0 n 1, st b, .sl 0 []]) [bI p, bI e, X1, X2, X3, .arr (n * 1) (vs.flatMap eJ) 0]) : Pu 37 [i64 o, fmA f, st s] (getFR (finD s (⟨vs, b, []⟩, (p, e)))) := by
  have B := BL.lay [some 0, some 1, some 5] [false, false, true] (by kernel_rfl) (by kernel_rfl) ⟨row_pureB (fun _ => rfl) _ _ _, trivial⟩
  unfold finD
  by_cases he : e = 0
  · subst he
    rw [if_neg (fun q => q rfl)]
    by_cases hp : p < s.size
    · rw [if_pos hp]; exact pget_more1 o f s vs n p b hn hk hs B hp
    · rw [if_neg hp]; exact pget_right1 o f s vs n p b hn hk hs B hp
  · rw [if_pos he]; exact pget_err1 o f s vs n p b hn hk hs e B he
theorem fin2 (o : Int) (f : Fm) (s : ByteArray) (vs ls : List Int) (n m p : Nat) (b : ByteArray) (e : Int) (X1 X2 X3 : Bk) (hn : n = vs.length) (hm : m = ls.length) (hk : Pu 53 [i64 o, fmA f] (i64 0)) (hs : ¬ s.size > 65536) (BL : CallH Tryd.prog G1 57 [fmA f, st s, .ptr 0 0, .ptr 1 0, fNum s o, fFil s] [bI 0, bI 0] (A [.osl 5 0 n 1, st b, .osl 6 0 m 1]) [bI p, bI e, X1, X2, X3, .arr (n * 1) (vs.flatMap eJ) 0, .arr (m * 1) (ls.flatMap eJ) 0]) : Pu 37 [i64 o, fmA f, st s] (getFR (finD s (⟨vs, b, ls⟩, (p, e)))) := by
  have B := BL.lay [some 0, some 1, some 5, some 6] [false, false, true, true] (by kernel_rfl) (by kernel_rfl) ⟨row_pureB (fun _ => rfl) _ _ _, row_pureB (fun _ => rfl) _ _ _, trivial⟩
  unfold finD
  by_cases he : e = 0
  · subst he
    rw [if_neg (fun q => q rfl)]
    by_cases hp : p < s.size
    · rw [if_pos hp]; exact pget_more2 o f s vs n p b hn ls m hm hk hs B hp
    · rw [if_neg hp]; exact pget_right2 o f s vs n p b hn ls m hm hk hs B hp
  · rw [if_pos he]; exact pget_err2 o f s vs n p b hn ls m hm hk hs e B he
theorem txR_le {o : Int} {f : Fm} {s : ByteArray} {r : Nat × Int} (h : r.1 ≤ s.size) : (txR o f s r).2.1.1 ≤ s.size := by
  unfold txR
  have h2 := nuR_le (o := o) (z := 4) h
  split
  · split
    · exact h2
    · split
      · exact h2
      · exact fuR_le (by show _ + _ ≤ _; omega)
  · exact h
theorem pget_ok (o : Int) (f : Fm) (s : ByteArray) : Pu 37 [i64 o, fmA f, st s] (getFR (getF o f s)) := by
  have hk := kno_ok o f
  unfold getF
  by_cases k0 : knoD o f = 0
  · rw [if_neg (fun q => q k0)]
    obtain ⟨ho, h16, hz, hlz⟩ := kno_zero k0
    rw [k0] at hk
    by_cases hs : s.size > 65536
    · rw [if_pos hs]; exact pget_long o f s hs hk
    rw [if_neg hs]
    have hs' : s.size ≤ 65536 := by omega
    obtain ⟨n, hn⟩ : ∃ n, n = f.fixed.length := ⟨_, rfl⟩
    have LN := fx_loop o f s ho h16 hz hs'
    have hv := fxV_len o f.fixed s f.fixed.length
    have hx := fxR_le o f.fixed s f.fixed.length
    have F1 := fu_ok s (fxR o f.fixed s f.fixed.length) hs' hx
    have hr1 : (r1D o f s).1 ≤ s.size := fuR_le hx
    change CallH _ _ _ _ _ _ [bI (r1D o f s).2, bI (r1D o f s).1] at F1
    unfold bodD
    generalize fxV o f.fixed s f.fixed.length = vs at *
    generalize fxR o f.fixed s f.fixed.length = r0 at *
    generalize r1D o f s = r1 at *
    have N1 := nu_ok o 4 s r1 ho sz4 hs' hr1
    have v1 := nuV4 o s r1 ho
    have n1le := nuR_le (o := o) (z := 4) hr1
    -- the list, from r on
    cases hb : f.bytes with
    | false =>
      have ht : txR o f s r1 = (eB, r1, false) := by unfold txR; rw [hb]; rfl
      rw [ht]
      simp only [Bool.false_eq_true, if_false]
      unfold lsR
      by_cases hl : f.list = 0
      · rw [if_pos hl]
        exact fin1 o f s vs _ _ _ _ _ _ _ hv.symm hk hs (bod_00 o f s hs' vs _ _ hv LN _ _ F1 hb hl)
      rw [if_neg hl]
      have hzl : szB f.list = true := hlz.resolve_left hl
      have hw := wide_ok f.list hzl
      have hwl := wd_le hzl
      by_cases e4 : (nuR o 4 s r1).2 = 0
      · rw [if_neg (fun q => q e4)]
        obtain ⟨c, hc⟩ : ∃ c : Nat, c = (nuV o 4 s r1).toNat := ⟨_, rfl⟩
        have hcv : nuV o 4 s r1 = (c : Int) := by omega
        rw [← hc]
        rw [e4, hcv] at N1
        have hnw : (c : Int) * (wdD f.list : Int) = ((c * wdD f.list : Nat) : Int) := by push_cast; rfl
        have hc4 : c * wdD f.list ≤ c * 4 := Nat.mul_le_mul_left _ hwl.2
        have hc1 : c * 1 ≤ c * wdD f.list := Nat.mul_le_mul_left _ hwl.1
        by_cases hsh : s.size < (nuR o 4 s r1).1 + c * wdD f.list
        · rw [if_pos hsh]
          exact fin1 o f s vs _ _ _ _ _ _ _ hv.symm hk hs (bod_0s o f s hs' vs _ _ hv LN _ _ F1 hb hl c _ _ n1le N1 hw hwl.1 hwl.2 (by omega) _ hnw hsh (by omega))
        · rw [if_neg hsh]
          have LL := li_loop o f s ho f.fixed.length vs ⟨#[]⟩ c (nuR o 4 s r1).1 (by omega) hzl hs' hsh
          have F3 := fu_ok s ((nuR o 4 s r1).1 + c * wdD f.list, 0) hs' (by show _ + _ ≤ _; omega)
          exact fin2 o f s vs _ _ _ _ _ _ _ _ _ hv.symm (liV_len _ _ _ _ _).symm hk hs (bod_01 o f s hs' vs _ _ hv LN _ _ F1 hb hl c _ _ n1le N1 hw hwl.1 hwl.2 (by omega) _ hnw hsh (by omega) _ _ _ (liV_len _ _ _ _ _) LL _ _ F3)
      · rw [if_pos e4]
        exact fin1 o f s vs _ _ _ _ _ _ _ hv.symm hk hs (bod_0e o f s hs' vs _ _ hv LN _ _ F1 hb hl _ _ _ N1 e4)
    | true =>
      by_cases e2 : (nuR o 4 s r1).2 = 0
      · obtain ⟨m, hm⟩ : ∃ m : Nat, m = (nuV o 4 s r1).toNat := ⟨_, rfl⟩
        have hmv : nuV o 4 s r1 = (m : Int) := by omega
        rw [e2, hmv] at N1
        by_cases hsm : s.size < (nuR o 4 s r1).1 + m
        · have ht : txR o f s r1 = (eB, ((nuR o 4 s r1).1, 3), true) := by
            unfold txR
            rw [if_pos hb, if_neg (fun q => q e2), ← hm, if_pos hsm]
          rw [ht, if_pos rfl]
          exact fin1 o f s vs _ _ _ _ _ _ _ hv.symm hk hs (bod_s0 o f s hs' vs _ _ hv LN _ _ F1 hb m _ n1le N1 hsm (by omega))
        · have ht : txR o f s r1 = (s.extract (nuR o 4 s r1).1 ((nuR o 4 s r1).1 + m), fuR s ((nuR o 4 s r1).1 + m, 0), false) := by
            unfold txR
            rw [if_pos hb, if_neg (fun q => q e2), ← hm, if_neg hsm]
          rw [ht]
          simp only [Bool.false_eq_true, if_false]
          clear ht
          have F2 := fu_ok s ((nuR o 4 s r1).1 + m, 0) hs' (by show _ + _ ≤ _; omega)
          have h3 : (fuR s ((nuR o 4 s r1).1 + m, 0)).1 ≤ s.size := fuR_le (by show _ + _ ≤ _; omega)
          generalize (nuR o 4 s r1).1 = p2 at *
          generalize fuR s (p2 + m, 0) = r3 at *
          have N2 := nu_ok o 4 s r3 ho sz4 hs' h3
          have v2 := nuV4 o s r3 ho
          have n2le := nuR_le (o := o) (z := 4) h3
          unfold lsR
          by_cases hl : f.list = 0
          · rw [if_pos hl]
            exact fin1 o f s vs _ _ _ _ _ _ _ hv.symm hk hs (bod_10 o f s hs' vs _ _ hv LN _ _ F1 hb m _ n1le N1 hsm _ _ F2 hl)
          rw [if_neg hl]
          have hzl : szB f.list = true := hlz.resolve_left hl
          have hw := wide_ok f.list hzl
          have hwl := wd_le hzl
          by_cases e4 : (nuR o 4 s r3).2 = 0
          · rw [if_neg (fun q => q e4)]
            obtain ⟨c, hc⟩ : ∃ c : Nat, c = (nuV o 4 s r3).toNat := ⟨_, rfl⟩
            have hcv : nuV o 4 s r3 = (c : Int) := by omega
            rw [← hc]
            rw [e4, hcv] at N2
            have hnw : (c : Int) * (wdD f.list : Int) = ((c * wdD f.list : Nat) : Int) := by push_cast; rfl
            have hc4 : c * wdD f.list ≤ c * 4 := Nat.mul_le_mul_left _ hwl.2
            have hc1 : c * 1 ≤ c * wdD f.list := Nat.mul_le_mul_left _ hwl.1
            by_cases hsh : s.size < (nuR o 4 s r3).1 + c * wdD f.list
            · rw [if_pos hsh]
              exact fin1 o f s vs _ _ _ _ _ _ _ hv.symm hk hs (bod_1s o f s hs' vs _ _ hv LN _ _ F1 hb m _ n1le N1 hsm _ _ F2 hl c _ _ n2le N2 hw hwl.1 hwl.2 (by omega) _ hnw hsh (by omega))
            · rw [if_neg hsh]
              have LL := li_loop o f s ho f.fixed.length vs (s.extract p2 (p2 + m)) c (nuR o 4 s r3).1 (by omega) hzl hs' hsh
              have F3 := fu_ok s ((nuR o 4 s r3).1 + c * wdD f.list, 0) hs' (by show _ + _ ≤ _; omega)
              exact fin2 o f s vs _ _ _ _ _ _ _ _ _ hv.symm (liV_len _ _ _ _ _).symm hk hs (bod_11 o f s hs' vs _ _ hv LN _ _ F1 hb m _ n1le N1 hsm _ _ F2 hl c _ _ n2le N2 hw hwl.1 hwl.2 (by omega) _ hnw hsh (by omega) _ _ _ (liV_len _ _ _ _ _) LL _ _ F3)
          · rw [if_pos e4]
            exact fin1 o f s vs _ _ _ _ _ _ _ hv.symm hk hs (bod_1e o f s hs' vs _ _ hv LN _ _ F1 hb m _ n1le N1 hsm _ _ F2 hl _ _ _ N2 e4)
      · have ht : txR o f s r1 = (eB, nuR o 4 s r1, true) := by
          unfold txR
          rw [if_pos hb, if_pos e2]
        rw [ht, if_pos rfl]
        exact fin1 o f s vs _ _ _ _ _ _ _ hv.symm hk hs (bod_e0 o f s hs' vs _ _ hv LN _ _ F1 hb _ _ _ N1 e2)
  · rw [if_pos k0]
    exact pget_kno o f s _ k0 hk
end Go.Proofs.YtcnlgdbmcdlknaaDoor.Fo
