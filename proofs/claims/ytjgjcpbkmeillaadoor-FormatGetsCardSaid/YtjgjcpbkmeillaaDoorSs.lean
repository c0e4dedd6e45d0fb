/- Put, by the program: what it is. By the prover of this seat. -/
import Derived.Test.YtjgjcpbkmeillaaDoorSr
set_option linter.unusedVariables false
set_option linter.unusedSimpArgs false
set_option maxRecDepth 100000
set_option maxHeartbeats 4000000
namespace Go.Proofs.YtjgjcpbkmeillaaDoor
open Go.RowKit Go.Pm
def eB : ByteArray := ⟨#[]⟩
theorem e_app (b : ByteArray) : eB ++ b = b := nil_app b
theorem app_e (b : ByteArray) : b ++ eB = b := by
  apply ByteArray.ext
  rw [ByteArray.data_append]
  exact Array.append_empty
theorem app_assoc (a b c : ByteArray) : (a ++ b) ++ c = a ++ (b ++ c) := ByteArray.append_assoc
def catP (o : Int) (zs vs : List Int) : Nat → ByteArray
  | 0 => eB
  | k + 1 => catP o zs vs k ++ (putD o (nth zs k) (nth vs k)).1
def catL (o z : Int) (vs : List Int) : Nat → ByteArray
  | 0 => eB
  | k + 1 => catL o z vs k ++ (putD o z (nth vs k)).1
def fillB (b : ByteArray) : ByteArray := padB b (padN b.size)
theorem fillB_size (b : ByteArray) : (fillB b).size % 4 = 0 ∧ b.size ≤ (fillB b).size ∧ (fillB b).size ≤ b.size + 3 := by
  unfold fillB
  rw [padB_size]
  unfold padN
  omega
theorem fillB_e : fillB eB = eB := by
  unfold fillB
  rw [show padN eB.size = 0 by decide]
  rfl
theorem padB_app (a b : ByteArray) (p : Nat) : padB (a ++ b) p = a ++ padB b p := by
  induction p with
  | zero => rfl
  | succ p ih => rw [padB, ih, padB, app_assoc]
theorem fillB_app (a b : ByteArray) (h : a.size % 4 = 0) : fillB (a ++ b) = a ++ fillB b := by
  unfold fillB
  rw [padB_app, ByteArray.size_append, show padN (a.size + b.size) = padN b.size by unfold padN; omega]
def num4 (o : Int) (n : Nat) : ByteArray := (putD o 4 n).1
def encD (o : Int) (f : Fm) (x : Fl) : ByteArray := (fillB (catP o f.fixed x.N x.N.length) ++ (if f.bytes = true then fillB (num4 o x.B.size ++ x.B) else eB)) ++ (if f.list = 0 then eB else fillB (num4 o x.L.length ++ catL o f.list x.L x.L.length))
def putF (o : Int) (f : Fm) (x : Fl) : ByteArray × Int := if ¬ knoD o f = 0 then (eB, knoD o f) else if ¬ fitsD o f x = 0 then (eB, fitsD o f x) else if (encD o f x).size > 65536 then (eB, 4) else (encD o f x, 0)
theorem put4 (o : Int) (n : Nat) (ho : o = 0 ∨ o = 1) (hn : n ≤ 65536) : (putD o 4 n).2 = 0 := by
  unfold putD
  rw [if_neg (by omega)]
  have : hasD ⟨4, 0, 4294967295⟩ n = true := by
    unfold hasD
    simp
    omega
  show (if hasD ⟨4, 0, 4294967295⟩ n = true then (strA (bytesOf o 4 n), (0 : Int)) else (e0, 1)).2 = 0
  rw [if_pos this]
theorem num4_ok (o : Int) (n : Nat) (ho : o = 0 ∨ o = 1) (hn : n ≤ 65536) : (num4 o n).size = 4 ∧ Pu 25 [i64 o, i64 4, i64 n] (.tup [st (num4 o n), i64 0]) :=
  ⟨(put_sz (put4 o n ho hn)).1, put_zero (put4 o n ho hn)⟩
theorem kno_zero {o : Int} {f : Fm} (h : knoD o f = 0) : (o = 0 ∨ o = 1) ∧ f.fixed.length ≤ 16 ∧ (∀ k, k < f.fixed.length → szB (nth f.fixed k) = true) ∧ (f.list = 0 ∨ szB f.list = true) := by
  unfold knoD at h
  by_cases ho : o = 0 ∨ o = 1
  · rw [if_pos ho] at h
    unfold checkD at h
    by_cases hl : f.fixed.length > 16
    · rw [if_pos hl] at h; cases h
    rw [if_neg hl] at h
    cases hi : idxD noSz f.fixed with
    | some i => rw [hi] at h; cases h
    | none =>
      rw [hi] at h
      refine ⟨ho, by omega, fun k hk => noSz_f (idx_none hi k hk), ?_⟩
      by_cases h0 : f.list = 0
      · exact .inl h0
      · right
        cases hz : szB f.list with
        | true => rfl
        | false =>
          have h : (if f.list ≠ 0 ∧ szB f.list = false then (10 : Int) else 0) = 0 := h
          rw [if_pos ⟨h0, hz⟩] at h
          cases h
  · rw [if_neg ho] at h; cases h
structure Fit (o : Int) (f : Fm) (x : Fl) : Prop where
  len : x.N.length = f.fixed.length
  num : ∀ k, k < x.N.length → (putD o (nth f.fixed k) (nth x.N k)).2 = 0
  byt : x.B.size = 0 ∨ f.bytes = true
  big : x.B.size ≤ 65536
  lst : x.L.length = 0 ∨ ¬ f.list = 0
  lng : x.L.length ≤ 65536
  row : ∀ k, k < x.L.length → (putD o f.list (nth x.L k)).2 = 0
theorem fits_zero {o : Int} {f : Fm} {x : Fl} (h : fitsD o f x = 0) : Fit o f x := by
  unfold fitsD at h
  by_cases hl : x.N.length = f.fixed.length
  · rw [if_neg (fun q => q hl)] at h
    cases hi : idxD (errN o f x) (List.range x.N.length) with
    | some i =>
      rw [hi] at h
      have h2 := (idx_some hi).2.1
      have h1 := (idx_some hi).1
      rw [List.length_range] at h1
      rw [nth_range _ _ h1] at h2
      unfold errN at h2
      simp at h2
      exact absurd h h2
    | none =>
      rw [hi] at h
      simp only at h
      by_cases hb : ¬ x.B.size = 0 ∧ f.bytes = false
      · rw [if_pos hb] at h; cases h
      rw [if_neg hb] at h
      by_cases hs : x.B.size > 65536
      · rw [if_pos hs] at h; cases h
      rw [if_neg hs] at h
      by_cases hL : 0 < x.L.length ∧ f.list = 0
      · rw [if_pos hL] at h; cases h
      rw [if_neg hL] at h
      by_cases h6 : x.L.length > 65536
      · rw [if_pos h6] at h; cases h
      rw [if_neg h6] at h
      cases hj : idxD (errL o f.list) x.L with
      | some j =>
        rw [hj] at h
        exact absurd h (errL_t (idx_some hj).2.1)
      | none =>
        refine ⟨hl, fun k hk => ?_, ?_, by omega, ?_, by omega, fun k hk => errL_f (idx_none hj k hk)⟩
        · have := idx_none hi k (by rw [List.length_range]; exact hk)
          rw [nth_range _ _ hk] at this
          unfold errN at this
          simpa using this
        · by_cases e : x.B.size = 0
          · exact .inl e
          · right
            cases hf : f.bytes with
            | true => rfl
            | false => exact absurd ⟨e, hf⟩ hb
        · by_cases e : f.list = 0
          · left
            by_cases e2 : 0 < x.L.length
            · exact absurd ⟨e2, e⟩ hL
            · omega
          · exact .inr e
  · rw [if_pos hl] at h; cases h
theorem catP_size {o : Int} {f : Fm} {x : Fl} (h : Fit o f x) : ∀ k, k ≤ x.N.length → k ≤ (catP o f.fixed x.N k).size ∧ (catP o f.fixed x.N k).size ≤ 4 * k := by
  intro k
  induction k with
  | zero => intro _; exact ⟨Nat.zero_le _, Nat.le_refl _⟩
  | succ k ih =>
    intro hk
    have := ih (by omega)
    have hs := put_sz (h.num k (by omega))
    rw [catP, ByteArray.size_append]
    omega
theorem catL_size {o : Int} {f : Fm} {x : Fl} (h : Fit o f x) : ∀ k, k ≤ x.L.length → (catL o f.list x.L k).size ≤ 4 * k := by
  intro k
  induction k with
  | zero => intro _; exact Nat.le_refl _
  | succ k ih =>
    intro hk
    have := ih (by omega)
    have hs := put_sz (h.row k (by omega))
    rw [catL, ByteArray.size_append]
    omega
theorem list_nil {l : List Int} (h : l.length = 0) : l = [] := List.eq_nil_of_length_eq_zero h
theorem catP_loop {o : Int} {f : Fm} {x : Fl} (h : Fit o f x) (h16 : f.fixed.length ≤ 16) (h0 : 0 < x.N.length) : LoopT C1 puB (puF o f x 0) (.exit 0) (puS o f x x.N.length (catP o f.fixed x.N x.N.length).size (catP o f.fixed x.N x.N.length)) := by
  have first := put_sz (h.num 0 h0)
  have T0 := pu_first o f x _ h0 h.len h16 (by omega) (by omega) (put_zero (h.num 0 h0))
  have e1 : catP o f.fixed x.N 1 = (putD o (nth f.fixed 0) (nth x.N 0)).1 := e_app _
  rw [← e1] at T0
  refine LoopT.next T0 (LoopT.count (fun k => puS o f x k (catP o f.fixed x.N k).size (catP o f.fixed x.N k)) x.N.length (fun k hk => ?_) (pu_end o f x _ _) 1 (by omega))
  have hs := put_sz (h.num k hk)
  have hc := catP_size h k (by omega)
  have hl := h.len
  have := pu_step o f x k _ (catP o f.fixed x.N k) _ hk h.len h16 rfl (by omega) (by omega) (put_zero (h.num k hk))
  rw [← ByteArray.size_append] at this
  exact this
theorem catL_loop {o : Int} {f : Fm} {x : Fl} (h : Fit o f x) (b : ByteArray) (n : Nat) (hb : b.size = n) (hn : n ≤ 600000) : LoopT C1 plB (plS o f x 0 n b) (.exit 2) (plS o f x x.L.length (n + (catL o f.list x.L x.L.length).size) (b ++ catL o f.list x.L x.L.length)) := by
  have L := LoopT.count (fun k => plS o f x k (n + (catL o f.list x.L k).size) (b ++ catL o f.list x.L k)) x.L.length (fun k hk => by
    have hs := put_sz (h.row k hk)
    have hc := catL_size h k (by omega)
    have hl := h.lng
    have := pl_step o f x k (n + (catL o f.list x.L k).size) (b ++ catL o f.list x.L k) _ hk h.lng (by rw [ByteArray.size_append, hb]) (by omega) (by omega) (put_zero (h.row k hk))
    rw [Nat.add_assoc, ← ByteArray.size_append, app_assoc] at this
    exact this) (pl_end o f x _ _) 0 (Nat.zero_le _)
  have e : b ++ catL o f.list x.L 0 = b := app_e b
  rw [e] at L
  exact L
theorem tup_e (e : Int) : AV.tup [st (⟨#[]⟩ : ByteArray), i64 e] = putR (eB, e) := rfl
theorem fill_eq (b : ByteArray) (n : Nat) (h : b.size = n) : padB b (padN n) = fillB b := by unfold fillB; rw [h]
theorem pput_ok (o : Int) (f : Fm) (x : Fl) : Pu 11 [i64 o, fmA f, flA x] (putR (putF o f x)) := by
  have hk := kno_ok o f
  unfold putF
  by_cases k0 : knoD o f = 0
  · rw [if_neg (fun q => q k0)]
    obtain ⟨ho, h16, hz, hlz⟩ := kno_zero k0
    rw [k0] at hk
    have hf := fits_ok o f x h16
    by_cases f0 : fitsD o f x = 0
    · rw [if_neg (fun q => q f0)]
      rw [f0] at hf
      have F := fits_zero f0
      have hB := F.big
      have hL := F.lng
      obtain ⟨s4, p4⟩ := num4_ok o x.B.size ho hB
      obtain ⟨s5, p5⟩ := num4_ok o x.L.length ho hL
      have cL := catL_size F x.L.length (Nat.le_refl _)
      have fin : ∀ (b : ByteArray) (n : Nat), b.size = n → b = encD o f x → (n > 65536 → Pu 11 [i64 o, fmA f, flA x] (.tup [st ⟨#[]⟩, i64 4])) → (¬ n > 65536 → Pu 11 [i64 o, fmA f, flA x] (.tup [st b, i64 0])) → Pu 11 [i64 o, fmA f, flA x] (putR (if (encD o f x).size > 65536 then (eB, 4) else (encD o f x, 0))) := by
        intro b n hn e p q
        subst e
        by_cases h : (encD o f x).size > 65536
        · rw [if_pos h]; exact p (by omega)
        · rw [if_neg h]; exact q (by omega)
      have fs := fillB_size
      by_cases hN : x.N.length = 0
      · have LN := pu_none o f x (list_nil hN)
        have eN : fillB (catP o f.fixed x.N x.N.length) = eB := by rw [hN]; exact fillB_e
        have en : encD o f x = (if f.bytes = true then fillB (num4 o x.B.size ++ x.B) else eB) ++ (if f.list = 0 then eB else fillB (num4 o x.L.length ++ catL o f.list x.L x.L.length)) := by
          unfold encD; rw [eN, e_app]
        cases hb : f.bytes with
        | true =>
          rw [hb, if_pos rfl] at en
          by_cases hl : f.list = 0
          · rw [if_pos hl, app_e] at en
            have e1 := fill_eq (num4 o x.B.size ++ x.B) ((num4 o x.B.size).size + x.B.size) (by rw [ByteArray.size_append])
            refine fin _ ((num4 o x.B.size).size + x.B.size + padN ((num4 o x.B.size).size + x.B.size)) ?_ (e1.trans en.symm) (fun h => put_110x o f x hk hf hB hL LN hb _ s4 p4 hl h) (fun h => put_110 o f x hk hf hB hL LN hb _ s4 p4 hl h)
            rw [padB_size, ByteArray.size_append]
          · rw [if_neg hl] at en
            obtain ⟨b, hbd⟩ : ∃ b, b = fillB (num4 o x.B.size ++ x.B) := ⟨_, rfl⟩
            have e1 := fill_eq (num4 o x.B.size ++ x.B) ((num4 o x.B.size).size + x.B.size) (by rw [ByteArray.size_append])
            have hs := fs (num4 o x.B.size ++ x.B)
            rw [ByteArray.size_append] at hs
            have hsz : (padB (num4 o x.B.size ++ x.B) (padN ((num4 o x.B.size).size + x.B.size))).size = (num4 o x.B.size).size + x.B.size + padN ((num4 o x.B.size).size + x.B.size) := by rw [padB_size, ByteArray.size_append]
            have hsz2 : (padB (num4 o x.B.size ++ x.B) (padN ((num4 o x.B.size).size + x.B.size)) ++ num4 o x.L.length).size = (num4 o x.B.size).size + x.B.size + padN ((num4 o x.B.size).size + x.B.size) + (num4 o x.L.length).size := by rw [ByteArray.size_append, hsz]
            have hp := padN_le ((num4 o x.B.size).size + x.B.size)
            have LL := catL_loop F _ _ hsz2 (by omega)
            have hfin : padB ((padB (num4 o x.B.size ++ x.B) (padN ((num4 o x.B.size).size + x.B.size)) ++ num4 o x.L.length) ++ catL o f.list x.L x.L.length) (padN ((num4 o x.B.size).size + x.B.size + padN ((num4 o x.B.size).size + x.B.size) + (num4 o x.L.length).size + (catL o f.list x.L x.L.length).size)) = encD o f x := by
              rw [fill_eq _ _ (by rw [ByteArray.size_append, hsz2]), app_assoc, e1, fillB_app _ _ (fs _).1, en]
            refine fin _ ((num4 o x.B.size).size + x.B.size + padN ((num4 o x.B.size).size + x.B.size) + (num4 o x.L.length).size + (catL o f.list x.L x.L.length).size + padN ((num4 o x.B.size).size + x.B.size + padN ((num4 o x.B.size).size + x.B.size) + (num4 o x.L.length).size + (catL o f.list x.L x.L.length).size)) ?_ hfin (fun h => put_111x o f x hk hf hB hL LN hb _ s4 p4 hl _ s5 p5 _ _ (by rw [ByteArray.size_append, hsz2]) (by omega) (by omega) LL h) (fun h => put_111 o f x hk hf hB hL LN hb _ s4 p4 hl _ s5 p5 _ _ (by rw [ByteArray.size_append, hsz2]) (by omega) (by omega) LL h)
            rw [padB_size, ByteArray.size_append, hsz2]
        | false =>
          rw [hb, if_neg (by simp), e_app] at en
          by_cases hl : f.list = 0
          · rw [if_pos hl] at en
            rw [en, if_neg (by decide)]
            exact put_100 o f x hk hf hB hL LN hb hl
          · rw [if_neg hl] at en
            have LL := catL_loop F (num4 o x.L.length) (num4 o x.L.length).size rfl (by omega)
            have e1 := fill_eq (num4 o x.L.length ++ catL o f.list x.L x.L.length) ((num4 o x.L.length).size + (catL o f.list x.L x.L.length).size) (by rw [ByteArray.size_append])
            refine fin _ ((num4 o x.L.length).size + (catL o f.list x.L x.L.length).size + padN ((num4 o x.L.length).size + (catL o f.list x.L x.L.length).size)) ?_ (e1.trans en.symm) (fun h => put_101x o f x hk hf hB hL LN hb hl _ s5 p5 _ _ (by rw [ByteArray.size_append]) (by omega) (by omega) LL h) (fun h => put_101 o f x hk hf hB hL LN hb hl _ s5 p5 _ _ (by rw [ByteArray.size_append]) (by omega) (by omega) LL h)
            rw [padB_size, ByteArray.size_append]
      · have hN' : 0 < x.N.length := by omega
        have LN := catP_loop F h16 hN'
        have cs := catP_size F x.N.length (Nat.le_refl _)
        have hlen := F.len
        obtain ⟨b0, hb0⟩ : ∃ b0, b0 = catP o f.fixed x.N x.N.length := ⟨_, rfl⟩
        have en : encD o f x = (fillB b0 ++ (if f.bytes = true then fillB (num4 o x.B.size ++ x.B) else eB)) ++ (if f.list = 0 then eB else fillB (num4 o x.L.length ++ catL o f.list x.L x.L.length)) := by rw [hb0]; rfl
        rw [← hb0] at LN cs
        have hp0 := padN_le b0.size
        have e0' : padB b0 (padN b0.size) = fillB b0 := rfl
        have z0 : (padB b0 (padN b0.size)).size = b0.size + padN b0.size := padB_size _ _
        cases hb : f.bytes with
        | true =>
          rw [hb, if_pos rfl] at en
          have z1 : ((padB b0 (padN b0.size) ++ num4 o x.B.size) ++ x.B).size = b0.size + padN b0.size + (num4 o x.B.size).size + x.B.size := by rw [ByteArray.size_append, ByteArray.size_append, z0]
          have e2 : padB ((padB b0 (padN b0.size) ++ num4 o x.B.size) ++ x.B) (padN (b0.size + padN b0.size + (num4 o x.B.size).size + x.B.size)) = fillB b0 ++ fillB (num4 o x.B.size ++ x.B) := by
            rw [fill_eq _ _ z1, app_assoc, e0', fillB_app _ _ (fs _).1]
          have hp1 := padN_le (b0.size + padN b0.size + (num4 o x.B.size).size + x.B.size)
          by_cases hl : f.list = 0
          · rw [if_pos hl, app_e] at en
            refine fin _ (b0.size + padN b0.size + (num4 o x.B.size).size + x.B.size + padN (b0.size + padN b0.size + (num4 o x.B.size).size + x.B.size)) ?_ (e2.trans en.symm) (fun h => put_010x o f x hk hf hB hL b0 _ rfl (by omega) (by omega) LN hb _ s4 p4 hl h) (fun h => put_010 o f x hk hf hB hL b0 _ rfl (by omega) (by omega) LN hb _ s4 p4 hl h)
            rw [padB_size, z1]
          · rw [if_neg hl] at en
            have z2 : (padB ((padB b0 (padN b0.size) ++ num4 o x.B.size) ++ x.B) (padN (b0.size + padN b0.size + (num4 o x.B.size).size + x.B.size)) ++ num4 o x.L.length).size = b0.size + padN b0.size + (num4 o x.B.size).size + x.B.size + padN (b0.size + padN b0.size + (num4 o x.B.size).size + x.B.size) + (num4 o x.L.length).size := by rw [ByteArray.size_append, padB_size, z1]
            have LL := catL_loop F _ _ z2 (by omega)
            have hfin : padB ((padB ((padB b0 (padN b0.size) ++ num4 o x.B.size) ++ x.B) (padN (b0.size + padN b0.size + (num4 o x.B.size).size + x.B.size)) ++ num4 o x.L.length) ++ catL o f.list x.L x.L.length) (padN (b0.size + padN b0.size + (num4 o x.B.size).size + x.B.size + padN (b0.size + padN b0.size + (num4 o x.B.size).size + x.B.size) + (num4 o x.L.length).size + (catL o f.list x.L x.L.length).size)) = encD o f x := by
              rw [fill_eq _ _ (by rw [ByteArray.size_append, z2]), app_assoc, e2, fillB_app _ _ (by rw [ByteArray.size_append]; have := (fs b0).1; have := (fs (num4 o x.B.size ++ x.B)).1; omega), en]
            refine fin _ (b0.size + padN b0.size + (num4 o x.B.size).size + x.B.size + padN (b0.size + padN b0.size + (num4 o x.B.size).size + x.B.size) + (num4 o x.L.length).size + (catL o f.list x.L x.L.length).size + padN (b0.size + padN b0.size + (num4 o x.B.size).size + x.B.size + padN (b0.size + padN b0.size + (num4 o x.B.size).size + x.B.size) + (num4 o x.L.length).size + (catL o f.list x.L x.L.length).size)) ?_ hfin (fun h => put_011x o f x hk hf hB hL b0 _ rfl (by omega) (by omega) LN hb _ s4 p4 hl _ s5 p5 _ _ (by rw [ByteArray.size_append, z2]) (by omega) (by omega) LL h) (fun h => put_011 o f x hk hf hB hL b0 _ rfl (by omega) (by omega) LN hb _ s4 p4 hl _ s5 p5 _ _ (by rw [ByteArray.size_append, z2]) (by omega) (by omega) LL h)
            rw [padB_size, ByteArray.size_append, z2]
        | false =>
          rw [hb, if_neg (by simp), app_e] at en
          by_cases hl : f.list = 0
          · rw [if_pos hl, app_e] at en
            refine fin _ (b0.size + padN b0.size) z0 (e0'.trans en.symm) (fun h => by omega) (fun h => put_000 o f x hk hf hB hL b0 _ rfl (by omega) (by omega) LN hb hl h)
          · rw [if_neg hl] at en
            have z2 : (padB b0 (padN b0.size) ++ num4 o x.L.length).size = b0.size + padN b0.size + (num4 o x.L.length).size := by rw [ByteArray.size_append, z0]
            have LL := catL_loop F _ _ z2 (by omega)
            have hfin : padB ((padB b0 (padN b0.size) ++ num4 o x.L.length) ++ catL o f.list x.L x.L.length) (padN (b0.size + padN b0.size + (num4 o x.L.length).size + (catL o f.list x.L x.L.length).size)) = encD o f x := by
              rw [fill_eq _ _ (by rw [ByteArray.size_append, z2]), app_assoc, e0', fillB_app _ _ (fs _).1, en]
            refine fin _ (b0.size + padN b0.size + (num4 o x.L.length).size + (catL o f.list x.L x.L.length).size + padN (b0.size + padN b0.size + (num4 o x.L.length).size + (catL o f.list x.L x.L.length).size)) ?_ hfin (fun h => put_001x o f x hk hf hB hL b0 _ rfl (by omega) (by omega) LN hb hl _ s5 p5 _ _ (by rw [ByteArray.size_append, z2]) (by omega) (by omega) LL h) (fun h => put_001 o f x hk hf hB hL b0 _ rfl (by omega) (by omega) LN hb hl _ s5 p5 _ _ (by rw [ByteArray.size_append, z2]) (by omega) (by omega) LL h)
            rw [padB_size, ByteArray.size_append, z2]
    · rw [if_pos f0]
      exact put_e2 o f x _ f0 hk hf
  · rw [if_pos k0]
    exact put_e1 o f x _ k0 hk
end Go.Proofs.YtjgjcpbkmeillaaDoor
