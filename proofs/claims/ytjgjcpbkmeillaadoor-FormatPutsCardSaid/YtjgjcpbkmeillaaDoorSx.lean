/- Put, by the document: what it is. By the prover of this seat. -/
import Derived.Test.YtjgjcpbkmeillaaDoorSw
set_option linter.unusedVariables false
set_option linter.unusedSimpArgs false
set_option maxRecDepth 100000
set_option maxHeartbeats 4000000
namespace Go.Proofs.YtjgjcpbkmeillaaDoor
open Go.RowKit Go.Pm
theorem catP_sz {o : Int} {zs vs : List Int} : ∀ k, (∀ j, j < k → (putD o (nth zs j) (nth vs j)).2 = 0) → (catP o zs vs k).size ≤ 4 * k := by
  intro k
  induction k with
  | zero => intro _; exact Nat.le_refl _
  | succ k ih =>
    intro h
    have := ih (fun j hj => h j (by omega))
    have hs := put_sz (h k (by omega))
    rw [catP, ByteArray.size_append]
    omega
theorem row_ok {o : Int} {f : Fm} {x : Fl} (h : Fit o f x) (hz : szB f.list = true) : Pu 35 [i64 o, i64 f.list, slJ x.L] (st (catL o f.list x.L x.L.length)) := by
  have hl := h.lng
  have L := LoopT.count (fun k => roS o f.list x.L k (catL o f.list x.L k).size (catL o f.list x.L k)) x.L.length (fun k hk => by
    have hs := put_sz (h.row k hk)
    have hc := catL_size h k (by omega)
    have := ro_step o f.list x.L k _ (catL o f.list x.L k) _ hk hl rfl (by omega) (by omega) (num_ok o f.list _ (h.row k hk))
    rw [← ByteArray.size_append] at this
    exact this) (ro_end o f.list x.L _ _) 0 (Nat.zero_le _)
  have hw : wdD f.list ≤ 4 := by
    unfold szB at hz
    cases hk : knownD f.list with
    | none => rw [hk] at hz; cases hz
    | some s => rcases known_cases hk with ⟨e, _⟩ | ⟨e, _⟩ | ⟨e, _⟩ | ⟨e, _⟩ | ⟨e, _⟩ | ⟨e, _⟩ <;> rw [e] <;> decide
  have hm : x.L.length * wdD f.list ≤ 65536 * 4 := Nat.mul_le_mul hl hw
  exact ro_go o f.list x.L (wdD f.list) ((x.L.length * wdD f.list : Nat) : Int) _ _ (rbytes_ok _ hz) hl (by rw [Int.natCast_mul]) (by omega) (by omega) rfl L
theorem lit_e (e : Int) : AV.tup [st (⟨#[]⟩ : ByteArray), i64 e] = putR (eB, e) := rfl
theorem rput_0 (f : Fm) (x : Fl) : Pu 12 [i64 0, fmA f, flA x] (putR (putF 0 f x)) := by
  have ho : (0 : Int) = 0 ∨ (0 : Int) = 1 := by omega
  have hc := rc_ok f
  have ek : knoD 0 f = checkD f := rfl
  unfold putF
  rw [ek]
  by_cases k0 : checkD f = 0
  · rw [if_neg (fun q => q k0)]
    obtain ⟨_, h16, hz, hlz⟩ := kno_zero (ek.trans k0)
    rw [k0] at hc
    by_cases f0 : fitsD 0 f x = 0
    · rw [if_neg (fun q => q f0)]
      have F := fits_zero f0
      have hl := F.len
      have hB := F.big
      have hL := F.lng
      have cs := catP_size F x.N.length (Nat.le_refl _)
      have cl := catL_size F x.L.length (Nat.le_refl _)
      have LN := LoopT.count (fun k => rpS 0 f x k (catP 0 f.fixed x.N k)) x.N.length (fun k hk => by
        have hc := catP_size F k (by omega)
        have hs := put_sz (F.num k hk)
        have hf := (fit_ok 0 (nth f.fixed k) (nth x.N k) ho hs.2.2.2.2).resolve_right (fun q => by rw [F.num k hk] at q; exact absurd q.1 (by decide))
        exact rp_step 0 f x k _ _ hk hl h16 (by omega) (by omega) hf.2 (num_ok 0 _ _ (F.num k hk))) (rp_end 0 f x _) 0 (Nat.zero_le _)
      have fs := fillB_size
      have f1 := rfill_ok (catP 0 f.fixed x.N x.N.length) (by omega)
      have b1 := fs (catP 0 f.fixed x.N x.N.length)
      have b2 := fs x.B
      have b3 := fs (catL 0 f.list x.L x.L.length)
      have n4 := num_ok 0 4 x.B.size (put4 0 x.B.size ho hB)
      have n5 := num_ok 0 4 x.L.length (put4 0 x.L.length ho hL)
      obtain ⟨s4, _⟩ := num4_ok 0 x.B.size ho hB
      obtain ⟨s5, _⟩ := num4_ok 0 x.L.length ho hL
      have f2 := rfill_ok x.B (by omega)
      have f3 := rfill_ok (catL 0 f.list x.L x.L.length) (by omega)
      have eBy : ∀ b : ByteArray, fillB (num4 0 x.B.size ++ b) = num4 0 x.B.size ++ fillB b := fun b => fillB_app _ _ (by omega)
      have eLy : ∀ b : ByteArray, fillB (num4 0 x.L.length ++ b) = num4 0 x.L.length ++ fillB b := fun b => fillB_app _ _ (by omega)
      have fin : ∀ b : ByteArray, b = encD 0 f x → (b.size > 65536 → Pu 12 [i64 0, fmA f, flA x] (.tup [st ⟨#[]⟩, i64 4])) → (¬ b.size > 65536 → Pu 12 [i64 0, fmA f, flA x] (.tup [st b, i64 0])) → Pu 12 [i64 0, fmA f, flA x] (putR (if (encD 0 f x).size > 65536 then (eB, 4) else (encD 0 f x, 0))) := by
        intro b e p q
        subst e
        by_cases h : (encD 0 f x).size > 65536
        · rw [if_pos h]; exact p h
        · rw [if_neg h]; exact q h
      have LL : LoopT C1 rlB (rlS 0 f x 0 (catP 0 f.fixed x.N x.N.length)) (.exit 2) (rlS 0 f x x.L.length (catP 0 f.fixed x.N x.N.length)) := LoopT.count (fun k => rlS 0 f x k (catP 0 f.fixed x.N x.N.length)) x.L.length (fun k hk => by
        have hs := put_sz (F.row k hk)
        have hf := (fit_ok 0 f.list (nth x.L k) ho hs.2.2.2.2).resolve_right (fun q => by rw [F.row k hk] at q; exact absurd q.1 (by decide))
        exact rl_step 0 f x k _ hk hL hf.2) (rl_end 0 f x _) 0 (Nat.zero_le _)
      by_cases hl0 : f.list = 0
      · have h0L : ¬ 0 < x.L.length := by
          rcases F.lst with q | q
          · omega
          · exact absurd hl0 q
        cases hb : f.bytes with
        | true =>
          have en : ((fillB (catP 0 f.fixed x.N x.N.length) ++ num4 0 x.B.size) ++ fillB x.B) = encD 0 f x := by
            unfold encD
            rw [hb, if_pos rfl, if_pos hl0, app_e, eBy, app_assoc]
          exact fin _ en (fun h => rpe_ok10x0 f x hc hl _ LN hb (by omega) hl0 h0L LL _ (by omega) f1 _ _ s4 (by omega) n4 f2 h) (fun h => rpe_ok10_0 f x hc hl _ LN hb (by omega) hl0 h0L LL _ (by omega) f1 _ _ s4 (by omega) n4 f2 h)
        | false =>
          have hB0 : x.B.size = 0 := by rcases F.byt with q | q; exact q; rw [hb] at q; cases q
          have en : fillB (catP 0 f.fixed x.N x.N.length) = encD 0 f x := by
            unfold encD
            rw [hb, if_neg (by simp), if_pos hl0, app_e, app_e]
          exact fin _ en (fun h => by omega) (fun h => rpe_ok00_0 f x hc hl _ LN hb (ba_nil hB0) (by omega) hl0 h0L LL _ (by omega) f1 h)
      · have hzl := hlz.resolve_left hl0
        have hr := row_ok F hzl
        cases hb : f.bytes with
        | true =>
          have en : ((((fillB (catP 0 f.fixed x.N x.N.length) ++ num4 0 x.B.size) ++ fillB x.B) ++ num4 0 x.L.length) ++ fillB (catL 0 f.list x.L x.L.length)) = encD 0 f x := by
            unfold encD
            rw [hb, if_pos rfl, if_neg hl0, eBy, eLy]
            simp only [app_assoc]
          exact fin _ en (fun h => rpe_ok11x0 f x hc hl _ LN hb (by omega) hl0 (by omega) LL _ (by omega) f1 _ _ s4 (by omega) n4 f2 _ _ _ s5 (by omega) n5 hr f3 h) (fun h => rpe_ok11_0 f x hc hl _ LN hb (by omega) hl0 (by omega) LL _ (by omega) f1 _ _ s4 (by omega) n4 f2 _ _ _ s5 (by omega) n5 hr f3 h)
        | false =>
          have hB0 : x.B.size = 0 := by rcases F.byt with q | q; exact q; rw [hb] at q; cases q
          have en : ((fillB (catP 0 f.fixed x.N x.N.length) ++ num4 0 x.L.length) ++ fillB (catL 0 f.list x.L x.L.length)) = encD 0 f x := by
            unfold encD
            rw [hb, if_neg (by simp), if_neg hl0, app_e, eLy, app_assoc]
          exact fin _ en (fun h => rpe_ok01x0 f x hc hl _ LN hb (ba_nil hB0) (by omega) hl0 (by omega) LL _ (by omega) f1 _ _ _ s5 (by omega) n5 hr f3 h) (fun h => rpe_ok01_0 f x hc hl _ LN hb (ba_nil hB0) (by omega) hl0 (by omega) LL _ (by omega) f1 _ _ _ s5 (by omega) n5 hr f3 h)
    · rw [if_pos f0]
      unfold fitsD at f0 ⊢
      by_cases hl : x.N.length = f.fixed.length
      · rw [if_neg (fun q => q hl)] at f0 ⊢
        cases hi : idxD (errN 0 f x) (List.range x.N.length) with
        | some i =>
          obtain ⟨h1, h2, h3⟩ := idx_some hi
          rw [List.length_range] at h1
          rw [nth_range _ _ h1] at h2
          have he : ¬ (putD 0 (nth f.fixed i) (nth x.N i)).2 = 0 := by unfold errN at h2; simpa using h2
          have g3 : ∀ k, k < i → (putD 0 (nth f.fixed k) (nth x.N k)).2 = 0 := fun k hk => by
            have := h3 k hk
            rw [nth_range _ _ (by omega)] at this
            unfold errN at this
            simpa using this
          have hf := (fit_ok 0 (nth f.fixed i) (nth x.N i) ho (hz i (by omega))).resolve_left (fun q => he q.1)
          have L := LoopT.count (fun k => rpS 0 f x k (catP 0 f.fixed x.N k)) i (fun k hk => by
            have hc := catP_sz k (fun j hj => g3 j (by omega))
            have hs := put_sz (g3 k hk)
            have hf := (fit_ok 0 (nth f.fixed k) (nth x.N k) ho hs.2.2.2.2).resolve_right (fun q => by rw [g3 k hk] at q; exact absurd q.1 (by decide))
            exact rp_step 0 f x k _ _ (by omega) hl h16 (by omega) (by omega) hf.2 (num_ok 0 _ _ (g3 k hk))) (rp_hit 0 f x i _ h1 hl h16 hf.2) 0 (Nat.zero_le _)
          show Pu 12 [i64 0, fmA f, flA x] (putR (eB, (putD 0 (nth f.fixed i) (nth x.N i)).2))
          rw [hf.1]
          exact rpe_num0 f x hc hl L
        | none =>
          rw [hi] at f0
          have g3 : ∀ k, k < x.N.length → (putD 0 (nth f.fixed k) (nth x.N k)).2 = 0 := fun k hk => by
            have := idx_none hi k (by rw [List.length_range]; exact hk)
            rw [nth_range _ _ hk] at this
            unfold errN at this
            simpa using this
          have LN := LoopT.count (fun k => rpS 0 f x k (catP 0 f.fixed x.N k)) x.N.length (fun k hk => by
            have hc := catP_sz k (fun j hj => g3 j (by omega))
            have hs := put_sz (g3 k hk)
            have hf := (fit_ok 0 (nth f.fixed k) (nth x.N k) ho hs.2.2.2.2).resolve_right (fun q => by rw [g3 k hk] at q; exact absurd q.1 (by decide))
            exact rp_step 0 f x k _ _ hk hl h16 (by omega) (by omega) hf.2 (num_ok 0 _ _ (g3 k hk))) (rp_end 0 f x _) 0 (Nat.zero_le _)
          have f0 : ¬ (if ¬ x.B.size = 0 ∧ f.bytes = false then (14 : Int) else if x.B.size > 65536 then 4 else if 0 < x.L.length ∧ f.list = 0 then 14 else if x.L.length > 65536 then 4 else match idxD (errL 0 f.list) x.L with
            | some i => (putD 0 f.list (nth x.L i)).2
            | none => 0) = 0 := f0
          show Pu 12 [i64 0, fmA f, flA x] (putR (eB, if ¬ x.B.size = 0 ∧ f.bytes = false then (14 : Int) else if x.B.size > 65536 then 4 else if 0 < x.L.length ∧ f.list = 0 then 14 else if x.L.length > 65536 then 4 else match idxD (errL 0 f.list) x.L with
            | some i => (putD 0 f.list (nth x.L i)).2
            | none => 0))
          by_cases hb : ¬ x.B.size = 0 ∧ f.bytes = false
          · rw [if_pos hb]
            exact rpe_byt0 f x hc hl _ LN hb.2 (ba_ne hb.1)
          rw [if_neg hb] at f0 ⊢
          have hb2 : f.bytes = true ∨ (f.bytes = false ∧ x.B.size = 0) := by
            cases h : f.bytes with
            | true => exact .inl rfl
            | false =>
              right
              refine ⟨rfl, ?_⟩
              by_cases e : x.B.size = 0
              · exact e
              · exact absurd ⟨e, h⟩ hb
          by_cases hs : x.B.size > 65536
          · rw [if_pos hs]
            rcases hb2 with q | q
            · exact rpe_big0 f x hc hl _ LN q hs
            · omega
          rw [if_neg hs] at f0 ⊢
          by_cases hL : 0 < x.L.length ∧ f.list = 0
          · rw [if_pos hL]
            rcases hb2 with q | q
            · exact rpe_lst10 f x hc hl _ LN q hs hL.2 hL.1
            · exact rpe_lst00 f x hc hl _ LN q.1 (ba_nil q.2) hs hL.2 hL.1
          rw [if_neg hL] at f0 ⊢
          by_cases h6 : x.L.length > 65536
          · rw [if_pos h6]
            have h0 : ¬ f.list = 0 := fun e => hL ⟨by omega, e⟩
            rcases hb2 with q | q
            · exact rpe_lng10 f x hc hl _ LN q hs h0 h6
            · exact rpe_lng00 f x hc hl _ LN q.1 (ba_nil q.2) hs h0 h6
          rw [if_neg h6] at f0 ⊢
          cases hj : idxD (errL 0 f.list) x.L with
          | none => rw [hj] at f0; exact absurd rfl f0
          | some j =>
            obtain ⟨g1, g2, g4⟩ := idx_some hj
            have h0 : ¬ f.list = 0 := fun e => hL ⟨by omega, e⟩
            have hzl := hlz.resolve_left h0
            have hf := (fit_ok 0 f.list (nth x.L j) ho hzl).resolve_left (fun q => errL_t g2 q.1)
            have L : LoopT C1 rlB (rlS 0 f x 0 (catP 0 f.fixed x.N x.N.length)) .ret rpH := LoopT.count (fun k => rlS 0 f x k (catP 0 f.fixed x.N x.N.length)) j (fun k hk => by
              have z := errL_f (g4 k hk)
              have hf := (fit_ok 0 f.list (nth x.L k) ho hzl).resolve_right (fun q => by rw [z] at q; exact absurd q.1 (by decide))
              exact rl_step 0 f x k _ (by omega) (by omega) hf.2) (rl_hit 0 f x j _ g1 (by omega) hf.2) 0 (Nat.zero_le _)
            show Pu 12 [i64 0, fmA f, flA x] (putR (eB, (putD 0 f.list (nth x.L j)).2))
            rw [hf.1]
            rcases hb2 with q | q
            · exact rpe_row10 f x hc hl _ LN q hs h0 h6 L
            · exact rpe_row00 f x hc hl _ LN q.1 (ba_nil q.2) hs h0 h6 L
      · rw [if_pos hl]
        exact rpe_len0 f x hc hl
  · rw [if_pos k0]
    exact rpe_chk0 f x _ k0 hc
theorem rput_1 (f : Fm) (x : Fl) : Pu 12 [i64 1, fmA f, flA x] (putR (putF 1 f x)) := by
  have ho : (1 : Int) = 0 ∨ (1 : Int) = 1 := by omega
  have hc := rc_ok f
  have ek : knoD 1 f = checkD f := rfl
  unfold putF
  rw [ek]
  by_cases k0 : checkD f = 0
  · rw [if_neg (fun q => q k0)]
    obtain ⟨_, h16, hz, hlz⟩ := kno_zero (ek.trans k0)
    rw [k0] at hc
    by_cases f0 : fitsD 1 f x = 0
    · rw [if_neg (fun q => q f0)]
      have F := fits_zero f0
      have hl := F.len
      have hB := F.big
      have hL := F.lng
      have cs := catP_size F x.N.length (Nat.le_refl _)
      have cl := catL_size F x.L.length (Nat.le_refl _)
      have LN := LoopT.count (fun k => rpS 1 f x k (catP 1 f.fixed x.N k)) x.N.length (fun k hk => by
        have hc := catP_size F k (by omega)
        have hs := put_sz (F.num k hk)
        have hf := (fit_ok 1 (nth f.fixed k) (nth x.N k) ho hs.2.2.2.2).resolve_right (fun q => by rw [F.num k hk] at q; exact absurd q.1 (by decide))
        exact rp_step 1 f x k _ _ hk hl h16 (by omega) (by omega) hf.2 (num_ok 1 _ _ (F.num k hk))) (rp_end 1 f x _) 0 (Nat.zero_le _)
      have fs := fillB_size
      have f1 := rfill_ok (catP 1 f.fixed x.N x.N.length) (by omega)
      have b1 := fs (catP 1 f.fixed x.N x.N.length)
      have b2 := fs x.B
      have b3 := fs (catL 1 f.list x.L x.L.length)
      have n4 := num_ok 1 4 x.B.size (put4 1 x.B.size ho hB)
      have n5 := num_ok 1 4 x.L.length (put4 1 x.L.length ho hL)
      obtain ⟨s4, _⟩ := num4_ok 1 x.B.size ho hB
      obtain ⟨s5, _⟩ := num4_ok 1 x.L.length ho hL
      have f2 := rfill_ok x.B (by omega)
      have f3 := rfill_ok (catL 1 f.list x.L x.L.length) (by omega)
      have eBy : ∀ b : ByteArray, fillB (num4 1 x.B.size ++ b) = num4 1 x.B.size ++ fillB b := fun b => fillB_app _ _ (by omega)
      have eLy : ∀ b : ByteArray, fillB (num4 1 x.L.length ++ b) = num4 1 x.L.length ++ fillB b := fun b => fillB_app _ _ (by omega)
      have fin : ∀ b : ByteArray, b = encD 1 f x → (b.size > 65536 → Pu 12 [i64 1, fmA f, flA x] (.tup [st ⟨#[]⟩, i64 4])) → (¬ b.size > 65536 → Pu 12 [i64 1, fmA f, flA x] (.tup [st b, i64 0])) → Pu 12 [i64 1, fmA f, flA x] (putR (if (encD 1 f x).size > 65536 then (eB, 4) else (encD 1 f x, 0))) := by
        intro b e p q
        subst e
        by_cases h : (encD 1 f x).size > 65536
        · rw [if_pos h]; exact p h
        · rw [if_neg h]; exact q h
      have LL : LoopT C1 rlB (rlS 1 f x 0 (catP 1 f.fixed x.N x.N.length)) (.exit 2) (rlS 1 f x x.L.length (catP 1 f.fixed x.N x.N.length)) := LoopT.count (fun k => rlS 1 f x k (catP 1 f.fixed x.N x.N.length)) x.L.length (fun k hk => by
        have hs := put_sz (F.row k hk)
        have hf := (fit_ok 1 f.list (nth x.L k) ho hs.2.2.2.2).resolve_right (fun q => by rw [F.row k hk] at q; exact absurd q.1 (by decide))
        exact rl_step 1 f x k _ hk hL hf.2) (rl_end 1 f x _) 0 (Nat.zero_le _)
      by_cases hl0 : f.list = 0
      · have h0L : ¬ 0 < x.L.length := by
          rcases F.lst with q | q
          · omega
          · exact absurd hl0 q
        cases hb : f.bytes with
        | true =>
          have en : ((fillB (catP 1 f.fixed x.N x.N.length) ++ num4 1 x.B.size) ++ fillB x.B) = encD 1 f x := by
            unfold encD
            rw [hb, if_pos rfl, if_pos hl0, app_e, eBy, app_assoc]
          exact fin _ en (fun h => rpe_ok10x1 f x hc hl _ LN hb (by omega) hl0 h0L LL _ (by omega) f1 _ _ s4 (by omega) n4 f2 h) (fun h => rpe_ok10_1 f x hc hl _ LN hb (by omega) hl0 h0L LL _ (by omega) f1 _ _ s4 (by omega) n4 f2 h)
        | false =>
          have hB0 : x.B.size = 0 := by rcases F.byt with q | q; exact q; rw [hb] at q; cases q
          have en : fillB (catP 1 f.fixed x.N x.N.length) = encD 1 f x := by
            unfold encD
            rw [hb, if_neg (by simp), if_pos hl0, app_e, app_e]
          exact fin _ en (fun h => by omega) (fun h => rpe_ok00_1 f x hc hl _ LN hb (ba_nil hB0) (by omega) hl0 h0L LL _ (by omega) f1 h)
      · have hzl := hlz.resolve_left hl0
        have hr := row_ok F hzl
        cases hb : f.bytes with
        | true =>
          have en : ((((fillB (catP 1 f.fixed x.N x.N.length) ++ num4 1 x.B.size) ++ fillB x.B) ++ num4 1 x.L.length) ++ fillB (catL 1 f.list x.L x.L.length)) = encD 1 f x := by
            unfold encD
            rw [hb, if_pos rfl, if_neg hl0, eBy, eLy]
            simp only [app_assoc]
          exact fin _ en (fun h => rpe_ok11x1 f x hc hl _ LN hb (by omega) hl0 (by omega) LL _ (by omega) f1 _ _ s4 (by omega) n4 f2 _ _ _ s5 (by omega) n5 hr f3 h) (fun h => rpe_ok11_1 f x hc hl _ LN hb (by omega) hl0 (by omega) LL _ (by omega) f1 _ _ s4 (by omega) n4 f2 _ _ _ s5 (by omega) n5 hr f3 h)
        | false =>
          have hB0 : x.B.size = 0 := by rcases F.byt with q | q; exact q; rw [hb] at q; cases q
          have en : ((fillB (catP 1 f.fixed x.N x.N.length) ++ num4 1 x.L.length) ++ fillB (catL 1 f.list x.L x.L.length)) = encD 1 f x := by
            unfold encD
            rw [hb, if_neg (by simp), if_neg hl0, app_e, eLy, app_assoc]
          exact fin _ en (fun h => rpe_ok01x1 f x hc hl _ LN hb (ba_nil hB0) (by omega) hl0 (by omega) LL _ (by omega) f1 _ _ _ s5 (by omega) n5 hr f3 h) (fun h => rpe_ok01_1 f x hc hl _ LN hb (ba_nil hB0) (by omega) hl0 (by omega) LL _ (by omega) f1 _ _ _ s5 (by omega) n5 hr f3 h)
    · rw [if_pos f0]
      unfold fitsD at f0 ⊢
      by_cases hl : x.N.length = f.fixed.length
      · rw [if_neg (fun q => q hl)] at f0 ⊢
        cases hi : idxD (errN 1 f x) (List.range x.N.length) with
        | some i =>
          obtain ⟨h1, h2, h3⟩ := idx_some hi
          rw [List.length_range] at h1
          rw [nth_range _ _ h1] at h2
          have he : ¬ (putD 1 (nth f.fixed i) (nth x.N i)).2 = 0 := by unfold errN at h2; simpa using h2
          have g3 : ∀ k, k < i → (putD 1 (nth f.fixed k) (nth x.N k)).2 = 0 := fun k hk => by
            have := h3 k hk
            rw [nth_range _ _ (by omega)] at this
            unfold errN at this
            simpa using this
          have hf := (fit_ok 1 (nth f.fixed i) (nth x.N i) ho (hz i (by omega))).resolve_left (fun q => he q.1)
          have L := LoopT.count (fun k => rpS 1 f x k (catP 1 f.fixed x.N k)) i (fun k hk => by
            have hc := catP_sz k (fun j hj => g3 j (by omega))
            have hs := put_sz (g3 k hk)
            have hf := (fit_ok 1 (nth f.fixed k) (nth x.N k) ho hs.2.2.2.2).resolve_right (fun q => by rw [g3 k hk] at q; exact absurd q.1 (by decide))
            exact rp_step 1 f x k _ _ (by omega) hl h16 (by omega) (by omega) hf.2 (num_ok 1 _ _ (g3 k hk))) (rp_hit 1 f x i _ h1 hl h16 hf.2) 0 (Nat.zero_le _)
          show Pu 12 [i64 1, fmA f, flA x] (putR (eB, (putD 1 (nth f.fixed i) (nth x.N i)).2))
          rw [hf.1]
          exact rpe_num1 f x hc hl L
        | none =>
          rw [hi] at f0
          have g3 : ∀ k, k < x.N.length → (putD 1 (nth f.fixed k) (nth x.N k)).2 = 0 := fun k hk => by
            have := idx_none hi k (by rw [List.length_range]; exact hk)
            rw [nth_range _ _ hk] at this
            unfold errN at this
            simpa using this
          have LN := LoopT.count (fun k => rpS 1 f x k (catP 1 f.fixed x.N k)) x.N.length (fun k hk => by
            have hc := catP_sz k (fun j hj => g3 j (by omega))
            have hs := put_sz (g3 k hk)
            have hf := (fit_ok 1 (nth f.fixed k) (nth x.N k) ho hs.2.2.2.2).resolve_right (fun q => by rw [g3 k hk] at q; exact absurd q.1 (by decide))
            exact rp_step 1 f x k _ _ hk hl h16 (by omega) (by omega) hf.2 (num_ok 1 _ _ (g3 k hk))) (rp_end 1 f x _) 0 (Nat.zero_le _)
          have f0 : ¬ (if ¬ x.B.size = 0 ∧ f.bytes = false then (14 : Int) else if x.B.size > 65536 then 4 else if 0 < x.L.length ∧ f.list = 0 then 14 else if x.L.length > 65536 then 4 else match idxD (errL 1 f.list) x.L with
            | some i => (putD 1 f.list (nth x.L i)).2
            | none => 0) = 0 := f0
          show Pu 12 [i64 1, fmA f, flA x] (putR (eB, if ¬ x.B.size = 0 ∧ f.bytes = false then (14 : Int) else if x.B.size > 65536 then 4 else if 0 < x.L.length ∧ f.list = 0 then 14 else if x.L.length > 65536 then 4 else match idxD (errL 1 f.list) x.L with
            | some i => (putD 1 f.list (nth x.L i)).2
            | none => 0))
          by_cases hb : ¬ x.B.size = 0 ∧ f.bytes = false
          · rw [if_pos hb]
            exact rpe_byt1 f x hc hl _ LN hb.2 (ba_ne hb.1)
          rw [if_neg hb] at f0 ⊢
          have hb2 : f.bytes = true ∨ (f.bytes = false ∧ x.B.size = 0) := by
            cases h : f.bytes with
            | true => exact .inl rfl
            | false =>
              right
              refine ⟨rfl, ?_⟩
              by_cases e : x.B.size = 0
              · exact e
              · exact absurd ⟨e, h⟩ hb
          by_cases hs : x.B.size > 65536
          · rw [if_pos hs]
            rcases hb2 with q | q
            · exact rpe_big1 f x hc hl _ LN q hs
            · omega
          rw [if_neg hs] at f0 ⊢
          by_cases hL : 0 < x.L.length ∧ f.list = 0
          · rw [if_pos hL]
            rcases hb2 with q | q
            · exact rpe_lst11 f x hc hl _ LN q hs hL.2 hL.1
            · exact rpe_lst01 f x hc hl _ LN q.1 (ba_nil q.2) hs hL.2 hL.1
          rw [if_neg hL] at f0 ⊢
          by_cases h6 : x.L.length > 65536
          · rw [if_pos h6]
            have h0 : ¬ f.list = 0 := fun e => hL ⟨by omega, e⟩
            rcases hb2 with q | q
            · exact rpe_lng11 f x hc hl _ LN q hs h0 h6
            · exact rpe_lng01 f x hc hl _ LN q.1 (ba_nil q.2) hs h0 h6
          rw [if_neg h6] at f0 ⊢
          cases hj : idxD (errL 1 f.list) x.L with
          | none => rw [hj] at f0; exact absurd rfl f0
          | some j =>
            obtain ⟨g1, g2, g4⟩ := idx_some hj
            have h0 : ¬ f.list = 0 := fun e => hL ⟨by omega, e⟩
            have hzl := hlz.resolve_left h0
            have hf := (fit_ok 1 f.list (nth x.L j) ho hzl).resolve_left (fun q => errL_t g2 q.1)
            have L : LoopT C1 rlB (rlS 1 f x 0 (catP 1 f.fixed x.N x.N.length)) .ret rpH := LoopT.count (fun k => rlS 1 f x k (catP 1 f.fixed x.N x.N.length)) j (fun k hk => by
              have z := errL_f (g4 k hk)
              have hf := (fit_ok 1 f.list (nth x.L k) ho hzl).resolve_right (fun q => by rw [z] at q; exact absurd q.1 (by decide))
              exact rl_step 1 f x k _ (by omega) (by omega) hf.2) (rl_hit 1 f x j _ g1 (by omega) hf.2) 0 (Nat.zero_le _)
            show Pu 12 [i64 1, fmA f, flA x] (putR (eB, (putD 1 f.list (nth x.L j)).2))
            rw [hf.1]
            rcases hb2 with q | q
            · exact rpe_row11 f x hc hl _ LN q hs h0 h6 L
            · exact rpe_row01 f x hc hl _ LN q.1 (ba_nil q.2) hs h0 h6 L
      · rw [if_pos hl]
        exact rpe_len1 f x hc hl
  · rw [if_pos k0]
    exact rpe_chk1 f x _ k0 hc
theorem rput_ok (o : Int) (f : Fm) (x : Fl) : Pu 12 [i64 o, fmA f, flA x] (putR (putF o f x)) := by
  by_cases h0 : o = 0
  · subst h0; exact rput_0 f x
  by_cases h1 : o = 1
  · subst h1; exact rput_1 f x
  · have : putF o f x = (eB, 10) := by
      have hk : knoD o f = 10 := by unfold knoD; rw [if_neg (by omega)]
      unfold putF
      rw [hk, if_pos (by decide)]
    rw [this]
    exact rpe_odd o f x h0 h1
end Go.Proofs.YtjgjcpbkmeillaaDoor
