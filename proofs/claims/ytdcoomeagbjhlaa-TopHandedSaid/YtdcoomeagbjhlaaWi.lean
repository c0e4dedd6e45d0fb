/- Handed over: a round, joined. By the prover of this seat. -/
import Derived.Test.YtdcoomeagbjhlaaWh
set_option linter.unusedVariables false
set_option linter.unusedSimpArgs false
set_option maxRecDepth 100000
set_option maxHeartbeats 4000000
namespace Go.Proofs.Ytdcoomeagbjhlaa
open Go.RowKit Go.Pm
open Go.Proofs.Ytdcoomeagbjhlaa.Cl (Tab tabA setA convA slS TOk setD convD dropT)
theorem take_st (d : List Int) (m k : Nat) : (takeAt d m k).state ≤ 2 := by
  unfold takeAt
  split
  · show (0 : Int) ≤ 2
    omega
  · split
    · exact Int.le_refl 2
    · split
      · exact Int.le_refl 2
      · show (1 : Int) ≤ 2
        omega
def Fin (d : List Int) (l : List Prp) (t : Tab) (g : Give) (k : Take) (dd : Bool) (s3 : Hs) : Prop :=
  (¬ k.state = 3 ∧ Pu 10 [A (hsL ⟨l, t, g, k, dd⟩)] (.tup [A (hsL s3), bl true]) ∧ s3.k.data.length ≤ 3000 ∧ ((s3.k.state = 2 ∧ s3.k.data = d ∧ Pu 11 [A (giveL s3.g)] (bl true)) ∨ (s3.k.state < 2 ∧ Pu 11 [A (giveL s3.g)] (bl false)))) ∨ (k.state = 3 ∧ k.data = [] ∧ dd = true ∧ s3 = ⟨l, t, g, k, dd⟩)
theorem fin_go (d : List Int) (hb : ∀ n ∈ d, 0 ≤ n ∧ n ≤ 4294967295) (hd : d.length ≤ 2000) (m k : Nat) (m0 : 1 ≤ m) (m1 : m ≤ 1000) (hk : k < (allD d m).length) (ti : Option (List Int)) (f : Bool) (t : Tab) (dd : Bool) :
    Fin d (mkL ti (some (codeD (nth (allD d m) k))) f) t (gvAt d m k) (takeAt d m k) dd ⟨mkL ti none f, t, gvAt d m (k + 1), takeAt d m (k + 1), dd⟩ := by
  have hN := all_le (d := d) m0
  have h4 : ¬ kindD (nth (allD d m) k) = 4 := by rw [kind_all hb m0 (by omega) (by omega) hk]; split <;> (try split) <;> (try split) <;> omega
  have gd := code_good h4
  have hs := take_st d m k
  have ha := all_data (d := d) (m := m) hk
  have hl1 := take_len d m k
  have hl2 := take_len d m (k + 1)
  have r1 := get_tr ti (codeD (nth (allD d m) k)) f gd.len
  have r2 := read_ok (codeD (nth (allD d m) k)) (Nat.le_trans gd.len (by omega))
  rw [read_code _ h4] at r2
  have r3 := got_ok (takeAt d m k) (nth (allD d m) k) (by omega) (by omega)
  rw [got_all hb m0 (by omega) (by omega) hk] at r3
  have r4 := gone_ok (gvAt d m k) (gv_at m0 (by omega) (by omega) (by omega))
  rw [gone_at m0 hk] at r4
  have r5 := done_ok (gvAt d m (k + 1)) (gv_at m0 (by omega) (by omega) (by omega))
  rw [done_at m0] at r5
  refine .inl ⟨by omega, rd_some _ _ t _ _ _ _ dd _ _ r1 r2 r3 r4, by show (takeAt d m (k + 1)).data.length ≤ 3000; omega, ?_⟩
  by_cases e : k + 1 = (allD d m).length
  · rw [decide_eq_true (by omega)] at r5
    have te := take_end d m m0
    rw [← e] at te
    exact .inl ⟨te.2, te.1, r5⟩
  · rw [decide_eq_false (by omega)] at r5
    have tm := take_mid (d := d) (k := k + 1) m0 (by omega)
    have ts := take_st d m (k + 1)
    exact .inr ⟨by show (takeAt d m (k + 1)).state < 2; omega, r5⟩
theorem fin_end (d : List Int) (hd : d.length ≤ 2000) (m : Nat) (m0 : 1 ≤ m) (m1 : m ≤ 1000) (ti : Option (List Int)) (f : Bool) (t : Tab) (dd : Bool) :
    Fin d (mkL ti none f) t (gvAt d m (allD d m).length) (takeAt d m (allD d m).length) dd ⟨mkL ti none f, t, gvAt d m (allD d m).length, takeAt d m (allD d m).length, dd⟩ := by
  have hN := all_le (d := d) m0
  have hs := take_st d m (allD d m).length
  have hl1 := take_len d m (allD d m).length
  have hm := mk_len ti none f
  have r5 := done_ok (gvAt d m (allD d m).length) (gv_at m0 (by omega) (by omega) (by omega))
  rw [done_at m0, decide_eq_true (Nat.le_refl _)] at r5
  have te := take_end d m m0
  exact .inl ⟨by omega, rd_none _ t _ _ dd (by omega) (mk_no9 ti f), by show (takeAt d m (allD d m).length).data.length ≤ 3000; omega, .inl ⟨te.2, te.1, r5⟩⟩
theorem ho_am (ns d : List Int) (m : Int) (ms : List Mw) (i Q : Nat) (hn : ns.length ≤ 2000) (hd : d.length ≤ 2000) (hms : ms.length ≤ 60) (m0 : 1 ≤ m) (m1 : m ≤ 1000) (hQ : (ns.length : Int).tdiv m = Q) (hQ1 : Q ≤ 2000) (hi : i < 4 + Q + ms.length) (l0 : List Prp) (t0 : Tab) (g0 : Give) (k0 : Take) (l1 : List Prp) (hw : Pu 7 [A (hsL ⟨l0, t0, g0, k0, false⟩)] (.tup [A (hsL ⟨l1, t0, g0, k0, false⟩), bl true])) (hi2 : i < ms.length) (l2 : List Prp) (t2 : Tab) (g2 : Give) (k2 : Take) (d2 : Bool) (hb : Pu 8 [A (hsL ⟨l1, t0, g0, k0, false⟩), A (mwL (nth ms i))] (A (hsL ⟨l2, t2, g2, k2, d2⟩))) (hk : k2.data.length ≤ 3000) (s3 : Hs) (hf : Fin d l2 t2 g2 k2 d2 s3) : Tri C0 hoB (hoS ns d m ms ⟨l0, t0, g0, k0, false⟩ i) .normal (hoS ns d m ms s3 (i + 1)) := by
  rcases hf with ⟨h3, hr, hk3, ⟨hs, he, hdn⟩ | ⟨hs, hdn⟩⟩ | ⟨h3, he, hdd, rfl⟩
  · obtain ⟨l3, t3, g3, k3, d3⟩ := s3
    exact ho_am2 ns d m ms i Q hn hd hms m0 m1 hQ hQ1 hi l0 t0 g0 k0 l1 hw hi2 l2 t2 g2 k2 d2 hb hk h3 l3 t3 g3 k3 d3 hr hk3 hs he hdn
  · obtain ⟨l3, t3, g3, k3, d3⟩ := s3
    exact ho_am1 ns d m ms i Q hn hd hms m0 m1 hQ hQ1 hi l0 t0 g0 k0 l1 hw hi2 l2 t2 g2 k2 d2 hb hk h3 l3 t3 g3 k3 d3 hr hk3 hs hdn
  · exact ho_am3 ns d m ms i Q hn hd hms m0 m1 hQ hQ1 hi l0 t0 g0 k0 l1 hw hi2 l2 t2 g2 k2 d2 hb hk h3 he hdd
theorem ho_ae (ns d : List Int) (m : Int) (ms : List Mw) (i Q : Nat) (hn : ns.length ≤ 2000) (hd : d.length ≤ 2000) (hms : ms.length ≤ 60) (m0 : 1 ≤ m) (m1 : m ≤ 1000) (hQ : (ns.length : Int).tdiv m = Q) (hQ1 : Q ≤ 2000) (hi : i < 4 + Q + ms.length) (l0 : List Prp) (t0 : Tab) (g0 : Give) (k0 : Take) (l1 : List Prp) (hw : Pu 7 [A (hsL ⟨l0, t0, g0, k0, false⟩)] (.tup [A (hsL ⟨l1, t0, g0, k0, false⟩), bl true])) (hi2 : ¬ i < ms.length) (hk : k0.data.length ≤ 3000) (s3 : Hs) (hf : Fin d l1 t0 g0 k0 false s3) : Tri C0 hoB (hoS ns d m ms ⟨l0, t0, g0, k0, false⟩ i) .normal (hoS ns d m ms s3 (i + 1)) := by
  rcases hf with ⟨h3, hr, hk3, ⟨hs, he, hdn⟩ | ⟨hs, hdn⟩⟩ | ⟨h3, he, hdd, rfl⟩
  · obtain ⟨l3, t3, g3, k3, d3⟩ := s3
    exact ho_ae2 ns d m ms i Q hn hd hms m0 m1 hQ hQ1 hi l0 t0 g0 k0 l1 hw hi2 hk h3 l3 t3 g3 k3 d3 hr hk3 hs he hdn
  · obtain ⟨l3, t3, g3, k3, d3⟩ := s3
    exact ho_ae1 ns d m ms i Q hn hd hms m0 m1 hQ hQ1 hi l0 t0 g0 k0 l1 hw hi2 hk h3 l3 t3 g3 k3 d3 hr hk3 hs hdn
  · exact ho_ae3 ns d m ms i Q hn hd hms m0 m1 hQ hQ1 hi l0 t0 g0 k0 l1 hw hi2 hk h3 he hdd
theorem ho_dm (ns d : List Int) (m : Int) (ms : List Mw) (i Q : Nat) (hn : ns.length ≤ 2000) (hd : d.length ≤ 2000) (hms : ms.length ≤ 60) (m0 : 1 ≤ m) (m1 : m ≤ 1000) (hQ : (ns.length : Int).tdiv m = Q) (hQ1 : Q ≤ 2000) (hi : i < 4 + Q + ms.length) (l0 : List Prp) (t0 : Tab) (g0 : Give) (k0 : Take) (hi2 : i < ms.length) (l2 : List Prp) (t2 : Tab) (g2 : Give) (k2 : Take) (d2 : Bool) (hb : Pu 8 [A (hsL ⟨l0, t0, g0, k0, true⟩), A (mwL (nth ms i))] (A (hsL ⟨l2, t2, g2, k2, d2⟩))) (hk : k2.data.length ≤ 3000) (s3 : Hs) (hf : Fin d l2 t2 g2 k2 d2 s3) : Tri C0 hoB (hoS ns d m ms ⟨l0, t0, g0, k0, true⟩ i) .normal (hoS ns d m ms s3 (i + 1)) := by
  rcases hf with ⟨h3, hr, hk3, ⟨hs, he, hdn⟩ | ⟨hs, hdn⟩⟩ | ⟨h3, he, hdd, rfl⟩
  · obtain ⟨l3, t3, g3, k3, d3⟩ := s3
    exact ho_dm2 ns d m ms i Q hn hd hms m0 m1 hQ hQ1 hi l0 t0 g0 k0 hi2 l2 t2 g2 k2 d2 hb hk h3 l3 t3 g3 k3 d3 hr hk3 hs he hdn
  · obtain ⟨l3, t3, g3, k3, d3⟩ := s3
    exact ho_dm1 ns d m ms i Q hn hd hms m0 m1 hQ hQ1 hi l0 t0 g0 k0 hi2 l2 t2 g2 k2 d2 hb hk h3 l3 t3 g3 k3 d3 hr hk3 hs hdn
  · exact ho_dm3 ns d m ms i Q hn hd hms m0 m1 hQ hQ1 hi l0 t0 g0 k0 hi2 l2 t2 g2 k2 d2 hb hk h3 he hdd
theorem ho_de (ns d : List Int) (m : Int) (ms : List Mw) (i Q : Nat) (hn : ns.length ≤ 2000) (hd : d.length ≤ 2000) (hms : ms.length ≤ 60) (m0 : 1 ≤ m) (m1 : m ≤ 1000) (hQ : (ns.length : Int).tdiv m = Q) (hQ1 : Q ≤ 2000) (hi : i < 4 + Q + ms.length) (l0 : List Prp) (t0 : Tab) (g0 : Give) (k0 : Take) (hi2 : ¬ i < ms.length) (hk : k0.data.length ≤ 3000) (s3 : Hs) (hf : Fin d l0 t0 g0 k0 true s3) : Tri C0 hoB (hoS ns d m ms ⟨l0, t0, g0, k0, true⟩ i) .normal (hoS ns d m ms s3 (i + 1)) := by
  rcases hf with ⟨h3, hr, hk3, ⟨hs, he, hdn⟩ | ⟨hs, hdn⟩⟩ | ⟨h3, he, hdd, rfl⟩
  · obtain ⟨l3, t3, g3, k3, d3⟩ := s3
    exact ho_de2 ns d m ms i Q hn hd hms m0 m1 hQ hQ1 hi l0 t0 g0 k0 hi2 hk h3 l3 t3 g3 k3 d3 hr hk3 hs he hdn
  · obtain ⟨l3, t3, g3, k3, d3⟩ := s3
    exact ho_de1 ns d m ms i Q hn hd hms m0 m1 hQ hQ1 hi l0 t0 g0 k0 hi2 hk h3 l3 t3 g3 k3 d3 hr hk3 hs hdn
  · exact ho_de3 ns d m ms i Q hn hd hms m0 m1 hQ hQ1 hi l0 t0 g0 k0 hi2 hk h3 he hdd
/-- what holds ahead of a round -/
def Ok (d : List Int) (m i : Nat) (s : Hs) : Prop :=
  ∃ ti tr f t g tk dd, s = ⟨mkL ti tr f, t, g, tk, dd⟩ ∧ tiN ti ≤ i ∧ TOk t ∧ t.c.length ≤ i + 2 ∧
    ((dd = false ∧ tr = none ∧ g = gvAt d m (min i (allD d m).length) ∧ tk = takeAt d m (min i (allD d m).length) ∧ t.q = tb2.q) ∨ (dd = true ∧ tr = none ∧ g = gvAt d m (allD d m).length ∧ tk = takeAt d m (allD d m).length) ∨ (dd = true ∧ tk = ⟨[], 0, 3⟩))
theorem may_q {t : Tab} (ht : TOk t) (hq : t.q = tb2.q) : Pu 27 [tabA t, i64 1, u32 2097153] (bl true) := by
  have h := Cl.may_ok t 1 2097153 (Nat.le_trans ht.room (by omega))
  rw [show (idxD (Cl.mayD 1 2097153) t.q).isSome = true by rw [hq]; decide] at h
  exact h
/-- one of the dead's rounds -/
theorem round_dead (ns d : List Int) (m : Nat) (ms : List Mw) (i Q : Nat) (hn : ns.length ≤ 2000) (hd : d.length ≤ 2000) (hms : ms.length ≤ 60) (m0 : 1 ≤ m) (m1 : m ≤ 1000) (hQ : (ns.length : Int).tdiv (m : Int) = Q) (hQ1 : Q ≤ 400) (hi : i < 4 + Q + ms.length) (hM : ∀ w ∈ ms, MOk w)
    (ti tr : Option (List Int)) (f : Bool) (t : Tab) (g : Give) (tk : Take) (hti : tiN ti ≤ i) (ht : TOk t) (hc : t.c.length ≤ i + 2) (h : (tr = none ∧ g = gvAt d m (allD d m).length ∧ tk = takeAt d m (allD d m).length) ∨ tk = ⟨[], 0, 3⟩) :
    ∃ s', Tri C0 hoB (hoS ns d m ms ⟨mkL ti tr f, t, g, tk, true⟩ i) .normal (hoS ns d m ms s' (i + 1)) ∧ Ok d m (i + 1) s' := by
  have hl1 := take_len d m (allD d m).length
  have hk : tk.data.length ≤ 3000 := by
    rcases h with ⟨_, _, rfl⟩ | rfl
    · omega
    · simp
  have hfin : ∀ ti f t, (∃ s3, Fin d (mkL ti tr f) t g tk true s3 ∧ s3 = ⟨mkL ti tr f, t, g, tk, true⟩) := fun ti f t => by
    rcases h with ⟨rfl, rfl, rfl⟩ | rfl
    · exact ⟨_, fin_end d hd m m0 m1 ti f t true, rfl⟩
    · exact ⟨_, .inr ⟨rfl, rfl, rfl, rfl⟩, rfl⟩
  by_cases hi2 : i < ms.length
  · obtain ⟨ti', f', t', k', dd', b1, b2, b3, b4, b5⟩ := between_ok ti tr f t g tk true (nth ms i) i (hM _ (nth_mem hi2)) (by omega) ht hc hti (fun z => by cases z)
    rcases b5 with ⟨rfl, rfl, _⟩ | ⟨z, _⟩
    · obtain ⟨s3, f1, f2⟩ := hfin ti' f' t'
      refine ⟨s3, ho_dm ns d m ms i Q hn hd hms (by omega) (by omega) hQ (by omega) hi _ t g _ hi2 _ t' g _ true b1 hk s3 f1, ?_⟩
      exact ⟨ti', tr, f', t', g, k', true, f2, b2, b3, b4, .inr (h.imp (fun q => ⟨rfl, q.1, q.2.1, q.2.2⟩) (fun q => ⟨rfl, q⟩))⟩
    · cases z
  · obtain ⟨s3, f1, f2⟩ := hfin ti f t
    refine ⟨s3, ho_de ns d m ms i Q hn hd hms (by omega) (by omega) hQ (by omega) hi _ t g _ hi2 hk s3 f1, ?_⟩
    exact ⟨ti, tr, f, t, g, tk, true, f2, by omega, ht, by omega, .inr (h.imp (fun q => ⟨rfl, q.1, q.2.1, q.2.2⟩) (fun q => ⟨rfl, q⟩))⟩
theorem refused_end {d : List Int} {m : Nat} (m0 : 1 ≤ m) : refusedD (takeAt d m (allD d m).length) = takeAt d m (allD d m).length := if_pos (take_end d m m0).2
theorem refused_mid {d : List Int} {m k : Nat} (m0 : 1 ≤ m) (hk : k < (allD d m).length) : refusedD (takeAt d m k) = ⟨[], 0, 3⟩ := if_neg (take_mid m0 hk)
/-- one of the living's rounds -/
theorem round_live (ns d : List Int) (hb : ∀ n ∈ d, 0 ≤ n ∧ n ≤ 4294967295) (m : Nat) (ms : List Mw) (i Q : Nat) (hn : ns.length ≤ 2000) (hd : d.length ≤ 2000) (hms : ms.length ≤ 60) (m0 : 1 ≤ m) (m1 : m ≤ 1000) (hQ : (ns.length : Int).tdiv (m : Int) = Q) (hQ1 : Q ≤ 400) (hi : i < 4 + Q + ms.length) (hM : ∀ w ∈ ms, MOk w)
    (ti : Option (List Int)) (f : Bool) (t : Tab) (hti : tiN ti ≤ i) (ht : TOk t) (hc : t.c.length ≤ i + 2) (hq : t.q = tb2.q) :
    ∃ s', Tri C0 hoB (hoS ns d m ms ⟨mkL ti none f, t, gvAt d m (min i (allD d m).length), takeAt d m (min i (allD d m).length), false⟩ i) .normal (hoS ns d m ms s' (i + 1)) ∧ Ok d m (i + 1) s' := by
  have hN := all_le (d := d) m0
  have hl0 := take_len d m (min i (allD d m).length)
  have hml := mk_len ti none f
  have hm := may_q ht hq
  have hp := put_ok (gvAt d m (min i (allD d m).length)) (gv_at m0 (by omega) (by omega) (by omega))
  by_cases hk : i < (allD d m).length
  · rw [show min i (allD d m).length = i by omega] at hp hl0 ⊢
    rw [put_at m0 hk] at hp
    have ha := all_data (d := d) (m := m) hk
    have h4 : ¬ kindD (nth (allD d m) i) = 4 := by rw [kind_all hb m0 (by omega) (by omega) hk]; split <;> (try split) <;> (try split) <;> omega
    have gd := code_good h4
    have hch := change_new (mkL ti none f) 0 ⟨9, 7, 32, codeD (nth (allD d m) i)⟩ (.inl rfl) gd (by omega) (mk_no9 ti f)
    rw [show mkL ti none f ++ [⟨9, 7, 32, codeD (nth (allD d m) i)⟩] = mkL ti (some (codeD (nth (allD d m) i))) true by cases ti <;> cases f <;> rfl] at hch
    have hw := wr_put (mkL ti none f) _ t (gvAt d m i) (takeAt d m i) false _ _ (by omega) (mk_no9 ti f) hm hp (code_ok _ (by omega)) hch
    by_cases hi2 : i < ms.length
    · obtain ⟨ti', f', t', k', dd', b1, b2, b3, b4, b5⟩ := between_ok ti (some (codeD (nth (allD d m) i))) true t (gvAt d m i) (takeAt d m i) false (nth ms i) i (hM _ (nth_mem hi2)) (by omega) ht hc hti (fun _ => hq)
      rcases b5 with ⟨rfl, rfl, b6⟩ | ⟨_, rfl, rfl⟩
      · refine ⟨_, ho_am ns d m ms i Q hn hd hms (by omega) (by omega) hQ (by omega) hi _ t _ _ _ hw hi2 _ t' _ _ false b1 (by omega) _ (fin_go d hb hd m i m0 m1 hk ti' f' t' false), ?_⟩
        exact ⟨ti', none, f', t', _, _, false, rfl, b2, b3, b4, .inl ⟨rfl, rfl, by rw [show min (i + 1) (allD d m).length = i + 1 by omega], by rw [show min (i + 1) (allD d m).length = i + 1 by omega], b6 rfl⟩⟩
      · rw [refused_mid m0 hk] at b1
        refine ⟨_, ho_am ns d m ms i Q hn hd hms (by omega) (by omega) hQ (by omega) hi _ t _ _ _ hw hi2 _ t' _ _ true b1 (by simp) _ (.inr ⟨rfl, rfl, rfl, rfl⟩), ?_⟩
        exact ⟨ti', _, f', t', _, _, true, rfl, b2, b3, b4, .inr (.inr ⟨rfl, rfl⟩)⟩
    · refine ⟨_, ho_ae ns d m ms i Q hn hd hms (by omega) (by omega) hQ (by omega) hi _ t _ _ _ hw hi2 (by omega) _ (fin_go d hb hd m i m0 m1 hk ti true t false), ?_⟩
      exact ⟨ti, none, true, t, _, _, false, rfl, by omega, ht, by omega, .inl ⟨rfl, rfl, by rw [show min (i + 1) (allD d m).length = i + 1 by omega], by rw [show min (i + 1) (allD d m).length = i + 1 by omega], hq⟩⟩
  · rw [show min i (allD d m).length = (allD d m).length by omega] at hp hl0 ⊢
    rw [put_end m0] at hp
    have hw := wr_end (mkL ti none f) t (gvAt d m (allD d m).length) (takeAt d m (allD d m).length) false (by omega) (mk_no9 ti f) hm hp
    by_cases hi2 : i < ms.length
    · obtain ⟨ti', f', t', k', dd', b1, b2, b3, b4, b5⟩ := between_ok ti none f t (gvAt d m (allD d m).length) (takeAt d m (allD d m).length) false (nth ms i) i (hM _ (nth_mem hi2)) (by omega) ht hc hti (fun _ => hq)
      rcases b5 with ⟨rfl, rfl, b6⟩ | ⟨_, rfl, rfl⟩
      · refine ⟨_, ho_am ns d m ms i Q hn hd hms (by omega) (by omega) hQ (by omega) hi _ t _ _ _ hw hi2 _ t' _ _ false b1 (by omega) _ (fin_end d hd m m0 m1 ti' f' t' false), ?_⟩
        exact ⟨ti', none, f', t', _, _, false, rfl, b2, b3, b4, .inl ⟨rfl, rfl, by rw [show min (i + 1) (allD d m).length = (allD d m).length by omega], by rw [show min (i + 1) (allD d m).length = (allD d m).length by omega], b6 rfl⟩⟩
      · rw [refused_end m0] at b1
        refine ⟨_, ho_am ns d m ms i Q hn hd hms (by omega) (by omega) hQ (by omega) hi _ t _ _ _ hw hi2 _ t' _ _ true b1 (by omega) _ (fin_end d hd m m0 m1 ti' f' t' true), ?_⟩
        exact ⟨ti', none, f', t', _, _, true, rfl, b2, b3, b4, .inr (.inl ⟨rfl, rfl, rfl, rfl⟩)⟩
    · refine ⟨_, ho_ae ns d m ms i Q hn hd hms (by omega) (by omega) hQ (by omega) hi _ t _ _ _ hw hi2 (by omega) _ (fin_end d hd m m0 m1 ti f t false), ?_⟩
      exact ⟨ti, none, f, t, _, _, false, rfl, by omega, ht, by omega, .inl ⟨rfl, rfl, by rw [show min (i + 1) (allD d m).length = (allD d m).length by omega], by rw [show min (i + 1) (allD d m).length = (allD d m).length by omega], hq⟩⟩
theorem round_ok (ns d : List Int) (hb : ∀ n ∈ d, 0 ≤ n ∧ n ≤ 4294967295) (m : Nat) (ms : List Mw) (Q : Nat) (hn : ns.length ≤ 2000) (hd : d.length ≤ 2000) (hms : ms.length ≤ 60) (m0 : 1 ≤ m) (m1 : m ≤ 1000) (hQ : (ns.length : Int).tdiv (m : Int) = Q) (hQ1 : Q ≤ 400) (hM : ∀ w ∈ ms, MOk w) (i : Nat) (hi : i < 4 + Q + ms.length) (s : Hs) (h : Ok d m i s) :
    ∃ s', Tri C0 hoB (hoS ns d m ms s i) .normal (hoS ns d m ms s' (i + 1)) ∧ Ok d m (i + 1) s' := by
  obtain ⟨ti, tr, f, t, g, tk, dd, rfl, h1, h2, h3, h4⟩ := h
  rcases h4 with ⟨rfl, rfl, rfl, rfl, hq⟩ | ⟨rfl, h4⟩ | ⟨rfl, h4⟩
  · exact round_live ns d hb m ms i Q hn hd hms m0 m1 hQ hQ1 hi hM ti f t h1 h2 h3 hq
  · exact round_dead ns d m ms i Q hn hd hms m0 m1 hQ hQ1 hi hM ti tr f t g tk h1 h2 h3 (.inl h4)
  · exact round_dead ns d m ms i Q hn hd hms m0 m1 hQ hQ1 hi hM ti tr f t g tk h1 h2 h3 (.inr h4)
theorem rounds {α : Type} (I : Nat → α → Prop) (T : Nat → α → α → Prop) (n : Nat) (hs : ∀ i, i < n → ∀ s, I i s → ∃ s', T i s s' ∧ I (i + 1) s') : ∀ k, k ≤ n → ∀ s, I (n - k) s → ∃ f : Nat → α, f (n - k) = s ∧ (∀ i, n - k ≤ i → i < n → T i (f i) (f (i + 1))) ∧ I n (f n) := by
  intro k
  induction k with
  | zero => intro _ s h; exact ⟨fun _ => s, rfl, fun i h1 h2 => by omega, h⟩
  | succ k ih =>
    intro hk s h
    obtain ⟨s', h1, h2⟩ := hs (n - (k + 1)) (by omega) s h
    rw [show n - (k + 1) + 1 = n - k by omega] at h2
    obtain ⟨f, f0, f1, f2⟩ := ih (by omega) s' h2
    refine ⟨fun i => if i = n - (k + 1) then s else f i, by simp, fun i q1 q2 => ?_, ?_⟩
    · show T i (if i = n - (k + 1) then s else f i) (if i + 1 = n - (k + 1) then s else f (i + 1))
      by_cases e : i = n - (k + 1)
      · subst e
        rw [if_pos rfl, if_neg (by omega), show n - (k + 1) + 1 = n - k by omega, f0]
        exact h1
      · rw [if_neg e, if_neg (by omega)]
        exact f1 i (by omega) q2
    · show I n (if n = n - (k + 1) then s else f n)
      rw [if_neg (by omega)]; exact f2
end Go.Proofs.Ytdcoomeagbjhlaa
