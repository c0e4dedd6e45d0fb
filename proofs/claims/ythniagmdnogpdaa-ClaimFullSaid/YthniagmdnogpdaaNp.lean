/- The laws Gone and Full. By the prover of this seat. -/
import Derived.Test.YthniagmdnogpdaaNo
set_option linter.unusedVariables false
set_option linter.unusedSimpArgs false
set_option maxRecDepth 100000
set_option maxHeartbeats 4000000
namespace Go.Proofs.Ythniagmdnogpdaa
open Go.RowKit Go.Pm
theorem idx_of {α : Type} [Inhabited α] {p : α → Bool} {l : List α} {k : Nat} (h1 : k < l.length) (h2 : p (nth l k) = true) (h3 : ∀ j, j < k → ¬ p (nth l j) = true) : idxD p l = some k := by
  cases h : idxD p l with
  | none => exact absurd h2 (idx_none h k h1)
  | some m =>
    obtain ⟨m1, m2, m3⟩ := idx_some h
    rcases Nat.lt_trichotomy m k with q | q | q
    · exact absurd m2 (h3 m q)
    · rw [q]
    · exact absurd h2 (m3 k q)
theorem idx_no {α : Type} [Inhabited α] {p : α → Bool} {l : List α} (h : ∀ x ∈ l, ¬ p x = true) : idxD p l = none := by
  cases hx : idxD p l with
  | none => rfl
  | some m =>
    obtain ⟨m1, m2, _⟩ := idx_some hx
    exact absurd m2 (h _ (nth_mem m1))
/-! Gone -/
theorem kept_mem {client : Int} {ids : List Int} {l : List Pend} {p : Pend} (h : p ∈ l.flatMap (keepQ client ids)) : ¬ goneD client ids p = true ∧ ¬ tellD client ids p = true := by
  obtain ⟨q, _, hq⟩ := List.mem_flatMap.1 h
  unfold keepQ at hq
  split at hq
  · simp at hq
  · split at hq
    · simp at hq
    · rw [List.mem_singleton] at hq; subst hq; exact ⟨by assumption, by assumption⟩
theorem keep_all {client : Int} {ids : List Int} {l : List Pend} (h : ∀ p ∈ l, ¬ goneD client ids p = true ∧ ¬ tellD client ids p = true) : l.flatMap (keepQ client ids) = l ∧ l.flatMap (sayQ client ids) = [] := by
  induction l with
  | nil => exact ⟨rfl, rfl⟩
  | cons p l ih =>
    obtain ⟨h1, h2⟩ := h p (by simp)
    obtain ⟨i1, i2⟩ := ih fun q hq => h q (by simp [hq])
    rw [List.flatMap_cons, List.flatMap_cons, i1, i2]
    unfold keepQ sayQ
    rw [if_neg h1, if_neg h1, if_neg h2, if_neg h2]
    exact ⟨rfl, rfl⟩
theorem dropR_not (client : Int) (ids : List Int) (x : Rec) : ¬ dropHit client ids (dropR client ids x) = true := by
  by_cases h : dropHit client ids x = true
  · have e : dropR client ids x = ⟨x.sel, 0, 0, x.time⟩ := by unfold dropR; rw [if_pos h]
    rw [e]; simp [dropHit]
  · have e : dropR client ids x = x := by unfold dropR; rw [if_neg h]
    rw [e]; exact h
theorem dropR_two (client : Int) (ids : List Int) (x : Rec) : dropR client ids (dropR client ids x) = dropR client ids x := by
  show (if dropHit client ids (dropR client ids x) = true then Rec.mk (dropR client ids x).sel 0 0 (dropR client ids x).time else dropR client ids x) = dropR client ids x
  rw [if_neg (dropR_not client ids x)]
theorem drop_two (t : Tab) (client : Int) (ids : List Int) : dropT (dropT t client ids).1 client ids = ((dropT t client ids).1, []) := by
  obtain ⟨h1, h2⟩ := keep_all (client := client) (ids := ids) (l := t.q.flatMap (keepQ client ids)) fun p hp => kept_mem hp
  have h3 : (t.c.map (dropR client ids)).map (dropR client ids) = t.c.map (dropR client ids) := by
    rw [List.map_map]
    exact List.map_congr_left fun x _ => dropR_two client ids x
  show (Tab.mk ((t.c.map (dropR client ids)).map (dropR client ids)) ((t.q.flatMap (keepQ client ids)).flatMap (keepQ client ids)), (t.q.flatMap (keepQ client ids)).flatMap (sayQ client ids)) = (Tab.mk (t.c.map (dropR client ids)) (t.q.flatMap (keepQ client ids)), [])
  rw [h1, h2, h3]
theorem drop_find (t : Tab) (client : Int) (ids : List Int) (a : Int) (h : (findT (dropT t client ids).1 a).has = true) : ¬ (findT (dropT t client ids).1 a).client = client ∧ ¬ inD ids (findT (dropT t client ids).1 a).win = true := by
  have hw := (has_iff _).1 h
  unfold findT at hw ⊢
  cases hx : findM Rec.sel (dropT t client ids).1.c a with
  | none => rw [hx] at hw; exact absurd rfl hw
  | some y =>
    rw [hx] at hw
    obtain ⟨hy, _⟩ := find_mem hx
    obtain ⟨x, _, rfl⟩ := List.mem_map.1 (show y ∈ t.c.map (dropR client ids) from hy)
    have hn := dropR_not client ids x
    simp only [Option.getD_some] at hw ⊢
    exact ⟨fun q => hn (decide_eq_true ⟨hw, .inl q⟩), fun q => hn (decide_eq_true ⟨hw, .inr q⟩)⟩
noncomputable def go1B : Code := loopOf Try.prog 7 7
def go1S (acts : List Act) (client : Int) (ids : List Int) (t : Tab) (k : Nat) : St := ⟨mkT 150 [(0, slA acts), (1, i64 client), (2, slU ids), (7, .ptr 0 0), (8, .ptr 1 0), (9, i64 k)], [.arr 2 [.mp (t.c.map rowS), slE pendL t.q] 0, .arr 2 [slE recL t.c, slE pendL t.q] 0]⟩
theorem go1_step (acts : List Act) (client : Int) (ids : List Int) (t t' : Tab) (s : List Send) (k : Nat) (hk : k < acts.length) (hl : acts.length ≤ 40) (hd : Pu 12 [tabA t, tabR t, A (actL (nth acts k))] (.tup [tabA t', tabR t', slS s, bl true])) : Tri C0 go1B (go1S acts client ids t k) .normal (go1S acts client ids t' (k + 1)) := by
  exact runF_ok (hs := hint [((7,3), {val := some (bl (true))}), ((9,4), {cells := some (actL (nth acts k) ++ List.flatMap actL (List.drop (k + (1 : Nat)) acts)), sym := true}), ((9,6), {call := some (AV.tup [(tabA t'), (tabR t'), (slS s), (bl true)])}), ((8,1), {val := some (i64 ((↑k : Int) + (1 : Int)))})]) (f := { ks := [0, 1, 2, 7, 8, 9], l := [0, 1] }) (ps := [bl (decide ((↑k : Int) < (↑acts.length : Int))) = bl (true), decide ((0 : Int) ≤ (↑k : Int) ∧ (↑k : Int) < (↑acts.length : Int)) = true, ((List.drop ((↑k : Int).toNat * (8 : Nat)) (List.flatMap actL acts)) : List AV) = (actL (nth acts k) ++ List.flatMap actL (List.drop (k + (1 : Nat)) acts)), _, i64 (IntKind.i64.wrap ((↑k : Int) + (1 : Int))) = i64 ((↑k : Int) + (1 : Int)), true = true, true = true, true = true]) (by kernel_rfl) ⟨(bdT (by omega)), (by exact decide_t (by omega)), (by exact flat_nth (sz := 8) (k := k) (fun _ => rfl) (by omega)), (hd), (intE (by exact wrap_i64 (by omega) (by omega))), rfl, rfl, rfl, trivial⟩
theorem go1_end (acts : List Act) (client : Int) (ids : List Int) (t : Tab) : LoopT C0 go1B (go1S acts client ids t acts.length) (.exit 0) (go1S acts client ids t acts.length) := by
  exact LoopT.fin (hs := hint [((7,3), {val := some (bl (false))})]) (f := { ks := [0, 1, 2, 7, 8, 9], l := [0, 1] }) (ps := [bl (decide ((↑acts.length : Int) < (↑acts.length : Int))) = bl (false), true = true, true = true, true = true]) (by kernel_rfl) ⟨(bdF (by omega)), rfl, rfl, rfl, trivial⟩ (by decide)
theorem go1_all (acts : List Act) (ha : ∀ a ∈ acts, AOk a) (hl : acts.length ≤ 40) (client : Int) (ids : List Int) : LoopT C0 go1B (go1S acts client ids ⟨[], []⟩ 0) (.exit 0) (go1S acts client ids (runT acts) acts.length) := by
  have L := LoopT.count (fun k => go1S acts client ids (runT (acts.take k)) k) acts.length (fun k hk => by
    obtain ⟨q1, q2⟩ := run_tok acts ha k (by omega) (by omega)
    have e := run_snoc acts k hk
    have hd := done_ok _ q1 (nth acts k) (ha _ (nth_mem hk))
    unfold doneR at hd
    simp only [e]
    exact go1_step acts client ids _ _ _ k hk hl hd) (go1_end acts client ids _) 0 (by omega)
  simp only [List.take_length] at L
  exact L
noncomputable def go2B : Code := loopOf Try.prog 7 16
def go2S (acts : List Act) (client : Int) (ids : List Int) (t : Tab) (X : List Asked) (k : Nat) : St := ⟨mkT 150 [(0, slA acts), (1, i64 client), (2, slU ids), (10, .ptr 0 0), (14, slE askL X), (15, slE askL X), (16, i64 k)], [.arr 2 [.mp (t.c.map rowS), slE pendL t.q] 0]⟩
theorem go2_step (acts : List Act) (client : Int) (ids : List Int) (t : Tab) (X : List Asked) (k : Nat) (hk : k < X.length) (hl : X.length ≤ 1000) (hi : ids.length ≤ 1000) (h1 : ¬ (nth X k).asker = client) (h2 : ¬ (idxD (isD (nth X k).req) ids).isSome = true) : Tri C0 go2B (go2S acts client ids t X k) .normal (go2S acts client ids t X (k + 1)) := by
  exact runF_ok (hs := hint [((16,3), {val := some (bl (true))}), ((18,2), {cells := some (askL (nth X k) ++ List.flatMap askL (List.drop (k + (1 : Nat)) X)), sym := true}), ((18,6), {cells := some (askL (nth X k) ++ List.flatMap askL (List.drop (k + (1 : Nat)) X)), sym := true}), ((18,9), {val := some (bl (false))}), ((18,12), {cells := some (askL (nth X k) ++ List.flatMap askL (List.drop (k + (1 : Nat)) X)), sym := true}), ((18,18), {val := some (bl (false))}), ((18,22), {cells := some (askL (nth X k) ++ List.flatMap askL (List.drop (k + (1 : Nat)) X)), sym := true}), ((18,25), {call := some ((bl (idxD (isD (nth X k).req) ids).isSome))}), ((18,26), {val := some (bl (false))}), ((17,1), {val := some (i64 ((↑k : Int) + (1 : Int)))})]) (f := { ks := [0, 1, 2, 10, 14, 15, 16], l := [0] }) (ps := [bl (decide ((↑k : Int) < (↑X.length : Int))) = bl (true), decide ((0 : Int) ≤ (↑k : Int) ∧ (↑k : Int) < (↑X.length : Int)) = true, ((List.drop ((↑k : Int).toNat * (6 : Nat)) (List.flatMap askL X)) : List AV) = (askL (nth X k) ++ List.flatMap askL (List.drop (k + (1 : Nat)) X)), decide ((0 : Int) ≤ (↑k : Int) ∧ (↑k : Int) < (↑X.length : Int)) = true, ((List.drop ((↑k : Int).toNat * (6 : Nat)) (List.flatMap askL X)) : List AV) = (askL (nth X k) ++ List.flatMap askL (List.drop (k + (1 : Nat)) X)), bl (!((nth X k).asker == (nth X k).asker && ((nth X k).req == (nth X k).req && ((nth X k).sel == (nth X k).sel && ((nth X k).target == (nth X k).target && ((nth X k).prop == (nth X k).prop && ((nth X k).time == (nth X k).time && true))))))) = bl (false), decide ((0 : Int) ≤ (↑k : Int) ∧ (↑k : Int) < (↑X.length : Int)) = true, ((List.drop ((↑k : Int).toNat * (6 : Nat)) (List.flatMap askL X)) : List AV) = (askL (nth X k) ++ List.flatMap askL (List.drop (k + (1 : Nat)) X)), bl ((nth X k).asker == client) = bl (false), decide ((0 : Int) ≤ (↑k : Int) ∧ (↑k : Int) < (↑X.length : Int)) = true, ((List.drop ((↑k : Int).toNat * (6 : Nat)) (List.flatMap askL X)) : List AV) = (askL (nth X k) ++ List.flatMap askL (List.drop (k + (1 : Nat)) X)), _, bl ((idxD (isD (nth X k).req) ids).isSome) = bl (false), i64 (IntKind.i64.wrap ((↑k : Int) + (1 : Int))) = i64 ((↑k : Int) + (1 : Int)), true = true, true = true]) (by kernel_rfl) ⟨(bdT (by omega)), (by exact decide_t (by omega)), (by exact flat_nth (sz := 6) (k := k) (fun _ => rfl) (by omega)), (by exact decide_t (by omega)), (by exact flat_nth (sz := 6) (k := k) (fun _ => rfl) (by omega)), (bnT (bvT (by (simp; done)))), (by exact decide_t (by omega)), (by exact flat_nth (sz := 6) (k := k) (fun _ => rfl) (by omega)), (beF (by assumption)), (by exact decide_t (by omega)), (by exact flat_nth (sz := 6) (k := k) (fun _ => rfl) (by omega)), (lin_ok (ids) ((nth X k).req) (by omega)), (bvF (by assumption)), (intE (by exact wrap_i64 (by omega) (by omega))), rfl, rfl, trivial⟩
theorem go2_end (acts : List Act) (client : Int) (ids : List Int) (t : Tab) (X : List Asked) : LoopT C0 go2B (go2S acts client ids t X X.length) (.exit 2) (go2S acts client ids t X X.length) := by
  exact LoopT.fin (hs := hint [((16,3), {val := some (bl (false))})]) (f := { ks := [0, 1, 2, 10, 14, 15, 16], l := [0] }) (ps := [bl (decide ((↑X.length : Int) < (↑X.length : Int))) = bl (false), true = true, true = true]) (by kernel_rfl) ⟨(bdF (by omega)), rfl, rfl, trivial⟩ (by decide)
noncomputable def go3B : Code := loopOf Try.prog 7 21
def go3S (acts : List Act) (client : Int) (ids : List Int) (t : Tab) (k : Nat) : St := ⟨mkT 150 [(0, slA acts), (1, i64 client), (2, slU ids), (10, .ptr 0 0), (17, i64 k)], [.arr 2 [.mp (t.c.map rowS), slE pendL t.q] 0]⟩
theorem go3_yes (acts : List Act) (client : Int) (ids : List Int) (t : Tab) (k : Nat) (hk : k < acts.length) (hl : acts.length ≤ 40) (hi : ids.length ≤ 1000) (x : Rec) (hO : Pu 10 [tabA t, u32 (nth acts k).sel] (.tup [A [i64 x.client, u32 x.win, u32 x.time], bl true])) (hM : Pu 19 [tabA t, i64 client, u32 (nth acts k).win] (bl false)) (h1 : ¬ x.client = client) (h2 : ¬ (idxD (isD x.win) ids).isSome = true) : Tri C0 go3B (go3S acts client ids t k) .normal (go3S acts client ids t (k + 1)) := by
  exact runF_ok (hs := hint [((21,3), {val := some (bl (true))}), ((23,3), {cells := some (actL (nth acts k) ++ List.flatMap actL (List.drop (k + (1 : Nat)) acts)), sym := true}), ((23,6), {call := some (AV.tup [(A [i64 x.client, u32 x.win, u32 x.time]), (bl true)])}), ((24,6), {val := some (bl (false))}), ((24,10), {call := some ((bl (idxD (isD x.win) ids).isSome))}), ((24,13), {val := some (bl (false))}), ((24,18), {cells := some (actL (nth acts k) ++ List.flatMap actL (List.drop (k + (1 : Nat)) acts)), sym := true}), ((24,21), {call := some ((bl false))}), ((22,1), {val := some (i64 ((↑k : Int) + (1 : Int)))})]) (f := { ks := [0, 1, 2, 10, 17], l := [0] }) (ps := [bl (decide ((↑k : Int) < (↑acts.length : Int))) = bl (true), decide ((0 : Int) ≤ (↑k : Int) ∧ (↑k : Int) < (↑acts.length : Int)) = true, ((List.drop ((↑k : Int).toNat * (8 : Nat)) (List.flatMap actL acts)) : List AV) = (actL (nth acts k) ++ List.flatMap actL (List.drop (k + (1 : Nat)) acts)), _, bl (x.client == client) = bl (false), _, bl ((idxD (isD x.win) ids).isSome) = bl (false), decide ((0 : Int) ≤ (↑k : Int) ∧ (↑k : Int) < (↑acts.length : Int)) = true, ((List.drop ((↑k : Int).toNat * (8 : Nat)) (List.flatMap actL acts)) : List AV) = (actL (nth acts k) ++ List.flatMap actL (List.drop (k + (1 : Nat)) acts)), _, i64 (IntKind.i64.wrap ((↑k : Int) + (1 : Int))) = i64 ((↑k : Int) + (1 : Int)), true = true, true = true]) (by kernel_rfl) ⟨(bdT (by omega)), (by exact decide_t (by omega)), (by exact flat_nth (sz := 8) (k := k) (fun _ => rfl) (by omega)), (hO), (beF (by assumption)), (lin_ok (ids) (x.win) (by omega)), (bvF (by assumption)), (by exact decide_t (by omega)), (by exact flat_nth (sz := 8) (k := k) (fun _ => rfl) (by omega)), (hM), (intE (by exact wrap_i64 (by omega) (by omega))), rfl, rfl, trivial⟩
theorem go3_no (acts : List Act) (client : Int) (ids : List Int) (t : Tab) (k : Nat) (hk : k < acts.length) (hl : acts.length ≤ 40) (hi : ids.length ≤ 1000) (hO : Pu 10 [tabA t, u32 (nth acts k).sel] (.tup [A [i64 0, u32 0, u32 0], bl false])) (hM : Pu 19 [tabA t, i64 client, u32 (nth acts k).win] (bl false)) : Tri C0 go3B (go3S acts client ids t k) .normal (go3S acts client ids t (k + 1)) := by
  exact runF_ok (hs := hint [((21,3), {val := some (bl (true))}), ((23,3), {cells := some (actL (nth acts k) ++ List.flatMap actL (List.drop (k + (1 : Nat)) acts)), sym := true}), ((23,6), {call := some (AV.tup [(A [i64 (0 : Int), u32 (0 : Int), u32 (0 : Int)]), (bl false)])}), ((24,18), {cells := some (actL (nth acts k) ++ List.flatMap actL (List.drop (k + (1 : Nat)) acts)), sym := true}), ((24,21), {call := some ((bl false))}), ((22,1), {val := some (i64 ((↑k : Int) + (1 : Int)))})]) (f := { ks := [0, 1, 2, 10, 17], l := [0] }) (ps := [bl (decide ((↑k : Int) < (↑acts.length : Int))) = bl (true), decide ((0 : Int) ≤ (↑k : Int) ∧ (↑k : Int) < (↑acts.length : Int)) = true, ((List.drop ((↑k : Int).toNat * (8 : Nat)) (List.flatMap actL acts)) : List AV) = (actL (nth acts k) ++ List.flatMap actL (List.drop (k + (1 : Nat)) acts)), _, decide ((0 : Int) ≤ (↑k : Int) ∧ (↑k : Int) < (↑acts.length : Int)) = true, ((List.drop ((↑k : Int).toNat * (8 : Nat)) (List.flatMap actL acts)) : List AV) = (actL (nth acts k) ++ List.flatMap actL (List.drop (k + (1 : Nat)) acts)), _, i64 (IntKind.i64.wrap ((↑k : Int) + (1 : Int))) = i64 ((↑k : Int) + (1 : Int)), true = true, true = true]) (by kernel_rfl) ⟨(bdT (by omega)), (by exact decide_t (by omega)), (by exact flat_nth (sz := 8) (k := k) (fun _ => rfl) (by omega)), (hO), (by exact decide_t (by omega)), (by exact flat_nth (sz := 8) (k := k) (fun _ => rfl) (by omega)), (hM), (intE (by exact wrap_i64 (by omega) (by omega))), rfl, rfl, trivial⟩
theorem go3_end (acts : List Act) (client : Int) (ids : List Int) (t : Tab) : LoopT C0 go3B (go3S acts client ids t acts.length) (.exit 4) (go3S acts client ids t acts.length) := by
  exact LoopT.fin (hs := hint [((21,3), {val := some (bl (false))})]) (f := { ks := [0, 1, 2, 10, 17], l := [0] }) (ps := [bl (decide ((↑acts.length : Int) < (↑acts.length : Int))) = bl (false), true = true, true = true]) (by kernel_rfl) ⟨(bdF (by omega)), rfl, rfl, trivial⟩ (by decide)
theorem gone_go (acts : List Act) (client : Int) (ids : List Int) (hl : acts.length ≤ 40) (hi : ids.length ≤ 10) (t d : Tab) (s : List Send) (L1 : LoopT C0 go1B (go1S acts client ids ⟨[], []⟩ 0) (.exit 0) (go1S acts client ids t acts.length)) (hD : Pu 17 [tabA t, i64 client, slU ids] (convA (d, s))) (hE : Pu 17 [tabA d, i64 client, slU ids] (convA (d, []))) (X : List Asked) (hX : Pu 14 [tabA d] (slE askL X)) (L2 : LoopT C0 go2B (go2S acts client ids d X 0) (.exit 2) (go2S acts client ids d X X.length)) (L3 : LoopT C0 go3B (go3S acts client ids d 0) (.exit 4) (go3S acts client ids d acts.length)) : Pu 7 [slA acts, i64 client, slU ids] (bl true) := by
  exact pure_of (hs := hint [((1,0), {call := some ((bl true))}), ((3,3), {val := some (bl (false))}), ((3,7), {val := some (bl (false))}), ((7,1000), {loop := some ({ ks := [0, 1, 2, 7, 8, 9], l := [0, 1], mx := [0, 1] }, go1S acts client ids { c := [], q := [] : Tab } (0 : Nat), Ex.exit (0 : Nat), go1S acts client ids t acts.length)}), ((10,3), {call := some ((convA (d, s)))}), ((11,3), {call := some ((convA (d, [])))}), ((12,1), {call := some ((slE askL X))}), ((12,3), {call := some ((slE askL X))}), ((13,9), {val := some (bl (false))}), ((16,1000), {loop := some ({ ks := [0, 1, 2, 10, 14, 15, 16], l := [2] }, go2S acts client ids d X (0 : Nat), Ex.exit (2 : Nat), go2S acts client ids d X X.length)}), ((21,1000), {loop := some ({ ks := [0, 1, 2, 10, 17], l := [0] }, go3S acts client ids d (0 : Nat), Ex.exit (4 : Nat), go3S acts client ids d acts.length)})]) (ps := [_, bl (decide ((↑acts.length : Int) > (40 : Int))) = bl (false), bl (decide ((↑ids.length : Int) > (10 : Int))) = bl (false), go1S acts client ids { c := [], q := [] : Tab } (0 : Nat) = go1S acts client ids { c := [], q := [] : Tab } (0 : Nat), _, true = true, _, _, _, _, bl ((↑X.length : Int) != (↑X.length : Int)) = bl (false), go2S acts client ids d X (0 : Nat) = go2S acts client ids d X (0 : Nat), _, true = true, true = true, go3S acts client ids d (0 : Nat) = go3S acts client ids d (0 : Nat), _, true = true, true = true]) (by kernel_rfl) ⟨(awake_ok), (bdF (by omega)), (bdF (by omega)), rfl, L1, rfl, (hD), (hE), (hX), (hX), (neT (by omega)), rfl, L2, rfl, rfl, rfl, L3, rfl, rfl, trivial⟩
theorem gone_ok (acts : List Act) (ha : ∀ a ∈ acts, AOk a) (client : Int) (ids : List Int) : Pu 7 [slA acts, i64 client, slU ids] (bl true) := by
  by_cases hl : acts.length ≤ 40
  · by_cases hi : ids.length ≤ 10
    · obtain ⟨q1, q2⟩ := run_tok acts ha acts.length (by omega) (by omega)
      rw [List.take_length] at q1 q2
      have L1 := go1_all acts ha hl client ids
      have hD := drop_ok _ q1 client ids (by omega)
      have q3 := drop_tok q1 client ids
      have hE := drop_ok _ q3 client ids (by omega)
      rw [drop_two] at hE
      have hX := askL_nil _ q3
      have hkm : ∀ p ∈ (dropT (runT acts) client ids).1.q, ¬ goneD client ids p = true ∧ ¬ tellD client ids p = true := fun p hp => kept_mem hp
      have hfind := drop_find (runT acts) client ids
      obtain ⟨s, hs⟩ : ∃ s, dropT (runT acts) client ids = ((dropT (runT acts) client ids).1, s) := ⟨_, rfl⟩
      rw [hs] at hD
      generalize (dropT (runT acts) client ids).1 = d at hD hE q3 hX hkm hfind
      have r3 := q3.room
      refine gone_go acts client ids hl hi _ d s L1 hD hE _ hX ?_ ?_
      · refine LoopT.count (go2S acts client ids d (d.q.map (·.a))) _ (fun k hk => ?_) (go2_end acts client ids d _) 0 (by omega)
        rw [List.length_map] at hk
        have hm := (hkm _ (nth_mem hk)).1
        unfold goneD at hm
        rw [decide_eq_true_eq] at hm
        exact go2_step acts client ids d _ k (by rw [List.length_map]; exact hk) (by rw [List.length_map]; omega) (by omega) (by rw [nth_map _ hk]; exact fun q => hm (.inl q)) (by rw [nth_map _ hk]; exact fun q => hm (.inr q))
      · refine LoopT.count (go3S acts client ids d) _ (fun k hk => ?_) (go3_end acts client ids d) 0 (by omega)
        have hs := ha _ (nth_mem hk)
        have hM := may_ok d client (nth acts k).win (by omega)
        rw [idx_no (p := mayD client (nth acts k).win) (l := d.q) (fun p hp q => by
          have := (hkm p hp).2
          unfold tellD at this
          unfold mayD at q
          rw [decide_eq_true_eq] at this q
          exact this (.inl q.1))] at hM
        by_cases hh : (findT d (nth acts k).sel).has = true
        · obtain ⟨f1, f2⟩ := hfind _ hh
          exact go3_yes acts client ids d k hk hl (by omega) _ (owner_has q3 hs.1 hs.2 hh) hM f1 f2
        · exact go3_no acts client ids d k hk hl (by omega) (owner_not q3 hs.1 hs.2 hh) hM
    · exact pure_of (hs := hint [((1,0), {call := some ((bl true))}), ((3,3), {val := some (bl (false))}), ((3,7), {val := some (bl (true))})]) (ps := [_, bl (decide ((↑acts.length : Int) > (40 : Int))) = bl (false), bl (decide ((↑ids.length : Int) > (10 : Int))) = bl (true)]) (by kernel_rfl) ⟨(awake_ok), (bdF (by omega)), (bdT (by omega)), trivial⟩
  · exact pure_of (hs := hint [((1,0), {call := some ((bl true))}), ((3,3), {val := some (bl (true))})]) (ps := [_, bl (decide ((↑acts.length : Int) > (40 : Int))) = bl (true)]) (by kernel_rfl) ⟨(awake_ok), (bdT (by omega)), trivial⟩
/-! Full -/
def pF (i : Nat) : Pend := ⟨⟨2, 2097153 + i, 1, 0, 0, 0⟩, 1, 1048577⟩
def qF (n : Nat) : List Pend := (List.range n).map pF
def tF (n : Nat) : Tab := ⟨[⟨1, 1, 1048577, 1⟩], qF n⟩
theorem qF_len (n : Nat) : (qF n).length = n := by unfold qF; rw [List.length_map, List.length_range]
theorem qF_nth {n k : Nat} (h : k < n) : nth (qF n) k = pF k := by
  rw [nth_eq (by rw [qF_len]; exact h)]
  simp [qF]
theorem tF_ok (n : Nat) (h : n ≤ 256) : TOk (tF n) := by
  refine ⟨List.pairwise_singleton .., fun x hx => ?_, fun x hx hw => ?_, by simp [tF], ?_⟩
  · obtain rfl := List.mem_singleton.1 (show x ∈ [(⟨1, 1, 1048577, 1⟩ : Rec)] from hx); decide
  · obtain rfl := List.mem_singleton.1 (show x ∈ [(⟨1, 1, 1048577, 1⟩ : Rec)] from hx); cases hw
  · rw [show (tF n).q = qF n from rfl, qF_len]; exact h
theorem tF_find (n : Nat) : findT (tF n) 1 = ⟨1, 1, 1048577, 1⟩ := rfl
theorem tF_yes (n : Nat) (h : n < 256) : ∃ l, Pu 15 [tabA (tF n), A [i64 2, u32 (2097153 + (n : Int)), u32 1, u32 0, u32 0, u32 0]] (convA (tF (n + 1), [⟨1, 23, l⟩])) := by
  have hS : Pu 15 [tabA (tF n), A [i64 2, u32 (2097153 + (n : Int)), u32 1, u32 0, u32 0, u32 0]] (convA (convD (tF n) ⟨2, 2097153 + n, 1, 0, 0, 0⟩)) := conv_ok _ (tF_ok n (by omega)) ⟨2, 2097153 + n, 1, 0, 0, 0⟩ (by simp) (by simp)
  have e : refuseD (tF n) 1 = false := by
    unfold refuseD
    rw [tF_find, show (tF n).q = qF n from rfl, qF_len]
    exact decide_eq_false (by simp; omega)
  unfold convD at hS
  rw [if_neg (by simp only [e]; simp)] at hS
  have e2 : (tF n).q ++ [Pend.mk ⟨2, 2097153 + n, 1, 0, 0, 0⟩ 1 1048577] = qF (n + 1) := by
    show qF n ++ [pF n] = qF (n + 1)
    unfold qF
    rw [List.range_succ, List.map_append]; rfl
  simp only [tF_find] at hS
  rw [e2] at hS
  exact ⟨_, hS⟩
theorem tF_no (r : Int) : ∃ l, Pu 15 [tabA (tF 256), A [i64 2, u32 r, u32 1, u32 0, u32 0, u32 0]] (convA (tF 256, [⟨2, 24, l⟩])) := by
  have hS : Pu 15 [tabA (tF 256), A [i64 2, u32 r, u32 1, u32 0, u32 0, u32 0]] (convA (convD (tF 256) ⟨2, r, 1, 0, 0, 0⟩)) := conv_ok _ (tF_ok 256 (by omega)) ⟨2, r, 1, 0, 0, 0⟩ (by simp) (by simp)
  have e : refuseD (tF 256) 1 = true := by
    unfold refuseD
    rw [show (tF 256).q = qF 256 from rfl, qF_len]
    simp
  unfold convD at hS
  rw [if_pos e] at hS
  exact ⟨_, hS⟩
noncomputable def fuB : Code := loopOf Try.prog 8 6
def fuS (b m : Int) (t : Tab) (k : Nat) : St := ⟨mkT 106 [(1, u8 b), (5, .ptr 0 0), (8, i64 m), (9, i64 k)], [.arr 2 [.mp (t.c.map rowS), slE pendL t.q] 0]⟩
theorem fu_yes (b m : Int) (t t' : Tab) (k : Nat) (hk : (k : Int) < m) (hm : m ≤ 300) (h : k < 256) (l : List Int) (hS : Pu 15 [tabA t, A [i64 2, u32 (2097153 + (k : Int)), u32 1, u32 0, u32 0, u32 0]] (convA (t', [⟨1, 23, l⟩]))) (X : List Asked) (hX : Pu 14 [tabA t'] (slE askL X)) (hx : X.length = k + 1) : Tri C0 fuB (fuS b m t k) .normal (fuS b m t' (k + 1)) := by
  exact runF_ok (hs := hint [((6,2), {val := some (bl (true))}), ((8,2), {val := some (i64 ((2097153 : Int) + (↑k : Int)))}), ((8,3), {val := some (u32 ((2097153 : Int) + (↑k : Int)))}), ((8,5), {call := some ((convA (t', [{ client := (1 : Int), code := (23 : Int), n := l : Send }])))}), ((9,14), {val := some (bl (false))}), ((9,16), {call := some ((slE askL X))}), ((9,19), {val := some (i64 ((↑k : Int) + (1 : Int)))}), ((9,22), {val := some (bl (false))}), ((7,1), {val := some (i64 ((↑k : Int) + (1 : Int)))})]) (f := { ks := [1, 5, 8, 9], l := [0] }) (ps := [bl (decide ((↑k : Int) < m)) = bl (true), i64 (IntKind.i64.wrap ((2097153 : Int) + (↑k : Int))) = i64 ((2097153 : Int) + (↑k : Int)), u32 (IntKind.u32.wrap ((2097153 : Int) + (↑k : Int))) = u32 ((2097153 : Int) + (↑k : Int)), _, bl (!true == decide ((↑k : Int) < (256 : Int))) = bl (false), _, i64 (IntKind.i64.wrap ((↑k : Int) + (1 : Int))) = i64 ((↑k : Int) + (1 : Int)), bl ((↑X.length : Int) != if (256 : Int) < (↑k : Int) + (1 : Int) then (256 : Int) else (↑k : Int) + (1 : Int)) = bl (false), i64 (IntKind.i64.wrap ((↑k : Int) + (1 : Int))) = i64 ((↑k : Int) + (1 : Int)), true = true, true = true]) (by kernel_rfl) ⟨(bdT (by assumption)), (intE (by exact wrap_i64 (by omega) (by omega))), (intE (by exact wrap_u32 (by omega) (by omega))), (hS), (bnT (beT (by (simp; omega)))), (hX), (intE (by exact wrap_i64 (by omega) (by omega))), (neT (by omega)), (intE (by exact wrap_i64 (by omega) (by omega))), rfl, rfl, trivial⟩
theorem fu_no (b m : Int) (t : Tab) (k : Nat) (hk : (k : Int) < m) (hm : m ≤ 300) (h : ¬ k < 256) (l : List Int) (hS : Pu 15 [tabA t, A [i64 2, u32 (2097153 + (k : Int)), u32 1, u32 0, u32 0, u32 0]] (convA (t, [⟨2, 24, l⟩]))) (X : List Asked) (hX : Pu 14 [tabA t] (slE askL X)) (hx : X.length = 256) : Tri C0 fuB (fuS b m t k) .normal (fuS b m t (k + 1)) := by
  exact runF_ok (hs := hint [((6,2), {val := some (bl (true))}), ((8,2), {val := some (i64 ((2097153 : Int) + (↑k : Int)))}), ((8,3), {val := some (u32 ((2097153 : Int) + (↑k : Int)))}), ((8,5), {call := some ((convA (t, [{ client := (2 : Int), code := (24 : Int), n := l : Send }])))}), ((9,14), {val := some (bl (false))}), ((9,16), {call := some ((slE askL X))}), ((9,19), {val := some (i64 ((↑k : Int) + (1 : Int)))}), ((9,22), {val := some (bl (false))}), ((7,1), {val := some (i64 ((↑k : Int) + (1 : Int)))})]) (f := { ks := [1, 5, 8, 9], l := [0] }) (ps := [bl (decide ((↑k : Int) < m)) = bl (true), i64 (IntKind.i64.wrap ((2097153 : Int) + (↑k : Int))) = i64 ((2097153 : Int) + (↑k : Int)), u32 (IntKind.u32.wrap ((2097153 : Int) + (↑k : Int))) = u32 ((2097153 : Int) + (↑k : Int)), _, bl (!false == decide ((↑k : Int) < (256 : Int))) = bl (false), _, i64 (IntKind.i64.wrap ((↑k : Int) + (1 : Int))) = i64 ((↑k : Int) + (1 : Int)), bl ((↑X.length : Int) != if (256 : Int) < (↑k : Int) + (1 : Int) then (256 : Int) else (↑k : Int) + (1 : Int)) = bl (false), i64 (IntKind.i64.wrap ((↑k : Int) + (1 : Int))) = i64 ((↑k : Int) + (1 : Int)), true = true, true = true]) (by kernel_rfl) ⟨(bdT (by assumption)), (intE (by exact wrap_i64 (by omega) (by omega))), (intE (by exact wrap_u32 (by omega) (by omega))), (hS), (bnT (beT (by (simp; omega)))), (hX), (intE (by exact wrap_i64 (by omega) (by omega))), (neT (by omega)), (intE (by exact wrap_i64 (by omega) (by omega))), rfl, rfl, trivial⟩
theorem fu_end (b : Int) (m : Nat) (t : Tab) : LoopT C0 fuB (fuS b m t m) (.exit 0) (fuS b m t m) := by
  exact LoopT.fin (hs := hint [((6,2), {val := some (bl (false))})]) (f := { ks := [1, 5, 8, 9], l := [0] }) (ps := [bl (decide ((↑m : Int) < (↑m : Int))) = bl (false), true = true, true = true]) (by kernel_rfl) ⟨(bdF (by omega)), rfl, rfl, trivial⟩ (by decide)
theorem asks (t : Tab) (h : TOk t) : ∃ X : List Asked, Pu 14 [tabA t] (slE askL X) ∧ X.length = t.q.length := ⟨_, askL_nil t h, List.length_map ..⟩
theorem fu_all (b : Int) (m : Nat) (hm : m ≤ 300) : LoopT C0 fuB (fuS b m (tF 0) 0) (.exit 0) (fuS b m (tF (min m 256)) m) :=
  LoopT.count (fun k => fuS b m (tF (min k 256)) k) m (fun k hk => by
    by_cases h : k < 256
    · obtain ⟨l, hS⟩ := tF_yes k h
      obtain ⟨X, hX, hx⟩ := asks (tF (k + 1)) (tF_ok _ (by omega))
      rw [show (tF (k + 1)).q = qF (k + 1) from rfl, qF_len] at hx
      rw [show min k 256 = k by omega, show min (k + 1) 256 = k + 1 by omega]
      exact fu_yes b m _ _ k (by omega) (by omega) h l hS X hX hx
    · obtain ⟨l, hS⟩ := tF_no (2097153 + (k : Int))
      obtain ⟨X, hX, hx⟩ := asks (tF 256) (tF_ok _ (by omega))
      rw [show (tF 256).q = qF 256 from rfl, qF_len] at hx
      rw [show min k 256 = 256 by omega, show min (k + 1) 256 = 256 by omega]
      exact fu_no b m _ k (by omega) (by omega) h l hS X hX hx) (fu_end b m _) 0 (by omega)
theorem full_go (a b : Int) (a0 : 0 ≤ a) (a1 : a ≤ 255) (b0 : 0 ≤ b) (b1 : b ≤ 255) (t0 t d d' : Tab) (l1 : List Send) (h1 : Pu 11 [tabA ⟨[], []⟩, u32 1, A [i64 1, u32 1048577, u32 1], u32 1] (setA (t0, l1, true))) (L : LoopT C0 fuB (fuS b (250 + a % 12) t0 0) (.exit 0) (fuS b (250 + a % 12) t (250 + a % 12).toNat)) (hA : Pu 16 [tabA t, i64 1, u32 (2097153 + b % 250), u32 1] (.tup [tabA d, bl true])) (l2 : List Int) (hC : Pu 15 [tabA d, A [i64 2, u32 3, u32 1, u32 0, u32 0, u32 0]] (convA (d', [⟨1, 23, l2⟩]))) (X Y : List Asked) (hX : Pu 14 [tabA d] (slE askL X)) (hY : Pu 14 [tabA t] (slE askL Y)) (hl : X.length + 1 = Y.length) (hy : Y.length ≤ 256) : Pu 8 [u8 a, u8 b] (bl true) := by
  exact pure_of (hs := hint [((1,0), {call := some ((bl true))}), ((3,2), {call := some ((setA (t0, l1, true)))}), ((4,1), {val := some (i64 (a))}), ((4,2), {val := some (i64 (a % (12 : Int)))}), ((4,3), {val := some (i64 ((250 : Int) + a % (12 : Int)))}), ((6,1000), {loop := some ({ ks := [1, 5, 8, 9], l := [0] }, fuS b ((250 : Int) + a % (12 : Int)) t0 (0 : Nat), Ex.exit (0 : Nat), fuS b ((250 : Int) + a % (12 : Int)) t ((250 : Int) + a % (12 : Int)).toNat)}), ((12,2), {val := some (i64 (b))}), ((12,3), {val := some (i64 (b % (250 : Int)))}), ((12,4), {val := some (i64 ((2097153 : Int) + b % (250 : Int)))}), ((12,5), {val := some (u32 ((2097153 : Int) + b % (250 : Int)))}), ((12,6), {call := some (AV.tup [(tabA d), (bl true)])}), ((13,2), {call := some ((convA (d', [{ client := (1 : Int), code := (23 : Int), n := l2 : Send }])))}), ((14,3), {call := some ((slE askL X))}), ((14,6), {call := some ((slE askL Y))}), ((14,8), {val := some (i64 ((↑Y.length : Int) - (1 : Int)))}), ((14,11), {val := some (bl (true))})]) (ps := [_, _, i64 (IntKind.i64.wrap a) = i64 (a), i64 (a.tmod (12 : Int)) = i64 (a % (12 : Int)), i64 (IntKind.i64.wrap ((250 : Int) + a % (12 : Int))) = i64 ((250 : Int) + a % (12 : Int)), fuS b ((250 : Int) + a % (12 : Int)) t0 (0 : Nat) = fuS b ((250 : Int) + a % (12 : Int)) t0 (0 : Nat), _, true = true, true = true, i64 (IntKind.i64.wrap b) = i64 (b), i64 (b.tmod (250 : Int)) = i64 (b % (250 : Int)), i64 (IntKind.i64.wrap ((2097153 : Int) + b % (250 : Int))) = i64 ((2097153 : Int) + b % (250 : Int)), u32 (IntKind.u32.wrap ((2097153 : Int) + b % (250 : Int))) = u32 ((2097153 : Int) + b % (250 : Int)), _, _, _, _, i64 (IntKind.i64.wrap ((↑Y.length : Int) - (1 : Int))) = i64 ((↑Y.length : Int) - (1 : Int)), bl ((↑X.length : Int) == (↑Y.length : Int) - (1 : Int)) = bl (true)]) (by kernel_rfl) ⟨(awake_ok), (h1), (intE (by exact wrap_i64 (by omega) (by omega))), (intE (Int.tmod_eq_emod_of_nonneg (by omega))), (intE (by exact wrap_i64 (by omega) (by omega))), rfl, L, rfl, rfl, (intE (by exact wrap_i64 (by omega) (by omega))), (intE (Int.tmod_eq_emod_of_nonneg (by omega))), (intE (by exact wrap_i64 (by omega) (by omega))), (intE (by exact wrap_u32 (by omega) (by omega))), (hA), (hC), (hX), (hY), (intE (by exact wrap_i64 (by omega) (by omega))), (beT (by omega)), trivial⟩
theorem full_ok (a : Int) (a0 : 0 ≤ a) (a1 : a ≤ 255) (b : Int) (b0 : 0 ≤ b) (b1 : b ≤ 255) : Pu 8 [u8 a, u8 b] (bl true) := by
  have h1 := set_ok ⟨[], []⟩ tok0 1 1 1048577 1 1 (by decide) (by decide)
  have e1 : setD ⟨[], []⟩ 1 1 1048577 1 1 = (tF 0, [], true) := by decide
  rw [e1] at h1
  obtain ⟨m, hm⟩ : ∃ m : Nat, (m : Int) = 250 + a % 12 := ⟨(250 + a % 12).toNat, by omega⟩
  have L := fu_all b m (by omega)
  obtain ⟨j, hj⟩ : ∃ j : Nat, (j : Int) = b % 250 := ⟨(b % 250).toNat, by omega⟩
  obtain ⟨n, hn⟩ : ∃ n : Nat, n = min m 256 := ⟨_, rfl⟩
  rw [← hn] at L
  have hjn : j < n := by omega
  have hok := tF_ok n (by omega)
  have hA := ans_ok (tF n) 1 (2097153 + b % 250) 1 (by rw [show (tF n).q = qF n from rfl, qF_len]; omega)
  have hidx : idxD (ansD 1 (2097153 + b % 250) 1) (tF n).q = some j := by
    refine idx_of (by rw [show (tF n).q = qF n from rfl, qF_len]; exact hjn) ?_ ?_
    · rw [show (tF n).q = qF n from rfl, qF_nth hjn, ← hj]
      simp [ansD, pF]
    · intro i hi
      rw [show (tF n).q = qF n from rfl, qF_nth (by omega), ← hj]
      simp [ansD, pF]
      omega
  have hT := ans_tok hok 1 (2097153 + b % 250) 1
  unfold ansT at hA hT
  rw [hidx] at hA hT
  simp only at hA hT
  have hlen : (dropAt (tF n).q j).length = n - 1 := by rw [drop_len (by rw [show (tF n).q = qF n from rfl, qF_len]; exact hjn), show (tF n).q = qF n from rfl, qF_len]
  have hC : Pu 15 [tabA ⟨(tF n).c, dropAt (tF n).q j⟩, A [i64 2, u32 3, u32 1, u32 0, u32 0, u32 0]] (convA (convD ⟨(tF n).c, dropAt (tF n).q j⟩ ⟨2, 3, 1, 0, 0, 0⟩)) := conv_ok _ hT ⟨2, 3, 1, 0, 0, 0⟩ (by simp) (by simp)
  have hr : refuseD ⟨(tF n).c, dropAt (tF n).q j⟩ 1 = false := by
    unfold refuseD
    rw [show findT ⟨(tF n).c, dropAt (tF n).q j⟩ 1 = ⟨1, 1, 1048577, 1⟩ from rfl]
    refine decide_eq_false ?_
    rintro (q | q)
    · cases q
    · rw [show (Tab.mk (tF n).c (dropAt (tF n).q j)).q = dropAt (tF n).q j from rfl, hlen] at q; omega
  unfold convD at hC
  rw [if_neg (by simp only [hr]; simp)] at hC
  rw [show findT ⟨(tF n).c, dropAt (tF n).q j⟩ (Asked.mk 2 3 1 0 0 0).sel = ⟨1, 1, 1048577, 1⟩ from rfl] at hC
  obtain ⟨X, hX, hx⟩ := asks _ hT
  obtain ⟨Y, hY, hy⟩ := asks _ hok
  rw [show (Tab.mk (tF n).c (dropAt (tF n).q j)).q = dropAt (tF n).q j from rfl, hlen] at hx
  rw [show (tF n).q = qF n from rfl, qF_len] at hy
  have L' : LoopT C0 fuB (fuS b (250 + a % 12) (tF 0) 0) (.exit 0) (fuS b (250 + a % 12) (tF n) (250 + a % 12).toNat) := by
    rw [← hm]; exact L
  exact full_go a b a0 a1 b0 b1 _ _ _ _ _ h1 L' hA _ hC X Y hX hY (by omega) (by omega)
end Go.Proofs.Ythniagmdnogpdaa
