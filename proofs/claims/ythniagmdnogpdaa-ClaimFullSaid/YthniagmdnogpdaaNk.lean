/- What a table tells; the example; the law Plays. By the prover of this seat. -/
import Derived.Test.YthniagmdnogpdaaNj
set_option linter.unusedVariables false
set_option linter.unusedSimpArgs false
set_option maxRecDepth 100000
set_option maxHeartbeats 4000000
namespace Go.Proofs.Ythniagmdnogpdaa
open Go.RowKit Go.Pm
def slA (l : List Act) : AV := slE actL l
noncomputable def is1B : Code := loopOf Try.prog 13 5
def is1S (t : Tab) (acts : List Act) (aa : List Asked) (k : Nat) : St := ⟨mkT 126 [(2, slA acts), (3, .ptr 0 0), (4, .ptr 1 0), (7, slE askL aa), (8, i64 k)], [.arr 2 [.mp (t.c.map rowS), slE pendL t.q] 0, .arr 2 [slE recL t.c, slE pendL t.q] 0]⟩
theorem is1_step (t : Tab) (acts : List Act) (aa : List Asked) (k : Nat) (hk : k < t.q.length) (hl : t.q.length ≤ 1000) (ha : aa.length = t.q.length) (he : nth aa k = (nth t.q k).a) : Tri C0 is1B (is1S t acts aa k) .normal (is1S t acts aa (k + 1)) := by
  exact runF_ok (hs := hint [((5,3), {val := some (bl (true))}), ((7,3), {cells := some (pendL (nth t.q k) ++ List.flatMap pendL (List.drop (k + (1 : Nat)) t.q)), sym := true}), ((8,2), {cells := some (askL (nth aa k) ++ List.flatMap askL (List.drop (k + (1 : Nat)) aa)), sym := true}), ((8,17), {val := some (bl (false))}), ((6,1), {val := some (i64 ((↑k : Int) + (1 : Int)))})]) (f := { ks := [2, 3, 4, 7, 8], l := [0, 1] }) (ps := [bl (decide ((↑k : Int) < (↑aa.length : Int))) = bl (true), decide ((0 : Int) ≤ (↑k : Int) ∧ (↑k : Int) < (↑t.q.length : Int)) = true, ((List.drop ((↑k : Int).toNat * (8 : Nat)) (List.flatMap pendL t.q)) : List AV) = (pendL (nth t.q k) ++ List.flatMap pendL (List.drop (k + (1 : Nat)) t.q)), decide ((0 : Int) ≤ (↑k : Int) ∧ (↑k : Int) < (↑aa.length : Int)) = true, ((List.drop ((↑k : Int).toNat * (6 : Nat)) (List.flatMap askL aa)) : List AV) = (askL (nth aa k) ++ List.flatMap askL (List.drop (k + (1 : Nat)) aa)), bl (!((nth aa k).asker == (nth t.q k).a.asker && ((nth aa k).req == (nth t.q k).a.req && ((nth aa k).sel == (nth t.q k).a.sel && ((nth aa k).target == (nth t.q k).a.target && ((nth aa k).prop == (nth t.q k).a.prop && ((nth aa k).time == (nth t.q k).a.time && true))))))) = bl (false), i64 (IntKind.i64.wrap ((↑k : Int) + (1 : Int))) = i64 ((↑k : Int) + (1 : Int)), true = true, true = true, true = true]) (by kernel_rfl) ⟨(bdT (by omega)), (by exact decide_t (by omega)), (by exact flat_nth (sz := 8) (k := k) (fun _ => rfl) (by omega)), (by exact decide_t (by omega)), (by exact flat_nth (sz := 6) (k := k) (fun _ => rfl) (by omega)), (bnT (bvT (by (simp [he]; done)))), (intE (by exact wrap_i64 (by omega) (by omega))), rfl, rfl, rfl, trivial⟩
theorem is1_end (t : Tab) (acts : List Act) (aa : List Asked) (hl : t.q.length ≤ 1000) (ha : aa.length = t.q.length) : LoopT C0 is1B (is1S t acts aa t.q.length) (.exit 0) (is1S t acts aa t.q.length) := by
  exact LoopT.fin (hs := hint [((5,3), {val := some (bl (false))})]) (f := { ks := [2, 3, 4, 7, 8], l := [0, 1] }) (ps := [bl (decide ((↑t.q.length : Int) < (↑aa.length : Int))) = bl (false), true = true, true = true, true = true]) (by kernel_rfl) ⟨(bdF (by omega)), rfl, rfl, rfl, trivial⟩ (by decide)
noncomputable def is3B : Code := loopOf Try.prog 13 18
def is3S (t : Tab) (acts : List Act) (k j : Nat) : St := ⟨mkT 126 [(2, slA acts), (3, .ptr 0 0), (4, .ptr 1 0), (10, i64 k), (15, i64 j)], [.arr 2 [.mp (t.c.map rowS), slE pendL t.q] 0, .arr 2 [slE recL t.c, slE pendL t.q] 0]⟩
theorem is3_step (t : Tab) (acts : List Act) (k j : Nat) (hk : k < acts.length) (hl : acts.length ≤ 1000) (hq : t.q.length ≤ 1000) (hj : j < 10) : Tri C0 is3B (is3S t acts k j) .normal (is3S t acts k (j + 1)) := by
  exact runF_ok (hs := hint [((18,1), {val := some (bl (true))}), ((20,4), {cells := some (actL (nth acts k) ++ List.flatMap actL (List.drop (k + (1 : Nat)) acts)), sym := true}), ((20,7), {call := some ((bl (idxD (mayD (↑j : Int) (nth acts k).win) t.q).isSome))}), ((20,12), {cells := some (actL (nth acts k) ++ List.flatMap actL (List.drop (k + (1 : Nat)) acts)), sym := true}), ((20,15), {call := some ((bl (idxD (mayD (↑j : Int) (nth acts k).win) t.q).isSome))}), ((20,16), {val := some (bl (false))}), ((19,1), {val := some (i64 ((↑j : Int) + (1 : Int)))})]) (f := { ks := [2, 3, 4, 10, 15], l := [0, 1] }) (ps := [bl (decide ((↑j : Int) ≤ (9 : Int))) = bl (true), decide ((0 : Int) ≤ (↑k : Int) ∧ (↑k : Int) < (↑acts.length : Int)) = true, ((List.drop ((↑k : Int).toNat * (8 : Nat)) (List.flatMap actL acts)) : List AV) = (actL (nth acts k) ++ List.flatMap actL (List.drop (k + (1 : Nat)) acts)), _, decide ((0 : Int) ≤ (↑k : Int) ∧ (↑k : Int) < (↑acts.length : Int)) = true, ((List.drop ((↑k : Int).toNat * (8 : Nat)) (List.flatMap actL acts)) : List AV) = (actL (nth acts k) ++ List.flatMap actL (List.drop (k + (1 : Nat)) acts)), _, bl (!(idxD (mayD (↑j : Int) (nth acts k).win) t.q).isSome == (idxD (mayD (↑j : Int) (nth acts k).win) t.q).isSome) = bl (false), i64 (IntKind.i64.wrap ((↑j : Int) + (1 : Int))) = i64 ((↑j : Int) + (1 : Int)), true = true, true = true, true = true]) (by kernel_rfl) ⟨(bdT (by omega)), (by exact decide_t (by omega)), (by exact flat_nth (sz := 8) (k := k) (fun _ => rfl) (by omega)), (may_ok (t) ((↑j : Int)) ((nth acts k).win) (by omega)), (by exact decide_t (by omega)), (by exact flat_nth (sz := 8) (k := k) (fun _ => rfl) (by omega)), (rm_ok (t) ((↑j : Int)) ((nth acts k).win) (by omega)), (bnT (beT (by (simp; done)))), (intE (by exact wrap_i64 (by omega) (by omega))), rfl, rfl, rfl, trivial⟩
theorem is3_end (t : Tab) (acts : List Act) (k : Nat) : LoopT C0 is3B (is3S t acts k 10) (.exit 4) (is3S t acts k 10) := by
  exact LoopT.fin (hs := hint []) (f := { ks := [2, 3, 4, 10, 15], l := [0, 1] }) (ps := [true = true, true = true, true = true]) (by kernel_rfl) ⟨rfl, rfl, rfl, trivial⟩ (by decide)
noncomputable def is2B : Code := loopOf Try.prog 13 11
def is2S (t : Tab) (acts : List Act) (k : Nat) : St := ⟨mkT 126 [(2, slA acts), (3, .ptr 0 0), (4, .ptr 1 0), (10, i64 k)], [.arr 2 [.mp (t.c.map rowS), slE pendL t.q] 0, .arr 2 [slE recL t.c, slE pendL t.q] 0]⟩
theorem is2_yes (t : Tab) (acts : List Act) (k : Nat) (hk : k < acts.length) (hl : acts.length ≤ 1000) (hq : t.q.length ≤ 1000) (x : Rec) (hp : Pu 10 [tabA t, u32 (nth acts k).sel] (.tup [A [i64 x.client, u32 x.win, u32 x.time], bl true])) (hr : Pu 27 [tabR t, u32 (nth acts k).sel] (.tup [A (recL x), bl true])) : Tri C0 is2B (is2S t acts k) .normal (is2S t acts (k + 1)) := by
  have L := LoopT.count (is3S t acts k) 10 (fun j hj => is3_step t acts k j hk hl hq hj) (is3_end t acts k) 0 (by omega)
  exact runF_ok (hs := hint [((11,3), {val := some (bl (true))}), ((13,3), {cells := some (actL (nth acts k) ++ List.flatMap actL (List.drop (k + (1 : Nat)) acts)), sym := true}), ((13,6), {call := some (AV.tup [(A [i64 x.client, u32 x.win, u32 x.time]), (bl true)])}), ((14,3), {cells := some (actL (nth acts k) ++ List.flatMap actL (List.drop (k + (1 : Nat)) acts)), sym := true}), ((14,6), {call := some (AV.tup [(A (recL x)), (bl true)])}), ((15,17), {val := some (bl (false))}), ((18,1000), {loop := some ({ ks := [2, 3, 4, 10, 15], l := [0, 1] }, is3S t acts k (0 : Nat), Ex.exit (4 : Nat), is3S t acts k (10 : Nat))}), ((12,1), {val := some (i64 ((↑k : Int) + (1 : Int)))})]) (f := { ks := [2, 3, 4, 10], l := [0, 1] }) (ps := [bl (decide ((↑k : Int) < (↑acts.length : Int))) = bl (true), decide ((0 : Int) ≤ (↑k : Int) ∧ (↑k : Int) < (↑acts.length : Int)) = true, ((List.drop ((↑k : Int).toNat * (8 : Nat)) (List.flatMap actL acts)) : List AV) = (actL (nth acts k) ++ List.flatMap actL (List.drop (k + (1 : Nat)) acts)), _, decide ((0 : Int) ≤ (↑k : Int) ∧ (↑k : Int) < (↑acts.length : Int)) = true, ((List.drop ((↑k : Int).toNat * (8 : Nat)) (List.flatMap actL acts)) : List AV) = (actL (nth acts k) ++ List.flatMap actL (List.drop (k + (1 : Nat)) acts)), _, bl (!(x.client == x.client && (x.win == x.win && (x.time == x.time && true)))) = bl (false), is3S t acts k (0 : Nat) = is3S t acts k (0 : Nat), _, true = true, true = true, true = true, i64 (IntKind.i64.wrap ((↑k : Int) + (1 : Int))) = i64 ((↑k : Int) + (1 : Int)), true = true, true = true, true = true]) (by kernel_rfl) ⟨(bdT (by omega)), (by exact decide_t (by omega)), (by exact flat_nth (sz := 8) (k := k) (fun _ => rfl) (by omega)), (hp), (by exact decide_t (by omega)), (by exact flat_nth (sz := 8) (k := k) (fun _ => rfl) (by omega)), (hr), (bnT (bvT (by (simp; done)))), rfl, L, rfl, rfl, rfl, (intE (by exact wrap_i64 (by omega) (by omega))), rfl, rfl, rfl, trivial⟩
theorem is2_no (t : Tab) (acts : List Act) (k : Nat) (hk : k < acts.length) (hl : acts.length ≤ 1000) (hq : t.q.length ≤ 1000) (x : Rec) (hp : Pu 10 [tabA t, u32 (nth acts k).sel] (.tup [A [i64 0, u32 0, u32 0], bl false])) (hr : Pu 27 [tabR t, u32 (nth acts k).sel] (.tup [A (recL x), bl false])) : Tri C0 is2B (is2S t acts k) .normal (is2S t acts (k + 1)) := by
  have L := LoopT.count (is3S t acts k) 10 (fun j hj => is3_step t acts k j hk hl hq hj) (is3_end t acts k) 0 (by omega)
  exact runF_ok (hs := hint [((11,3), {val := some (bl (true))}), ((13,3), {cells := some (actL (nth acts k) ++ List.flatMap actL (List.drop (k + (1 : Nat)) acts)), sym := true}), ((13,6), {call := some (AV.tup [(A [i64 (0 : Int), u32 (0 : Int), u32 (0 : Int)]), (bl false)])}), ((14,3), {cells := some (actL (nth acts k) ++ List.flatMap actL (List.drop (k + (1 : Nat)) acts)), sym := true}), ((14,6), {call := some (AV.tup [(A (recL x)), (bl false)])}), ((18,1000), {loop := some ({ ks := [2, 3, 4, 10, 15], l := [0, 1] }, is3S t acts k (0 : Nat), Ex.exit (4 : Nat), is3S t acts k (10 : Nat))}), ((12,1), {val := some (i64 ((↑k : Int) + (1 : Int)))})]) (f := { ks := [2, 3, 4, 10], l := [0, 1] }) (ps := [bl (decide ((↑k : Int) < (↑acts.length : Int))) = bl (true), decide ((0 : Int) ≤ (↑k : Int) ∧ (↑k : Int) < (↑acts.length : Int)) = true, ((List.drop ((↑k : Int).toNat * (8 : Nat)) (List.flatMap actL acts)) : List AV) = (actL (nth acts k) ++ List.flatMap actL (List.drop (k + (1 : Nat)) acts)), _, decide ((0 : Int) ≤ (↑k : Int) ∧ (↑k : Int) < (↑acts.length : Int)) = true, ((List.drop ((↑k : Int).toNat * (8 : Nat)) (List.flatMap actL acts)) : List AV) = (actL (nth acts k) ++ List.flatMap actL (List.drop (k + (1 : Nat)) acts)), _, is3S t acts k (0 : Nat) = is3S t acts k (0 : Nat), _, true = true, true = true, true = true, i64 (IntKind.i64.wrap ((↑k : Int) + (1 : Int))) = i64 ((↑k : Int) + (1 : Int)), true = true, true = true, true = true]) (by kernel_rfl) ⟨(bdT (by omega)), (by exact decide_t (by omega)), (by exact flat_nth (sz := 8) (k := k) (fun _ => rfl) (by omega)), (hp), (by exact decide_t (by omega)), (by exact flat_nth (sz := 8) (k := k) (fun _ => rfl) (by omega)), (hr), rfl, L, rfl, rfl, rfl, (intE (by exact wrap_i64 (by omega) (by omega))), rfl, rfl, rfl, trivial⟩
theorem owner_has {t : Tab} (h : TOk t) {a : Int} (a0 : 0 ≤ a) (a1 : a ≤ 4294967295) (hh : (findT t a).has = true) : Pu 10 [tabA t, u32 a] (.tup [A [i64 (findT t a).client, u32 (findT t a).win, u32 (findT t a).time], bl true]) := by
  have ho := owner_ok t h a a0 a1
  have hw := (has_iff _).1 hh
  rw [hh, cl_of hw, show (findT t a).ct = (findT t a).time by simp [Rec.ct, hw]] at ho
  exact ho
theorem owner_not {t : Tab} (h : TOk t) {a : Int} (a0 : 0 ≤ a) (a1 : a ≤ 4294967295) (hh : ¬ (findT t a).has = true) : Pu 10 [tabA t, u32 a] (.tup [A [i64 0, u32 0, u32 0], bl false]) := by
  have ho := owner_ok t h a a0 a1
  have hw : (findT t a).win = 0 := by
    by_cases hw : (findT t a).win = 0
    · exact hw
    · exact absurd ((has_iff _).2 hw) hh
  have hf : (findT t a).has = false := by simpa using hh
  rw [hf, hw, show (findT t a).cl = 0 by simp [Rec.cl, hw], show (findT t a).ct = 0 by simp [Rec.ct, hw]] at ho
  exact ho
theorem is2_step (t : Tab) (h : TOk t) (acts : List Act) (ha : ∀ a ∈ acts, AOk a) (k : Nat) (hk : k < acts.length) (hl : acts.length ≤ 1000) : Tri C0 is2B (is2S t acts k) .normal (is2S t acts (k + 1)) := by
  have hs := ha _ (nth_mem hk)
  have hq := h.room
  have hc := h.len
  have hr := rowner_ok t (nth acts k).sel (by omega)
  by_cases hh : (findT t (nth acts k).sel).has = true
  · rw [hh] at hr
    exact is2_yes t acts k hk hl (by omega) _ (owner_has h hs.1 hs.2 hh) hr
  · rw [show (findT t (nth acts k).sel).has = false by simpa using hh] at hr
    exact is2_no t acts k hk hl (by omega) _ (owner_not h hs.1 hs.2 hh) hr
theorem is2_end (t : Tab) (acts : List Act) : LoopT C0 is2B (is2S t acts acts.length) (.exit 2) (is2S t acts acts.length) := by
  exact LoopT.fin (hs := hint [((11,3), {val := some (bl (false))})]) (f := { ks := [2, 3, 4, 10], l := [0, 1] }) (ps := [bl (decide ((↑acts.length : Int) < (↑acts.length : Int))) = bl (false), true = true, true = true, true = true]) (by kernel_rfl) ⟨(bdF (by omega)), rfl, rfl, rfl, trivial⟩ (by decide)
theorem nth_map {α β : Type} [Inhabited α] [Inhabited β] (f : α → β) {l : List α} {k : Nat} (h : k < l.length) : nth (l.map f) k = f (nth l k) := by
  rw [nth_eq h, nth_eq (by simpa using h), List.getElem_map]
theorem is_ok (t : Tab) (h : TOk t) (acts : List Act) (ha : ∀ a ∈ acts, AOk a) (hl : acts.length ≤ 1000) : Pu 13 [tabA t, tabR t, slA acts] (bl true) := by
  have hq := h.room
  have hall := all_ok t (by omega)
  have hlen : (t.q.map (·.a)).length = t.q.length := List.length_map ..
  have hnth : ∀ k, k < t.q.length → nth (t.q.map (·.a)) k = (nth t.q k).a := fun k hk => nth_map _ hk
  generalize t.q.map (·.a) = aa at hall hlen hnth
  have L1 := LoopT.count (is1S t acts aa) t.q.length (fun k hk => is1_step t acts aa k hk (by omega) hlen (hnth k hk)) (is1_end t acts aa (by omega) hlen) 0 (by omega)
  have L2 := LoopT.count (is2S t acts) acts.length (fun k hk => is2_step t h acts ha k hk hl) (is2_end t acts) 0 (by omega)
  exact pure_of (hs := hint [((1,1), {call := some ((slE askL aa))}), ((2,5), {val := some (bl (false))}), ((5,1000), {loop := some ({ ks := [2, 3, 4, 7, 8], l := [0, 1] }, is1S t acts aa (0 : Nat), Ex.exit (0 : Nat), is1S t acts aa t.q.length)}), ((11,1000), {loop := some ({ ks := [2, 3, 4, 10], l := [0, 1] }, is2S t acts (0 : Nat), Ex.exit (2 : Nat), is2S t acts acts.length)})]) (ps := [_, bl ((↑aa.length : Int) != (↑t.q.length : Int)) = bl (false), is1S t acts aa (0 : Nat) = is1S t acts aa (0 : Nat), _, true = true, true = true, true = true, is2S t acts (0 : Nat) = is2S t acts (0 : Nat), _, true = true, true = true, true = true]) (by kernel_rfl) ⟨(hall), (neT (by omega)), rfl, L1, rfl, rfl, rfl, rfl, L2, rfl, rfl, rfl, trivial⟩
/-! the example -/
def tE0 : Tab := ⟨[], []⟩
def tE1 : Tab := ⟨[⟨1, 1, 1048577, 5⟩], []⟩
def tE2 : Tab := ⟨[⟨1, 1, 1048577, 5⟩], [⟨⟨2, 2097153, 1, 4, 9, 8⟩, 1, 1048577⟩]⟩
def tE3 : Tab := ⟨[⟨1, 2, 2097154, 6⟩], [⟨⟨2, 2097153, 1, 4, 9, 8⟩, 1, 1048577⟩]⟩
def tE4 : Tab := ⟨[⟨1, 2, 2097154, 6⟩], []⟩
theorem e1 : setD tE0 1 1 1048577 5 9 = (tE1, [], true) := by decide
theorem e2 : convD tE1 ⟨2, 2097153, 1, 4, 9, 8⟩ = (tE2, [⟨1, 23, [1048577, 2097153, 1, 4, 9, 8]⟩]) := by decide
theorem e3 : setD tE2 1 2 2097154 4 9 = (tE2, [], false) := by decide
theorem e4 : setD tE2 1 2 2097154 6 9 = (tE3, [⟨1, 22, [1048577, 1, 6]⟩], true) := by decide
theorem e5 : (idxD (mayD 1 2097153) tE3.q).isSome = true := by decide
theorem e6 : dropT tE3 1 [] = (tE4, [⟨2, 24, [2097153, 1, 4, 0, 8]⟩]) := by decide
theorem k1 : TOk tE1 := by have := set_tok tok0 (by decide) 1 1 1048577 5 9 ⟨by decide, by decide⟩; rw [show (⟨[], []⟩ : Tab) = tE0 from rfl, e1] at this; exact this
theorem k2 : TOk tE2 := by have := conv_tok k1 ⟨2, 2097153, 1, 4, 9, 8⟩; rw [e2] at this; exact this
theorem k3 : TOk tE3 := by have := set_tok k2 (by decide) 1 2 2097154 6 9 ⟨by decide, by decide⟩; rw [e4] at this; exact this
theorem awake_ok : Pu 9 [] (bl true) := by
  have s1 := set_ok tE0 tok0 1 1 1048577 5 9 (by decide) (by decide)
  rw [e1] at s1
  have s2 := conv_ok tE1 k1 ⟨2, 2097153, 1, 4, 9, 8⟩ (by decide) (by decide)
  rw [e2] at s2
  have s3 := set_ok tE2 k2 1 2 2097154 4 9 (by decide) (by decide)
  rw [e3] at s3
  have s4 := set_ok tE2 k2 1 2 2097154 6 9 (by decide) (by decide)
  rw [e4] at s4
  have s5 := may_ok tE3 1 2097153 (by decide)
  rw [e5] at s5
  have s6 := drop_ok tE3 k3 1 [] (by decide)
  rw [e6] at s6
  have s7 := all_ok tE4 (by decide)
  exact pure_of (hs := hint [((2,3), {call := some ((setA (tE1, [], true)))}), ((3,3), {call := some ((convA (tE2, [{ client := (1 : Int), code := (23 : Int), n := [(1048577 : Int), (2097153 : Int), (1 : Int), (4 : Int), (9 : Int), (8 : Int)] : Send }])))}), ((4,3), {call := some ((setA (tE2, [], false)))}), ((5,3), {call := some ((setA (tE3, [{ client := (1 : Int), code := (22 : Int), n := [(1048577 : Int), (1 : Int), (6 : Int)] : Send }], true)))}), ((6,2), {call := some ((bl true))}), ((7,1), {call := some ((convA (tE4, [{ client := (2 : Int), code := (24 : Int), n := [(2097153 : Int), (1 : Int), (4 : Int), (0 : Int), (8 : Int)] : Send }])))}), ((8,92), {call := some ((slE askL (List.map (fun (x : Pend) => x.a) tE4.q)))})]) (ps := [_, _, _, _, _, _, _]) (by kernel_rfl) ⟨(s1), (s2), (s3), (s4), (s5), (s6), (s7), trivial⟩
/-! Plays -/
def runT (acts : List Act) : Tab := acts.foldl (fun t a => (stepD t a).1) ⟨[], []⟩
theorem run_snoc (acts : List Act) (k : Nat) (hk : k < acts.length) : runT (acts.take (k + 1)) = (stepD (runT (acts.take k)) (nth acts k)).1 := by
  rw [take_nth hk, runT, List.foldl_append]; rfl
theorem run_tok (acts : List Act) (ha : ∀ a ∈ acts, AOk a) : ∀ k, k ≤ acts.length → k ≤ 900 → TOk (runT (acts.take k)) ∧ (runT (acts.take k)).c.length ≤ k := by
  intro k
  induction k with
  | zero => intro _ _; exact ⟨tok0, by simp [runT]⟩
  | succ k ih =>
    intro h1 h2
    obtain ⟨q1, q2⟩ := ih (by omega) (by omega)
    rw [run_snoc acts k (by omega)]
    exact ⟨step_tok q1 (by omega) _ (ha _ (nth_mem (by omega))), Nat.le_trans (step_len _ _) (by omega)⟩
noncomputable def plB : Code := loopOf Try.prog 4 7
def plS (acts : List Act) (t : Tab) (k : Nat) : St := ⟨mkT 53 [(0, slA acts), (3, .ptr 0 0), (4, .ptr 1 0), (5, i64 k)], [.arr 2 [.mp (t.c.map rowS), slE pendL t.q] 0, .arr 2 [slE recL t.c, slE pendL t.q] 0]⟩
theorem pl_step (acts : List Act) (t t' : Tab) (s : List Send) (k : Nat) (hk : k < acts.length) (hl : acts.length ≤ 40) (hd : Pu 12 [tabA t, tabR t, A (actL (nth acts k))] (.tup [tabA t', tabR t', slS s, bl true])) (h1 : Pu 13 [tabA t', tabR t', slA acts] (bl true)) (h2 : Pu 13 [tabA t, tabR t, slA acts] (bl true)) : Tri C0 plB (plS acts t k) .normal (plS acts t' (k + 1)) := by
  exact runF_ok (hs := hint [((7,3), {val := some (bl (true))}), ((9,4), {cells := some (actL (nth acts k) ++ List.flatMap actL (List.drop (k + (1 : Nat)) acts)), sym := true}), ((9,6), {call := some (AV.tup [(tabA t'), (tabR t'), (slS s), (bl true)])}), ((10,6), {call := some ((bl true))}), ((10,13), {call := some ((bl true))}), ((8,1), {val := some (i64 ((↑k : Int) + (1 : Int)))})]) (f := { ks := [0, 3, 4, 5], l := [0, 1] }) (ps := [bl (decide ((↑k : Int) < (↑acts.length : Int))) = bl (true), decide ((0 : Int) ≤ (↑k : Int) ∧ (↑k : Int) < (↑acts.length : Int)) = true, ((List.drop ((↑k : Int).toNat * (8 : Nat)) (List.flatMap actL acts)) : List AV) = (actL (nth acts k) ++ List.flatMap actL (List.drop (k + (1 : Nat)) acts)), _, _, _, i64 (IntKind.i64.wrap ((↑k : Int) + (1 : Int))) = i64 ((↑k : Int) + (1 : Int)), true = true, true = true, true = true]) (by kernel_rfl) ⟨(bdT (by omega)), (by exact decide_t (by omega)), (by exact flat_nth (sz := 8) (k := k) (fun _ => rfl) (by omega)), (hd), (h1), (h2), (intE (by exact wrap_i64 (by omega) (by omega))), rfl, rfl, rfl, trivial⟩
theorem pl_end (acts : List Act) (t : Tab) : LoopT C0 plB (plS acts t acts.length) (.exit 0) (plS acts t acts.length) := by
  exact LoopT.fin (hs := hint [((7,3), {val := some (bl (false))})]) (f := { ks := [0, 3, 4, 5], l := [0, 1] }) (ps := [bl (decide ((↑acts.length : Int) < (↑acts.length : Int))) = bl (false), true = true, true = true, true = true]) (by kernel_rfl) ⟨(bdF (by omega)), rfl, rfl, rfl, trivial⟩ (by decide)
theorem plays_ok (acts : List Act) (ha : ∀ a ∈ acts, AOk a) : Pu 4 [slA acts] (bl true) := by
  by_cases hl : acts.length ≤ 40
  · have L := LoopT.count (fun k => plS acts (runT (acts.take k)) k) acts.length (fun k hk => by
      obtain ⟨q1, q2⟩ := run_tok acts ha k (by omega) (by omega)
      obtain ⟨q3, q4⟩ := run_tok acts ha (k + 1) (by omega) (by omega)
      have e := run_snoc acts k hk
      have hd := done_ok _ q1 (nth acts k) (ha _ (nth_mem hk))
      unfold doneR at hd
      rw [← e] at hd
      exact pl_step acts _ _ _ k hk hl hd (is_ok _ q3 acts ha (by omega)) (is_ok _ q1 acts ha (by omega))) (pl_end acts _) 0 (by omega)
    simp only [List.take_length, List.take_zero] at L
    generalize hr : runT acts = r at L
    have L' : LoopT C0 plB (plS acts ⟨[], []⟩ 0) (.exit 0) (plS acts r acts.length) := L
    exact pure_of (hs := hint [((1,0), {call := some ((bl true))}), ((3,2), {val := some (bl (false))}), ((7,1000), {loop := some ({ ks := [0, 3, 4, 5], l := [0, 1], mx := [0, 1] }, plS acts { c := [], q := [] : Tab } (0 : Nat), Ex.exit (0 : Nat), plS acts r acts.length)})]) (ps := [_, bl (decide ((↑acts.length : Int) > (40 : Int))) = bl (false), plS acts { c := [], q := [] : Tab } (0 : Nat) = plS acts { c := [], q := [] : Tab } (0 : Nat), _, true = true]) (by kernel_rfl) ⟨(awake_ok), (bdF (by omega)), rfl, L', rfl, trivial⟩
  · exact pure_of (hs := hint [((1,0), {call := some ((bl true))}), ((3,2), {val := some (bl (true))})]) (ps := [_, bl (decide ((↑acts.length : Int) > (40 : Int))) = bl (true)]) (by kernel_rfl) ⟨(awake_ok), (bdT (by omega)), trivial⟩
end Go.Proofs.Ythniagmdnogpdaa
