/- The law Once. By the prover of this seat. -/
import Derived.Test.YthniagmdnogpdaaNm
set_option linter.unusedVariables false
set_option linter.unusedSimpArgs false
set_option maxRecDepth 100000
set_option maxHeartbeats 4000000
namespace Go.Proofs.Ythniagmdnogpdaa
open Go.RowKit Go.Pm
/-! counts -/
def cnt (p : Pend → Bool) (l : List Pend) : Nat := (l.filter p).length
theorem cnt_snoc (p : Pend → Bool) (l : List Pend) (k : Nat) (hk : k < l.length) : cnt p (l.take (k + 1)) = cnt p (l.take k) + (if p (nth l k) = true then 1 else 0) := by
  rw [take_nth hk, cnt, List.filter_append, List.length_append]
  congr 1
  by_cases h : p (nth l k) = true <;> simp [h]
theorem cnt_le (p : Pend → Bool) (l : List Pend) : cnt p l ≤ l.length := List.length_filter_le _ _
theorem in_one (w x : Int) : inD [w] x = true ↔ w = x := by
  unfold inD
  rw [idx_isSome]
  simp [isD]
theorem drop_count (client : Int) (ids : List Int) (l : List Pend) : (l.flatMap (keepQ client ids)).length + (cnt (goneD client ids) l + (l.flatMap (sayQ client ids)).length) = l.length := by
  induction l with
  | nil => rfl
  | cons p l ih =>
    rw [List.flatMap_cons, List.flatMap_cons, List.length_append, List.length_append, List.length_cons]
    have e : cnt (goneD client ids) (p :: l) = (if goneD client ids p = true then 1 else 0) + cnt (goneD client ids) l := by
      unfold cnt
      rw [List.filter_cons]
      split <;> simp_all <;> omega
    rw [e]
    by_cases h1 : goneD client ids p = true
    · have hk : keepQ client ids p = [] := by unfold keepQ; rw [if_pos h1]
      have hs : sayQ client ids p = [] := by unfold sayQ; rw [if_pos h1]
      rw [hk, hs, if_pos h1]; simp only [List.length_nil]; omega
    · by_cases h2 : tellD client ids p = true
      · have hk : keepQ client ids p = [] := by unfold keepQ; rw [if_neg h1, if_pos h2]
        have hs : sayQ client ids p = [refD p.a] := by unfold sayQ; rw [if_neg h1, if_pos h2]
        rw [hk, hs, if_neg h1, List.length_nil, List.length_singleton]; omega
      · have hk : keepQ client ids p = [p] := by unfold keepQ; rw [if_neg h1, if_neg h2]
        have hs : sayQ client ids p = [] := by unfold sayQ; rw [if_neg h1, if_neg h2]
        rw [hk, hs, if_neg h1, List.length_nil, List.length_singleton]; omega
theorem say_other {client : Int} {ids : List Int} {l : List Pend} {s : Send} (h : s ∈ l.flatMap (sayQ client ids)) : s.code = 24 ∧ ¬ s.client = client := by
  obtain ⟨p, _, hs⟩ := List.mem_flatMap.1 h
  unfold sayQ at hs
  split at hs
  · simp at hs
  · rename_i hg
    split at hs
    · rw [List.mem_singleton] at hs
      subst hs
      refine ⟨rfl, fun q => hg ?_⟩
      exact decide_eq_true (.inl q)
    · simp at hs
/-! the loops -/
def onA (acts : List Act) : AV := slA acts
noncomputable def on2B : Code := loopOf Try.prog 5 34
def on2S (acts : List Act) (a : Act) (t : Tab) (aa : List Asked) (ss : List Send) (p : Int) (k g j : Nat) : St := ⟨mkT 220 [(0, slA acts), (3, .ptr 0 0), (4, i64 p), (5, i64 k), (6, .ptr 1 0), (7, slS ss), (8, slE askL aa), (13, i64 g), (14, i64 j)], [.arr 2 [.mp (t.c.map rowS), slE pendL t.q] 0, .arr 8 (actL a) 0]⟩
theorem on2_hit (acts : List Act) (a : Act) (t : Tab) (aa : List Asked) (ss : List Send) (p : Int) (k g j : Nat) (hj : j < aa.length) (hl : aa.length ≤ 1000) (hg : g ≤ 1000) (h : (nth aa j).asker = a.client ∨ (nth aa j).req = a.win) : Tri C0 on2B (on2S acts a t aa ss p k g j) .normal (on2S acts a t aa ss p k (g + 1) (j + 1)) := by
  by_cases q : (nth aa j).asker = a.client
  · exact runF_ok (hs := hint [((34,3), {val := some (bl (true))}), ((36,2), {cells := some (askL (nth aa j) ++ List.flatMap askL (List.drop (j + (1 : Nat)) aa)), sym := true}), ((36,8), {val := some (bl (true))}), ((37,1), {val := some (i64 ((↑g : Int) + (1 : Int)))}), ((35,1), {val := some (i64 ((↑j : Int) + (1 : Int)))})]) (f := { ks := [0, 3, 4, 5, 6, 7, 8, 13, 14], l := [0, 1] }) (ps := [bl (decide ((↑j : Int) < (↑aa.length : Int))) = bl (true), decide ((0 : Int) ≤ (↑j : Int) ∧ (↑j : Int) < (↑aa.length : Int)) = true, ((List.drop ((↑j : Int).toNat * (6 : Nat)) (List.flatMap askL aa)) : List AV) = (askL (nth aa j) ++ List.flatMap askL (List.drop (j + (1 : Nat)) aa)), bl ((nth aa j).asker == a.client) = bl (true), i64 (IntKind.i64.wrap ((↑g : Int) + (1 : Int))) = i64 ((↑g : Int) + (1 : Int)), i64 (IntKind.i64.wrap ((↑j : Int) + (1 : Int))) = i64 ((↑j : Int) + (1 : Int)), true = true, true = true, true = true]) (by kernel_rfl) ⟨(bdT (by omega)), (by exact decide_t (by omega)), (by exact flat_nth (sz := 6) (k := j) (fun _ => rfl) (by omega)), (beT (by assumption)), (intE (by exact wrap_i64 (by omega) (by omega))), (intE (by exact wrap_i64 (by omega) (by omega))), rfl, rfl, rfl, trivial⟩
  · have q2 := h.resolve_left q
    exact runF_ok (hs := hint [((34,3), {val := some (bl (true))}), ((36,2), {cells := some (askL (nth aa j) ++ List.flatMap askL (List.drop (j + (1 : Nat)) aa)), sym := true}), ((36,8), {val := some (bl (false))}), ((36,11), {cells := some (askL (nth aa j) ++ List.flatMap askL (List.drop (j + (1 : Nat)) aa)), sym := true}), ((36,17), {val := some (bl (true))}), ((37,1), {val := some (i64 ((↑g : Int) + (1 : Int)))}), ((35,1), {val := some (i64 ((↑j : Int) + (1 : Int)))})]) (f := { ks := [0, 3, 4, 5, 6, 7, 8, 13, 14], l := [0, 1] }) (ps := [bl (decide ((↑j : Int) < (↑aa.length : Int))) = bl (true), decide ((0 : Int) ≤ (↑j : Int) ∧ (↑j : Int) < (↑aa.length : Int)) = true, ((List.drop ((↑j : Int).toNat * (6 : Nat)) (List.flatMap askL aa)) : List AV) = (askL (nth aa j) ++ List.flatMap askL (List.drop (j + (1 : Nat)) aa)), bl ((nth aa j).asker == a.client) = bl (false), decide ((0 : Int) ≤ (↑j : Int) ∧ (↑j : Int) < (↑aa.length : Int)) = true, ((List.drop ((↑j : Int).toNat * (6 : Nat)) (List.flatMap askL aa)) : List AV) = (askL (nth aa j) ++ List.flatMap askL (List.drop (j + (1 : Nat)) aa)), bl ((nth aa j).req == a.win) = bl (true), i64 (IntKind.i64.wrap ((↑g : Int) + (1 : Int))) = i64 ((↑g : Int) + (1 : Int)), i64 (IntKind.i64.wrap ((↑j : Int) + (1 : Int))) = i64 ((↑j : Int) + (1 : Int)), true = true, true = true, true = true]) (by kernel_rfl) ⟨(bdT (by omega)), (by exact decide_t (by omega)), (by exact flat_nth (sz := 6) (k := j) (fun _ => rfl) (by omega)), (beF (by assumption)), (by exact decide_t (by omega)), (by exact flat_nth (sz := 6) (k := j) (fun _ => rfl) (by omega)), (beT (by assumption)), (intE (by exact wrap_i64 (by omega) (by omega))), (intE (by exact wrap_i64 (by omega) (by omega))), rfl, rfl, rfl, trivial⟩
theorem on2_miss (acts : List Act) (a : Act) (t : Tab) (aa : List Asked) (ss : List Send) (p : Int) (k g j : Nat) (hj : j < aa.length) (hl : aa.length ≤ 1000) (h1 : ¬ (nth aa j).asker = a.client) (h2 : ¬ (nth aa j).req = a.win) : Tri C0 on2B (on2S acts a t aa ss p k g j) .normal (on2S acts a t aa ss p k g (j + 1)) := by
  exact runF_ok (hs := hint [((34,3), {val := some (bl (true))}), ((36,2), {cells := some (askL (nth aa j) ++ List.flatMap askL (List.drop (j + (1 : Nat)) aa)), sym := true}), ((36,8), {val := some (bl (false))}), ((36,11), {cells := some (askL (nth aa j) ++ List.flatMap askL (List.drop (j + (1 : Nat)) aa)), sym := true}), ((36,17), {val := some (bl (false))}), ((35,1), {val := some (i64 ((↑j : Int) + (1 : Int)))})]) (f := { ks := [0, 3, 4, 5, 6, 7, 8, 13, 14], l := [0, 1] }) (ps := [bl (decide ((↑j : Int) < (↑aa.length : Int))) = bl (true), decide ((0 : Int) ≤ (↑j : Int) ∧ (↑j : Int) < (↑aa.length : Int)) = true, ((List.drop ((↑j : Int).toNat * (6 : Nat)) (List.flatMap askL aa)) : List AV) = (askL (nth aa j) ++ List.flatMap askL (List.drop (j + (1 : Nat)) aa)), bl ((nth aa j).asker == a.client) = bl (false), decide ((0 : Int) ≤ (↑j : Int) ∧ (↑j : Int) < (↑aa.length : Int)) = true, ((List.drop ((↑j : Int).toNat * (6 : Nat)) (List.flatMap askL aa)) : List AV) = (askL (nth aa j) ++ List.flatMap askL (List.drop (j + (1 : Nat)) aa)), bl ((nth aa j).req == a.win) = bl (false), i64 (IntKind.i64.wrap ((↑j : Int) + (1 : Int))) = i64 ((↑j : Int) + (1 : Int)), true = true, true = true, true = true]) (by kernel_rfl) ⟨(bdT (by omega)), (by exact decide_t (by omega)), (by exact flat_nth (sz := 6) (k := j) (fun _ => rfl) (by omega)), (beF (by assumption)), (by exact decide_t (by omega)), (by exact flat_nth (sz := 6) (k := j) (fun _ => rfl) (by omega)), (beF (by assumption)), (intE (by exact wrap_i64 (by omega) (by omega))), rfl, rfl, rfl, trivial⟩
theorem on2_end (acts : List Act) (a : Act) (t : Tab) (aa : List Asked) (ss : List Send) (p : Int) (k g : Nat) : LoopT C0 on2B (on2S acts a t aa ss p k g aa.length) (.exit 3) (on2S acts a t aa ss p k g aa.length) := by
  exact LoopT.fin (hs := hint [((34,3), {val := some (bl (false))})]) (f := { ks := [0, 3, 4, 5, 6, 7, 8, 13, 14], l := [0, 1] }) (ps := [bl (decide ((↑aa.length : Int) < (↑aa.length : Int))) = bl (false), true = true, true = true, true = true]) (by kernel_rfl) ⟨(bdF (by omega)), rfl, rfl, rfl, trivial⟩ (by decide)
theorem on2_all (acts : List Act) (a : Act) (t : Tab) (q : List Pend) (hq : q.length ≤ 256) (aa : List Asked) (he : aa = q.map (·.a)) (ss : List Send) (p : Int) (k : Nat) : LoopT C0 on2B (on2S acts a t aa ss p k 0 0) (.exit 3) (on2S acts a t aa ss p k (cnt (goneD a.client [a.win]) q) aa.length) := by
  have hlen : aa.length = q.length := by rw [he, List.length_map]
  have hnth : ∀ j, j < q.length → nth aa j = (nth q j).a := fun j hj => by rw [he]; exact nth_map _ hj
  have L := LoopT.count (fun j => on2S acts a t aa ss p k (cnt (goneD a.client [a.win]) (q.take j)) j) q.length (fun j hj => by
    have e := cnt_snoc (goneD a.client [a.win]) q j hj
    have e2 := hnth j hj
    have e3 := cnt_le (goneD a.client [a.win]) (q.take j)
    rw [List.length_take] at e3
    simp only [e]
    by_cases h : goneD a.client [a.win] (nth q j) = true
    · rw [if_pos h]
      unfold goneD at h
      rw [decide_eq_true_eq, in_one] at h
      exact on2_hit acts a t aa ss p k _ j (by omega) (by omega) (by omega) (by rw [e2]; rcases h with h | h; exact .inl h; exact .inr h.symm)
    · rw [if_neg h]
      unfold goneD at h
      rw [decide_eq_true_eq, in_one] at h
      exact on2_miss acts a t aa ss p k _ j (by omega) (by omega) (by rw [e2]; exact fun z => h (.inl z)) (by rw [e2]; exact fun z => h (.inr z.symm))) (by have := on2_end acts a t aa ss p k (cnt (goneD a.client [a.win]) (q.take q.length)); rw [hlen] at this; exact this) 0 (by omega)
  simp only [List.take_length, List.take_zero] at L
  rw [← hlen] at L
  exact L
noncomputable def on3B : Code := loopOf Try.prog 5 40
def on3S (acts : List Act) (a : Act) (t : Tab) (ss : List Send) (p : Int) (k j : Nat) : St := ⟨mkT 220 [(0, slA acts), (3, .ptr 0 0), (4, i64 p), (5, i64 k), (6, .ptr 1 0), (7, slS ss), (15, i64 j)], [.arr 2 [.mp (t.c.map rowS), slE pendL t.q] 0, .arr 8 (actL a) 0]⟩
theorem on3_step (acts : List Act) (a : Act) (t : Tab) (ss : List Send) (p : Int) (k j : Nat) (hj : j < ss.length) (hl : ss.length ≤ 1000) (h1 : (nth ss j).code = 24) (h2 : ¬ (nth ss j).client = a.client) : Tri C0 on3B (on3S acts a t ss p k j) .normal (on3S acts a t ss p k (j + 1)) := by
  exact runF_ok (hs := hint [((40,3), {val := some (bl (true))}), ((42,2), {cells := some (sendL (nth ss j) ++ List.flatMap sendL (List.drop (j + (1 : Nat)) ss)), sym := true}), ((42,7), {val := some (bl (false))}), ((42,10), {cells := some (sendL (nth ss j) ++ List.flatMap sendL (List.drop (j + (1 : Nat)) ss)), sym := true}), ((42,16), {val := some (bl (false))}), ((41,1), {val := some (i64 ((↑j : Int) + (1 : Int)))})]) (f := { ks := [0, 3, 4, 5, 6, 7, 15], l := [0, 1] }) (ps := [bl (decide ((↑j : Int) < (↑ss.length : Int))) = bl (true), decide ((0 : Int) ≤ (↑j : Int) ∧ (↑j : Int) < (↑ss.length : Int)) = true, ((List.drop ((↑j : Int).toNat * (7 : Nat)) (List.flatMap sendL ss)) : List AV) = (sendL (nth ss j) ++ List.flatMap sendL (List.drop (j + (1 : Nat)) ss)), bl ((nth ss j).code != (24 : Int)) = bl (false), decide ((0 : Int) ≤ (↑j : Int) ∧ (↑j : Int) < (↑ss.length : Int)) = true, ((List.drop ((↑j : Int).toNat * (7 : Nat)) (List.flatMap sendL ss)) : List AV) = (sendL (nth ss j) ++ List.flatMap sendL (List.drop (j + (1 : Nat)) ss)), bl ((nth ss j).client == a.client) = bl (false), i64 (IntKind.i64.wrap ((↑j : Int) + (1 : Int))) = i64 ((↑j : Int) + (1 : Int)), true = true, true = true, true = true]) (by kernel_rfl) ⟨(bdT (by omega)), (by exact decide_t (by omega)), (by exact flat_nth (sz := 7) (k := j) (fun _ => rfl) (by omega)), (neT (by assumption)), (by exact decide_t (by omega)), (by exact flat_nth (sz := 7) (k := j) (fun _ => rfl) (by omega)), (beF (by assumption)), (intE (by exact wrap_i64 (by omega) (by omega))), rfl, rfl, rfl, trivial⟩
theorem on3_end (acts : List Act) (a : Act) (t : Tab) (ss : List Send) (p : Int) (k : Nat) : LoopT C0 on3B (on3S acts a t ss p k ss.length) (.exit 5) (on3S acts a t ss p k ss.length) := by
  exact LoopT.fin (hs := hint [((40,3), {val := some (bl (false))})]) (f := { ks := [0, 3, 4, 5, 6, 7, 15], l := [0, 1] }) (ps := [bl (decide ((↑ss.length : Int) < (↑ss.length : Int))) = bl (false), true = true, true = true, true = true]) (by kernel_rfl) ⟨(bdF (by omega)), rfl, rfl, rfl, trivial⟩ (by decide)
noncomputable def onB : Code := loopOf Try.prog 5 8
def onS (acts : List Act) (t : Tab) (p : Int) (k : Nat) : St := ⟨mkT 220 [(0, slA acts), (3, .ptr 0 0), (4, i64 p), (5, i64 k)], [.arr 2 [.mp (t.c.map rowS), slE pendL t.q] 0]⟩
theorem on_0a (acts : List Act) (t t' : Tab) (k : Nat) (n m : Nat) (aa aa' : List Asked) (hk : k < acts.length) (hl : acts.length ≤ 40) (hn : n ≤ 256) (hm : m ≤ 256) (hA : Pu 14 [tabA t] (slE askL aa)) (hB : Pu 14 [tabA t'] (slE askL aa')) (ha : aa.length = n) (hb : aa'.length = m) (ho : (nth acts k).op = 0) (e : m = n) (ok : Bool) (hS : Pu 11 [tabA t, u32 (nth acts k).sel, A [i64 (nth acts k).client, u32 (nth acts k).win, u32 (nth acts k).time], u32 (nth acts k).now] (setA (t', [], ok))) : Tri C0 onB (onS acts t n k) .normal (onS acts t' m (k + 1)) := by
  subst e
  exact runF_ok (hs := hint [((8,3), {val := some (bl (true))}), ((10,2), {cells := some (actL (nth acts k) ++ List.flatMap actL (List.drop (k + (1 : Nat)) acts)), sym := true}), ((12,1), {call := some ((slE askL aa))}), ((14,1), {val := some (bl (true))}), ((15,12), {call := some ((setA (t', [], ok)))}), ((44,1), {call := some ((slE askL aa'))}), ((44,4), {val := some (bl (false))}), ((9,1), {val := some (i64 ((↑k : Int) + (1 : Int)))})]) (f := { ks := [0, 3, 4, 5], l := [0] }) (ps := [bl (decide ((↑k : Int) < (↑acts.length : Int))) = bl (true), decide ((0 : Int) ≤ (↑k : Int) ∧ (↑k : Int) < (↑acts.length : Int)) = true, ((List.drop ((↑k : Int).toNat * (8 : Nat)) (List.flatMap actL acts)) : List AV) = (actL (nth acts k) ++ List.flatMap actL (List.drop (k + (1 : Nat)) acts)), _, bl ((nth acts k).op == (0 : Int)) = bl (true), _, _, bl ((↑aa'.length : Int) != (↑m : Int)) = bl (false), i64 (IntKind.i64.wrap ((↑k : Int) + (1 : Int))) = i64 ((↑k : Int) + (1 : Int)), true = true, true = true]) (by kernel_rfl) ⟨(bdT (by omega)), (by exact decide_t (by omega)), (by exact flat_nth (sz := 8) (k := k) (fun _ => rfl) (by omega)), (hA), (beT (by assumption)), (hS), (hB), (neT (by omega)), (intE (by exact wrap_i64 (by omega) (by omega))), rfl, rfl, trivial⟩
theorem on_0b (acts : List Act) (t t' : Tab) (k : Nat) (n m : Nat) (aa aa' : List Asked) (hk : k < acts.length) (hl : acts.length ≤ 40) (hn : n ≤ 256) (hm : m ≤ 256) (hA : Pu 14 [tabA t] (slE askL aa)) (hB : Pu 14 [tabA t'] (slE askL aa')) (ha : aa.length = n) (hb : aa'.length = m) (ho : (nth acts k).op = 0) (e : m = n) (ok : Bool) (c : Int) (l : List Int) (hS : Pu 11 [tabA t, u32 (nth acts k).sel, A [i64 (nth acts k).client, u32 (nth acts k).win, u32 (nth acts k).time], u32 (nth acts k).now] (setA (t', [⟨c, 22, l⟩], ok))) : Tri C0 onB (onS acts t n k) .normal (onS acts t' m (k + 1)) := by
  subst e
  exact runF_ok (hs := hint [((8,3), {val := some (bl (true))}), ((10,2), {cells := some (actL (nth acts k) ++ List.flatMap actL (List.drop (k + (1 : Nat)) acts)), sym := true}), ((12,1), {call := some ((slE askL aa))}), ((14,1), {val := some (bl (true))}), ((15,12), {call := some ((setA (t', [{ client := c, code := (22 : Int), n := l : Send }], ok)))}), ((44,1), {call := some ((slE askL aa'))}), ((44,4), {val := some (bl (false))}), ((9,1), {val := some (i64 ((↑k : Int) + (1 : Int)))})]) (f := { ks := [0, 3, 4, 5], l := [0] }) (ps := [bl (decide ((↑k : Int) < (↑acts.length : Int))) = bl (true), decide ((0 : Int) ≤ (↑k : Int) ∧ (↑k : Int) < (↑acts.length : Int)) = true, ((List.drop ((↑k : Int).toNat * (8 : Nat)) (List.flatMap actL acts)) : List AV) = (actL (nth acts k) ++ List.flatMap actL (List.drop (k + (1 : Nat)) acts)), _, bl ((nth acts k).op == (0 : Int)) = bl (true), _, _, bl ((↑aa'.length : Int) != (↑m : Int)) = bl (false), i64 (IntKind.i64.wrap ((↑k : Int) + (1 : Int))) = i64 ((↑k : Int) + (1 : Int)), true = true, true = true]) (by kernel_rfl) ⟨(bdT (by omega)), (by exact decide_t (by omega)), (by exact flat_nth (sz := 8) (k := k) (fun _ => rfl) (by omega)), (hA), (beT (by assumption)), (hS), (hB), (neT (by omega)), (intE (by exact wrap_i64 (by omega) (by omega))), rfl, rfl, trivial⟩
theorem on_1a (acts : List Act) (t t' : Tab) (k : Nat) (n m : Nat) (aa aa' : List Asked) (hk : k < acts.length) (hl : acts.length ≤ 40) (hn : n ≤ 256) (hm : m ≤ 256) (hA : Pu 14 [tabA t] (slE askL aa)) (hB : Pu 14 [tabA t'] (slE askL aa')) (ha : aa.length = n) (hb : aa'.length = m) (ho : (nth acts k).op = 1) (e : m = n) (c0 w0 t0 : Int) (hO : Pu 10 [tabA t, u32 (nth acts k).sel] (.tup [A [i64 c0, u32 w0, u32 t0], bl false])) (l : List Int) (hS : Pu 15 [tabA t, A [i64 (nth acts k).client, u32 (nth acts k).win, u32 (nth acts k).sel, u32 0, u32 0, u32 (nth acts k).time]] (convA (t', [⟨(nth acts k).client, 24, l⟩]))) : Tri C0 onB (onS acts t n k) .normal (onS acts t' m (k + 1)) := by
  subst e
  exact runF_ok (hs := hint [((8,3), {val := some (bl (true))}), ((10,2), {cells := some (actL (nth acts k) ++ List.flatMap actL (List.drop (k + (1 : Nat)) acts)), sym := true}), ((12,1), {call := some ((slE askL aa))}), ((14,1), {val := some (bl (false))}), ((18,1), {val := some (bl (true))}), ((19,3), {call := some (AV.tup [(A [i64 c0, u32 w0, u32 t0]), (bl false)])}), ((20,10), {call := some ((convA (t', [{ client := (nth acts k).client, code := (24 : Int), n := l : Send }])))}), ((21,33), {val := some (bl (false))}), ((44,1), {call := some ((slE askL aa'))}), ((44,4), {val := some (bl (false))}), ((9,1), {val := some (i64 ((↑k : Int) + (1 : Int)))})]) (f := { ks := [0, 3, 4, 5], l := [0] }) (ps := [bl (decide ((↑k : Int) < (↑acts.length : Int))) = bl (true), decide ((0 : Int) ≤ (↑k : Int) ∧ (↑k : Int) < (↑acts.length : Int)) = true, ((List.drop ((↑k : Int).toNat * (8 : Nat)) (List.flatMap actL acts)) : List AV) = (actL (nth acts k) ++ List.flatMap actL (List.drop (k + (1 : Nat)) acts)), _, bl ((nth acts k).op == (0 : Int)) = bl (false), bl ((nth acts k).op == (1 : Int)) = bl (true), _, _, bl ((nth acts k).client != (nth acts k).client) = bl (false), _, bl ((↑aa'.length : Int) != (↑m : Int)) = bl (false), i64 (IntKind.i64.wrap ((↑k : Int) + (1 : Int))) = i64 ((↑k : Int) + (1 : Int)), true = true, true = true]) (by kernel_rfl) ⟨(bdT (by omega)), (by exact decide_t (by omega)), (by exact flat_nth (sz := 8) (k := k) (fun _ => rfl) (by omega)), (hA), (beF (by omega)), (beT (by assumption)), (hO), (hS), (neT (by omega)), (hB), (neT (by omega)), (intE (by exact wrap_i64 (by omega) (by omega))), rfl, rfl, trivial⟩
theorem on_1b (acts : List Act) (t t' : Tab) (k : Nat) (n m : Nat) (aa aa' : List Asked) (hk : k < acts.length) (hl : acts.length ≤ 40) (hn : n ≤ 256) (hm : m ≤ 256) (hA : Pu 14 [tabA t] (slE askL aa)) (hB : Pu 14 [tabA t'] (slE askL aa')) (ha : aa.length = n) (hb : aa'.length = m) (ho : (nth acts k).op = 1) (e : m = n + 1) (c0 w0 t0 : Int) (hO : Pu 10 [tabA t, u32 (nth acts k).sel] (.tup [A [i64 c0, u32 w0, u32 t0], bl true])) (c : Int) (l : List Int) (hS : Pu 15 [tabA t, A [i64 (nth acts k).client, u32 (nth acts k).win, u32 (nth acts k).sel, u32 0, u32 0, u32 (nth acts k).time]] (convA (t', [⟨c, 23, l⟩]))) : Tri C0 onB (onS acts t n k) .normal (onS acts t' m (k + 1)) := by
  subst e
  exact runF_ok (hs := hint [((8,3), {val := some (bl (true))}), ((10,2), {cells := some (actL (nth acts k) ++ List.flatMap actL (List.drop (k + (1 : Nat)) acts)), sym := true}), ((12,1), {call := some ((slE askL aa))}), ((14,1), {val := some (bl (false))}), ((18,1), {val := some (bl (true))}), ((19,3), {call := some (AV.tup [(A [i64 c0, u32 w0, u32 t0]), (bl true)])}), ((20,10), {call := some ((convA (t', [{ client := c, code := (23 : Int), n := l : Send }])))}), ((24,1), {val := some (i64 ((↑n : Int) + (1 : Int)))}), ((44,1), {call := some ((slE askL aa'))}), ((44,4), {val := some (bl (false))}), ((9,1), {val := some (i64 ((↑k : Int) + (1 : Int)))})]) (f := { ks := [0, 3, 4, 5], l := [0] }) (ps := [bl (decide ((↑k : Int) < (↑acts.length : Int))) = bl (true), decide ((0 : Int) ≤ (↑k : Int) ∧ (↑k : Int) < (↑acts.length : Int)) = true, ((List.drop ((↑k : Int).toNat * (8 : Nat)) (List.flatMap actL acts)) : List AV) = (actL (nth acts k) ++ List.flatMap actL (List.drop (k + (1 : Nat)) acts)), _, bl ((nth acts k).op == (0 : Int)) = bl (false), bl ((nth acts k).op == (1 : Int)) = bl (true), _, _, i64 (IntKind.i64.wrap ((↑n : Int) + (1 : Int))) = i64 ((↑n : Int) + (1 : Int)), _, bl ((↑aa'.length : Int) != (↑n : Int) + (1 : Int)) = bl (false), i64 (IntKind.i64.wrap ((↑k : Int) + (1 : Int))) = i64 ((↑k : Int) + (1 : Int)), true = true, true = true]) (by kernel_rfl) ⟨(bdT (by omega)), (by exact decide_t (by omega)), (by exact flat_nth (sz := 8) (k := k) (fun _ => rfl) (by omega)), (hA), (beF (by omega)), (beT (by assumption)), (hO), (hS), (intE (by exact wrap_i64 (by omega) (by omega))), (hB), (neT (by omega)), (intE (by exact wrap_i64 (by omega) (by omega))), rfl, rfl, trivial⟩
theorem on_2a (acts : List Act) (t t' : Tab) (k : Nat) (n m : Nat) (aa aa' : List Asked) (hk : k < acts.length) (hl : acts.length ≤ 40) (hn : n ≤ 256) (hm : m ≤ 256) (hA : Pu 14 [tabA t] (slE askL aa)) (hB : Pu 14 [tabA t'] (slE askL aa')) (ha : aa.length = n) (hb : aa'.length = m) (ho : (nth acts k).op = 2) (e : m + 1 = n) (hS : Pu 16 [tabA t, i64 (nth acts k).client, u32 (nth acts k).win, u32 (nth acts k).sel] (.tup [tabA t', bl true])) : Tri C0 onB (onS acts t n k) .normal (onS acts t' m (k + 1)) := by
  exact runF_ok (hs := hint [((8,3), {val := some (bl (true))}), ((10,2), {cells := some (actL (nth acts k) ++ List.flatMap actL (List.drop (k + (1 : Nat)) acts)), sym := true}), ((12,1), {call := some ((slE askL aa))}), ((14,1), {val := some (bl (false))}), ((18,1), {val := some (bl (false))}), ((25,1), {val := some (bl (true))}), ((26,7), {call := some (AV.tup [(tabA t'), (bl true)])}), ((29,1), { val := some (i64 m) }), ((44,1), {call := some ((slE askL aa'))}), ((44,4), {val := some (bl (false))}), ((9,1), {val := some (i64 ((↑k : Int) + (1 : Int)))})]) (f := { ks := [0, 3, 4, 5], l := [0] }) (ps := [bl (decide ((↑k : Int) < (↑acts.length : Int))) = bl (true), decide ((0 : Int) ≤ (↑k : Int) ∧ (↑k : Int) < (↑acts.length : Int)) = true, ((List.drop ((↑k : Int).toNat * (8 : Nat)) (List.flatMap actL acts)) : List AV) = (actL (nth acts k) ++ List.flatMap actL (List.drop (k + (1 : Nat)) acts)), _, bl ((nth acts k).op == (0 : Int)) = bl (false), bl ((nth acts k).op == (1 : Int)) = bl (false), bl ((nth acts k).op == (2 : Int)) = bl (true), _, i64 (IntKind.i64.wrap ((↑n : Int) - (1 : Int))) = i64 ((↑m : Int)), _, bl ((↑aa'.length : Int) != (↑m : Int)) = bl (false), i64 (IntKind.i64.wrap ((↑k : Int) + (1 : Int))) = i64 ((↑k : Int) + (1 : Int)), true = true, true = true]) (by kernel_rfl) ⟨(bdT (by omega)), (by exact decide_t (by omega)), (by exact flat_nth (sz := 8) (k := k) (fun _ => rfl) (by omega)), (hA), (beF (by omega)), (beF (by omega)), (beT (by assumption)), (hS), (by exact intE (by rw [wrap_i64 (by omega) (by omega)]; omega)), (hB), (neT (by omega)), (intE (by exact wrap_i64 (by omega) (by omega))), rfl, rfl, trivial⟩
theorem on_2b (acts : List Act) (t t' : Tab) (k : Nat) (n m : Nat) (aa aa' : List Asked) (hk : k < acts.length) (hl : acts.length ≤ 40) (hn : n ≤ 256) (hm : m ≤ 256) (hA : Pu 14 [tabA t] (slE askL aa)) (hB : Pu 14 [tabA t'] (slE askL aa')) (ha : aa.length = n) (hb : aa'.length = m) (ho : (nth acts k).op = 2) (e : m = n) (hS : Pu 16 [tabA t, i64 (nth acts k).client, u32 (nth acts k).win, u32 (nth acts k).sel] (.tup [tabA t', bl false])) : Tri C0 onB (onS acts t n k) .normal (onS acts t' m (k + 1)) := by
  subst e
  exact runF_ok (hs := hint [((8,3), {val := some (bl (true))}), ((10,2), {cells := some (actL (nth acts k) ++ List.flatMap actL (List.drop (k + (1 : Nat)) acts)), sym := true}), ((12,1), {call := some ((slE askL aa))}), ((14,1), {val := some (bl (false))}), ((18,1), {val := some (bl (false))}), ((25,1), {val := some (bl (true))}), ((26,7), {call := some (AV.tup [(tabA t'), (bl false)])}), ((44,1), {call := some ((slE askL aa'))}), ((44,4), {val := some (bl (false))}), ((9,1), {val := some (i64 ((↑k : Int) + (1 : Int)))})]) (f := { ks := [0, 3, 4, 5], l := [0] }) (ps := [bl (decide ((↑k : Int) < (↑acts.length : Int))) = bl (true), decide ((0 : Int) ≤ (↑k : Int) ∧ (↑k : Int) < (↑acts.length : Int)) = true, ((List.drop ((↑k : Int).toNat * (8 : Nat)) (List.flatMap actL acts)) : List AV) = (actL (nth acts k) ++ List.flatMap actL (List.drop (k + (1 : Nat)) acts)), _, bl ((nth acts k).op == (0 : Int)) = bl (false), bl ((nth acts k).op == (1 : Int)) = bl (false), bl ((nth acts k).op == (2 : Int)) = bl (true), _, _, bl ((↑aa'.length : Int) != (↑m : Int)) = bl (false), i64 (IntKind.i64.wrap ((↑k : Int) + (1 : Int))) = i64 ((↑k : Int) + (1 : Int)), true = true, true = true]) (by kernel_rfl) ⟨(bdT (by omega)), (by exact decide_t (by omega)), (by exact flat_nth (sz := 8) (k := k) (fun _ => rfl) (by omega)), (hA), (beF (by omega)), (beF (by omega)), (beT (by assumption)), (hS), (hB), (neT (by omega)), (intE (by exact wrap_i64 (by omega) (by omega))), rfl, rfl, trivial⟩
theorem on_3 (acts : List Act) (t t' : Tab) (k : Nat) (n m : Nat) (aa aa' : List Asked) (hk : k < acts.length) (hl : acts.length ≤ 40) (hn : n ≤ 256) (hm : m ≤ 256) (hA : Pu 14 [tabA t] (slE askL aa)) (hB : Pu 14 [tabA t'] (slE askL aa')) (ha : aa.length = n) (hb : aa'.length = m) (ho : (nth acts k).op = 3) (ss : List Send) (g : Nat) (e : m + (g + ss.length) = n) (hS : Pu 17 [tabA t, i64 (nth acts k).client, slU [(nth acts k).win]] (convA (t', ss))) (L1 : LoopT C0 on2B (on2S acts (nth acts k) t' aa ss n k 0 0) (.exit 3) (on2S acts (nth acts k) t' aa ss n k g aa.length)) (L2 : LoopT C0 on3B (on3S acts (nth acts k) t' ss m k 0) (.exit 5) (on3S acts (nth acts k) t' ss m k ss.length)) : Tri C0 onB (onS acts t n k) .normal (onS acts t' m (k + 1)) := by
  exact runF_ok (hs := hint [((8,3), {val := some (bl (true))}), ((10,2), {cells := some (actL (nth acts k) ++ List.flatMap actL (List.drop (k + (1 : Nat)) acts)), sym := true}), ((12,1), {call := some ((slE askL aa))}), ((14,1), {val := some (bl (false))}), ((18,1), {val := some (bl (false))}), ((25,1), {val := some (bl (false))}), ((30,1), {val := some (bl (true))}), ((31,6), {call := some ((convA (t', ss)))}), ((34,1000), {loop := some ({ ks := [0, 3, 4, 5, 6, 7, 8, 13, 14], l := [0, 1] }, on2S acts (nth acts k) t' aa ss (↑n : Int) k (0 : Nat) (0 : Nat), Ex.exit (3 : Nat), on2S acts (nth acts k) t' aa ss (↑n : Int) k g aa.length)}), ((38,2), {val := some (i64 ((↑n : Int) - (↑g : Int)))}), ((38,5), { val := some (i64 m) }), ((40,1000), {loop := some ({ ks := [0, 3, 4, 5, 6, 7, 15], l := [0, 1] }, on3S acts (nth acts k) t' ss (↑m : Int) k (0 : Nat), Ex.exit (5 : Nat), on3S acts (nth acts k) t' ss (↑m : Int) k ss.length)}), ((44,1), {call := some ((slE askL aa'))}), ((44,4), {val := some (bl (false))}), ((9,1), {val := some (i64 ((↑k : Int) + (1 : Int)))})]) (f := { ks := [0, 3, 4, 5], l := [0] }) (ps := [bl (decide ((↑k : Int) < (↑acts.length : Int))) = bl (true), decide ((0 : Int) ≤ (↑k : Int) ∧ (↑k : Int) < (↑acts.length : Int)) = true, ((List.drop ((↑k : Int).toNat * (8 : Nat)) (List.flatMap actL acts)) : List AV) = (actL (nth acts k) ++ List.flatMap actL (List.drop (k + (1 : Nat)) acts)), _, bl ((nth acts k).op == (0 : Int)) = bl (false), bl ((nth acts k).op == (1 : Int)) = bl (false), bl ((nth acts k).op == (2 : Int)) = bl (false), bl ((nth acts k).op == (3 : Int)) = bl (true), _, on2S acts (nth acts k) t' aa ss (↑n : Int) k (0 : Nat) (0 : Nat) = on2S acts (nth acts k) t' aa ss (↑n : Int) k (0 : Nat) (0 : Nat), _, true = true, true = true, true = true, i64 (IntKind.i64.wrap ((↑n : Int) - (↑g : Int))) = i64 ((↑n : Int) - (↑g : Int)), i64 (IntKind.i64.wrap ((↑n : Int) - (↑g : Int) - (↑ss.length : Int))) = i64 ((↑m : Int)), on3S acts (nth acts k) t' ss (↑m : Int) k (0 : Nat) = on3S acts (nth acts k) t' ss (↑m : Int) k (0 : Nat), _, true = true, true = true, true = true, _, bl ((↑aa'.length : Int) != (↑m : Int)) = bl (false), i64 (IntKind.i64.wrap ((↑k : Int) + (1 : Int))) = i64 ((↑k : Int) + (1 : Int)), true = true, true = true]) (by kernel_rfl) ⟨(bdT (by omega)), (by exact decide_t (by omega)), (by exact flat_nth (sz := 8) (k := k) (fun _ => rfl) (by omega)), (hA), (beF (by omega)), (beF (by omega)), (beF (by omega)), (beT (by assumption)), (hS), rfl, L1, rfl, rfl, rfl, (intE (by exact wrap_i64 (by omega) (by omega))), (by exact intE (by rw [wrap_i64 (by omega) (by omega)]; omega)), rfl, L2, rfl, rfl, rfl, (hB), (neT (by omega)), (intE (by exact wrap_i64 (by omega) (by omega))), rfl, rfl, trivial⟩
theorem on_4 (acts : List Act) (t t' : Tab) (k : Nat) (n m : Nat) (aa aa' : List Asked) (hk : k < acts.length) (hl : acts.length ≤ 40) (hn : n ≤ 256) (hm : m ≤ 256) (hA : Pu 14 [tabA t] (slE askL aa)) (hB : Pu 14 [tabA t'] (slE askL aa')) (ha : aa.length = n) (hb : aa'.length = m) (ho : ¬ (nth acts k).op = 0) (h1 : ¬ (nth acts k).op = 1) (h2 : ¬ (nth acts k).op = 2) (h3 : ¬ (nth acts k).op = 3) : Tri C0 onB (onS acts t n k) .normal (onS acts t n (k + 1)) := by
  exact runF_ok (hs := hint [((8,3), {val := some (bl (true))}), ((10,2), {cells := some (actL (nth acts k) ++ List.flatMap actL (List.drop (k + (1 : Nat)) acts)), sym := true}), ((12,1), {call := some ((slE askL aa))}), ((14,1), {val := some (bl (false))}), ((18,1), {val := some (bl (false))}), ((25,1), {val := some (bl (false))}), ((30,1), {val := some (bl (false))}), ((44,1), {call := some ((slE askL aa))}), ((44,4), {val := some (bl (false))}), ((9,1), {val := some (i64 ((↑k : Int) + (1 : Int)))})]) (f := { ks := [0, 3, 4, 5], l := [0] }) (ps := [bl (decide ((↑k : Int) < (↑acts.length : Int))) = bl (true), decide ((0 : Int) ≤ (↑k : Int) ∧ (↑k : Int) < (↑acts.length : Int)) = true, ((List.drop ((↑k : Int).toNat * (8 : Nat)) (List.flatMap actL acts)) : List AV) = (actL (nth acts k) ++ List.flatMap actL (List.drop (k + (1 : Nat)) acts)), _, bl ((nth acts k).op == (0 : Int)) = bl (false), bl ((nth acts k).op == (1 : Int)) = bl (false), bl ((nth acts k).op == (2 : Int)) = bl (false), bl ((nth acts k).op == (3 : Int)) = bl (false), _, bl ((↑aa.length : Int) != (↑n : Int)) = bl (false), i64 (IntKind.i64.wrap ((↑k : Int) + (1 : Int))) = i64 ((↑k : Int) + (1 : Int)), true = true, true = true]) (by kernel_rfl) ⟨(bdT (by omega)), (by exact decide_t (by omega)), (by exact flat_nth (sz := 8) (k := k) (fun _ => rfl) (by omega)), (hA), (beF (by assumption)), (beF (by assumption)), (beF (by assumption)), (beF (by assumption)), (hA), (neT (by omega)), (intE (by exact wrap_i64 (by omega) (by omega))), rfl, rfl, trivial⟩
theorem on_end (acts : List Act) (t : Tab) (p : Int) : LoopT C0 onB (onS acts t p acts.length) (.exit 0) (onS acts t p acts.length) := by
  exact LoopT.fin (hs := hint [((8,3), {val := some (bl (false))})]) (f := { ks := [0, 3, 4, 5], l := [0] }) (ps := [bl (decide ((↑acts.length : Int) < (↑acts.length : Int))) = bl (false), true = true, true = true]) (by kernel_rfl) ⟨(bdF (by omega)), rfl, rfl, trivial⟩ (by decide)
theorem askL_nil (t : Tab) (h : TOk t) : Pu 14 [tabA t] (slE askL (t.q.map (·.a))) := all_ok t (by have := h.room; omega)
theorem q_set (t : Tab) (a client win time now : Int) : (setD t a client win time now).1.q = t.q := by unfold setD; split <;> rfl
/-- what an act makes of a table, where a Drop is always of the window too -/
def stepO (t : Tab) (a : Act) : Tab :=
  if a.op = 0 then (setD t a.sel a.client a.win a.time a.now).1
  else if a.op = 1 then (convD t ⟨a.client, a.win, a.sel, 0, 0, a.time⟩).1
  else if a.op = 2 then (ansT t a.client a.win a.sel).1
  else if a.op = 3 then (dropT t a.client [a.win]).1
  else t
theorem stepO_tok {t : Tab} (h : TOk t) (hl : t.c.length < 1000) (a : Act) (ha : AOk a) : TOk (stepO t a) := by
  unfold stepO
  split
  · exact set_tok h hl _ _ _ _ _ ha
  · split
    · exact conv_tok h _
    · split
      · exact ans_tok h _ _ _
      · split
        · exact drop_tok h _ _
        · exact h
theorem stepO_len (t : Tab) (a : Act) : (stepO t a).c.length ≤ t.c.length + 1 := by
  unfold stepO
  split
  · exact set_len _ _ _ _ _ _
  · split
    · unfold convD; split <;> exact Nat.le_succ _
    · split
      · unfold ansT; split <;> exact Nat.le_succ _
      · split
        · show (t.c.map _).length ≤ _; rw [List.length_map]; exact Nat.le_succ _
        · exact Nat.le_succ _
theorem stepO_room (t : Tab) (a : Act) : (stepO t a).q.length ≤ t.q.length + 1 := by
  unfold stepO
  split
  · rw [q_set]; exact Nat.le_succ _
  · split
    · unfold convD; split
      · exact Nat.le_succ _
      · show (t.q ++ [_]).length ≤ _; rw [List.length_append, List.length_singleton]; exact Nat.le_refl _
    · split
      · unfold ansT; split
        · rename_i k hk
          show (dropAt t.q k).length ≤ _
          rw [drop_len (idx_some hk).1]; omega
        · exact Nat.le_succ _
      · split
        · exact Nat.le_trans (flat_le _ (keepQ_le _ _) _) (Nat.le_succ _)
        · exact Nat.le_succ _
def runO (acts : List Act) : Tab := acts.foldl stepO ⟨[], []⟩
theorem runO_snoc (acts : List Act) (k : Nat) (hk : k < acts.length) : runO (acts.take (k + 1)) = stepO (runO (acts.take k)) (nth acts k) := by
  rw [take_nth hk, runO, List.foldl_append]; rfl
theorem runO_tok (acts : List Act) (ha : ∀ a ∈ acts, AOk a) : ∀ k, k ≤ acts.length → k ≤ 900 → TOk (runO (acts.take k)) ∧ (runO (acts.take k)).c.length ≤ k ∧ (runO (acts.take k)).q.length ≤ k := by
  intro k
  induction k with
  | zero => intro _ _; exact ⟨tok0, by simp [runO], by simp [runO]⟩
  | succ k ih =>
    intro h1 h2
    obtain ⟨q1, q2, q3⟩ := ih (by omega) (by omega)
    rw [runO_snoc acts k (by omega)]
    exact ⟨stepO_tok q1 (by omega) _ (ha _ (nth_mem (by omega))), Nat.le_trans (stepO_len _ _) (by omega), Nat.le_trans (stepO_room _ _) (by omega)⟩
theorem on_step (acts : List Act) (ha : ∀ a ∈ acts, AOk a) (t : Tab) (h : TOk t) (hc : t.c.length < 1000) (hq : t.q.length < 200) (k : Nat) (hk : k < acts.length) (hl : acts.length ≤ 40) : Tri C0 onB (onS acts t t.q.length k) .normal (onS acts (stepO t (nth acts k)) (stepO t (nth acts k)).q.length (k + 1)) := by
  have hs := ha _ (nth_mem hk)
  have h' := stepO_tok h hc _ hs
  have hr' := stepO_room t (nth acts k)
  have hA := askL_nil t h
  have hB := askL_nil _ h'
  unfold stepO at h' hB hr' ⊢
  by_cases o0 : (nth acts k).op = 0
  · rw [if_pos o0] at h' hB hr' ⊢
    have hS := set_ok t h (nth acts k).sel (nth acts k).client (nth acts k).win (nth acts k).time (nth acts k).now hs.1 hs.2
    have e := q_set t (nth acts k).sel (nth acts k).client (nth acts k).win (nth acts k).time (nth acts k).now
    have hsay : (setD t (nth acts k).sel (nth acts k).client (nth acts k).win (nth acts k).time (nth acts k).now).2.1 = [] ∨ ∃ c l, (setD t (nth acts k).sel (nth acts k).client (nth acts k).win (nth acts k).time (nth acts k).now).2.1 = [⟨c, 22, l⟩] := by
      unfold setD
      split
      · exact .inl rfl
      · unfold sayD
        split
        · exact .inr ⟨_, _, rfl⟩
        · exact .inl rfl
    rcases hsay with q | ⟨c, l, q⟩
    · exact on_0a acts t _ k _ _ _ _ hk hl (by omega) (by omega) hA hB (by simp) (by simp) o0 (by rw [e]) _ (by unfold setA at hS ⊢; rw [q] at hS; exact hS)
    · exact on_0b acts t _ k _ _ _ _ hk hl (by omega) (by omega) hA hB (by simp) (by simp) o0 (by rw [e]) _ c l (by unfold setA at hS ⊢; rw [q] at hS; exact hS)
  · rw [if_neg o0] at h' hB hr' ⊢
    by_cases o1 : (nth acts k).op = 1
    · rw [if_pos o1] at h' hB hr' ⊢
      have hS : Pu 15 [tabA t, A [i64 (nth acts k).client, u32 (nth acts k).win, u32 (nth acts k).sel, u32 0, u32 0, u32 (nth acts k).time]] (convA (convD t ⟨(nth acts k).client, (nth acts k).win, (nth acts k).sel, 0, 0, (nth acts k).time⟩)) := conv_ok t h ⟨(nth acts k).client, (nth acts k).win, (nth acts k).sel, 0, 0, (nth acts k).time⟩ hs.1 hs.2
      unfold convD refuseD at hS hB h' hr' ⊢
      by_cases hh : (findT t (nth acts k).sel).has = true
      · have hw := (has_iff _).1 hh
        have hn : ¬ decide ((findT t (nth acts k).sel).win = 0 ∨ 256 ≤ t.q.length) = true := fun q => (of_decide_eq_true q).elim hw (by omega)
        rw [if_neg hn] at hS hB h' hr' ⊢
        exact on_1b acts t _ k _ _ _ _ hk hl (by omega) (by omega) hA hB (by simp) (by simp) o1 (by simp) _ _ _ (owner_has h hs.1 hs.2 hh) _ _ hS
      · have hw : (findT t (nth acts k).sel).win = 0 := by
          by_cases hw : (findT t (nth acts k).sel).win = 0
          · exact hw
          · exact absurd ((has_iff _).2 hw) hh
        have hn : decide ((findT t (nth acts k).sel).win = 0 ∨ 256 ≤ t.q.length) = true := decide_eq_true (.inl hw)
        rw [if_pos hn] at hS hB h' hr' ⊢
        exact on_1a acts t _ k _ _ _ _ hk hl (by omega) (by omega) hA hB (by simp) (by simp) o1 rfl _ _ _ (owner_not h hs.1 hs.2 hh) _ hS
    · rw [if_neg o1] at h' hB hr' ⊢
      by_cases o2 : (nth acts k).op = 2
      · rw [if_pos o2] at h' hB hr' ⊢
        have hS := ans_ok t (nth acts k).client (nth acts k).win (nth acts k).sel (by omega)
        unfold ansT at hS hB h' hr' ⊢
        cases hx : idxD (ansD (nth acts k).client (nth acts k).win (nth acts k).sel) t.q with
        | some m =>
          rw [hx] at hS hB h' hr'
          simp only at hS hB h' hr' ⊢
          have hd := drop_len (idx_some hx).1
          have hm := (idx_some hx).1
          exact on_2a acts t _ k _ _ _ _ hk hl (by omega) (by omega) hA hB (by simp) (by simp) o2 (by omega) hS
        | none =>
          rw [hx] at hS hB h' hr'
          simp only at hS hB h' hr' ⊢
          exact on_2b acts t _ k _ _ _ _ hk hl (by omega) (by omega) hA hB (by simp) (by simp) o2 rfl hS
      · rw [if_neg o2] at h' hB hr' ⊢
        by_cases o3 : (nth acts k).op = 3
        · rw [if_pos o3] at h' hB hr' ⊢
          have hS := drop_ok t h (nth acts k).client [(nth acts k).win] (by simp)
          have hcount := drop_count (nth acts k).client [(nth acts k).win] t.q
          have hle : (t.q.flatMap (sayQ (nth acts k).client [(nth acts k).win])).length ≤ t.q.length := flat_le _ (sayQ_le _ _) _
          have hoth : ∀ s ∈ t.q.flatMap (sayQ (nth acts k).client [(nth acts k).win]), s.code = 24 ∧ ¬ s.client = (nth acts k).client := fun s hs => say_other hs
          have L1 := on2_all acts (nth acts k) (dropT t (nth acts k).client [(nth acts k).win]).1 t.q (by omega) _ rfl (t.q.flatMap (sayQ (nth acts k).client [(nth acts k).win])) t.q.length k
          refine on_3 acts t _ k _ _ _ _ hk hl (by omega) (by omega) hA hB (by simp) (by simp) o3 _ (cnt (goneD (nth acts k).client [(nth acts k).win]) t.q) hcount hS L1 ?_
          exact LoopT.count (on3S acts (nth acts k) _ _ _ k) _ (fun j hj => on3_step acts (nth acts k) _ _ _ k j hj (by show List.length (t.q.flatMap _) ≤ _; omega) (hoth _ (nth_mem hj)).1 (hoth _ (nth_mem hj)).2) (on3_end acts (nth acts k) _ _ _ k) 0 (by omega)
        · rw [if_neg o3] at h' hB hr' ⊢
          exact on_4 acts t t k _ t.q.length _ _ hk hl (by omega) (by omega) hA hB (by simp) (by simp) o0 o1 o2 o3
theorem once_ok (acts : List Act) (ha : ∀ a ∈ acts, AOk a) : Pu 5 [slA acts] (bl true) := by
  by_cases hl : acts.length ≤ 40
  · have L := LoopT.count (fun k => onS acts (runO (acts.take k)) (runO (acts.take k)).q.length k) acts.length (fun k hk => by
      obtain ⟨q1, q2, q3⟩ := runO_tok acts ha k (by omega) (by omega)
      have e := runO_snoc acts k hk
      simp only [e]
      exact on_step acts ha _ q1 (by omega) (by omega) k hk hl) (on_end acts _ _) 0 (by omega)
    simp only [List.take_length, List.take_zero] at L
    generalize runO acts = r at L
    have L' : LoopT C0 onB (onS acts ⟨[], []⟩ 0 0) (.exit 0) (onS acts r r.q.length acts.length) := L
    exact pure_of (hs := hint [((1,0), {call := some ((bl true))}), ((3,2), {val := some (bl (false))}), ((8,1000), {loop := some ({ ks := [0, 3, 4, 5], l := [0], mx := [0] }, onS acts { c := [], q := [] : Tab } (0 : Int) (0 : Nat), Ex.exit (0 : Nat), onS acts r (↑r.q.length : Int) acts.length)})]) (ps := [_, bl (decide ((↑acts.length : Int) > (40 : Int))) = bl (false), onS acts { c := [], q := [] : Tab } (0 : Int) (0 : Nat) = onS acts { c := [], q := [] : Tab } (0 : Int) (0 : Nat), _, true = true]) (by kernel_rfl) ⟨(awake_ok), (bdF (by omega)), rfl, L', rfl, trivial⟩
  · exact pure_of (hs := hint [((1,0), {call := some ((bl true))}), ((3,2), {val := some (bl (true))})]) (ps := [_, bl (decide ((↑acts.length : Int) > (40 : Int))) = bl (true)]) (by kernel_rfl) ⟨(awake_ok), (bdT (by omega)), trivial⟩
end Go.Proofs.Ythniagmdnogpdaa
