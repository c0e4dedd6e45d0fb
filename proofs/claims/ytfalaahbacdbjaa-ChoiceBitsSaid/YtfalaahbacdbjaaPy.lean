/- The example; what is played; what a choice tells. By the prover of this seat. -/
import Derived.Test.YtfalaahbacdbjaaPv
set_option linter.unusedVariables false
set_option linter.unusedSimpArgs false
set_option maxRecDepth 100000
set_option maxHeartbeats 4000000
namespace Go.Proofs.Ytfalaahbacdbjaa
open Go.RowKit Go.Pm
/-! the example -/
def lE1 : List Row := [⟨1, 1048577, 5⟩]
def lE2 : List Row := [⟨1, 1048577, 5⟩, ⟨2, 1048577, 1⟩]
def lE3 : List Row := [⟨1, 1048577, 5⟩, ⟨2, 1048577, 1⟩, ⟨0, 1048578, 4⟩]
theorem ok1 : LOk lE1 := lok_put lok_nil ⟨1, 1048577, 5⟩ (by decide) (by decide)
theorem ok2 : LOk lE2 := lok_put ok1 ⟨2, 1048577, 1⟩ (by decide) (by decide)
theorem ok3 : LOk lE3 := lok_put ok2 ⟨0, 1048578, 4⟩ (by decide) (by decide)
theorem awake_ok : Pu 9 [] (bl true) := by
  have s1 := pset_ok [] lok_nil 1 1048577 5 (by decide) (by decide)
  rw [show setD [] 1 1048577 5 = (lE1, 0) from rfl] at s1
  have s2 := pset_ok lE1 ok1 2 1048577 4 (by decide) (by decide)
  rw [show setD lE1 2 1048577 4 = (lE1, 15) from rfl] at s2
  have s3 := pset_ok lE1 ok1 2 1048577 1 (by decide) (by decide)
  rw [show setD lE1 2 1048577 1 = (lE2, 0) from rfl] at s3
  have s4 := pfind_ok lE2 ok2 [1048578, 1048577] (by decide) (by decide) 4
  rw [show findR lE2 [1048578, 1048577] (mN 4) = (1048577, [1]) from rfl] at s4
  have s5 := pstop_ok lE2 ok2 1048578 4 (by decide) (by decide)
  rw [show stopD lE2 1048578 4 = (lE3, 0) from rfl] at s5
  have s6 := pfind_ok lE3 ok3 [1048578, 1048577] (by decide) (by decide) 4
  rw [show findR lE3 [1048578, 1048577] (mN 4) = (0, []) from rfl] at s6
  have s7 := pwho_ok lE2 ok2 1048577 1 (by decide) (by decide)
  rw [show whoR lE2 1048577 (mN 1) = [1, 2] from rfl] at s7
  have s8 := same_ok [1, 2] (by decide)
  have s9 := same_ok [1] (by decide)
  have sa := stopped_ok lE3 ok3 1048578 (by decide) (by decide)
  rw [show maskR lE3 0 1048578 = 4 from rfl] at sa
  exact pure_of (hs := hint [((2,2), {call := some ((outA lE1 (0 : Int)))}), ((3,2), {call := some ((outA lE1 (15 : Int)))}), ((4,2), {call := some ((outA lE2 (0 : Int)))}), ((5,4), {call := some (AV.tup [(u32 (1048577 : Int)), (slJ [(1 : Int)])])}), ((6,2), {call := some ((outA lE3 (0 : Int)))}), ((7,4), {call := some (AV.tup [(u32 (0 : Int)), (slJ [])])}), ((8,17), {call := some ((slJ [(1 : Int), (2 : Int)]))}), ((8,19), {call := some ((bl true))}), ((8,29), {call := some ((bl true))}), ((8,38), {call := some ((i64 (↑(4 : Nat) : Int)))})]) (ps := [_, _, _, _, _, _, _, _, _, _]) (by kernel_rfl) ⟨(s1), (s2), (s3), (s4), (s5), (s6), (s7), (s8), (s9), (sa), trivial⟩
/-! what is played -/
def stepR (l : List Row) (a : Act) : List Row := if a.op = 0 then (setD l a.c a.id a.m).1 else if a.op = 1 then (stopD l a.id a.m).1 else if a.op = 2 then l.filter (keepD a.c a.id) else l
def runR (acts : List Act) : List Row := acts.foldl stepR []
def AOk (a : Act) : Prop := (-9223372036854775808 ≤ a.c ∧ a.c ≤ 9223372036854775807) ∧ 0 ≤ a.id ∧ a.id ≤ 4294967295
theorem step_lok {l : List Row} (h : LOk l) (hl : l.length < 1000) (a : Act) (ha : AOk a) : LOk (stepR l a) := by
  unfold stepR
  split
  · exact lok_set h _ _ _ ha.2.1 ha.2.2 hl
  split
  · exact lok_stop h _ _ ha.2.1 ha.2.2 hl
  split
  · exact lok_filter h _
  · exact h
theorem step_len (l : List Row) (a : Act) : (stepR l a).length ≤ l.length + 1 := by
  unfold stepR
  split
  · exact set_len _ _ _ _
  split
  · exact stop_len _ _ _
  split
  · exact Nat.le_trans (List.length_filter_le _ _) (Nat.le_succ _)
  · exact Nat.le_succ _
theorem take_nthA {α : Type} [Inhabited α] {l : List α} {k : Nat} (h : k < l.length) : l.take (k + 1) = l.take k ++ [nth l k] := by
  rw [List.take_add_one, List.getElem?_eq_getElem h, nth_eq h]; rfl
theorem run_snoc (acts : List Act) (k : Nat) (hk : k < acts.length) : runR (acts.take (k + 1)) = stepR (runR (acts.take k)) (nth acts k) := by
  rw [take_nthA hk, runR, List.foldl_append]; rfl
theorem run_lok (acts : List Act) (ha : ∀ a ∈ acts, AOk a) : ∀ k, k ≤ acts.length → k ≤ 900 → LOk (runR (acts.take k)) ∧ (runR (acts.take k)).length ≤ k := by
  intro k
  induction k with
  | zero => intro _ _; exact ⟨lok_nil, by simp [runR]⟩
  | succ k ih =>
    intro h1 h2
    obtain ⟨q1, q2⟩ := ih (by omega) (by omega)
    rw [run_snoc acts k (by omega)]
    exact ⟨step_lok q1 (by omega) _ (ha _ (nth_mem (by omega))), Nat.le_trans (step_len _ _) (by omega)⟩
theorem run_ok (acts : List Act) (ha : ∀ a ∈ acts, AOk a) (hl : acts.length ≤ 40) : LOk (runR acts) ∧ (runR acts).length ≤ 40 := by
  have := run_lok acts ha acts.length (Nat.le_refl _) (by omega)
  rw [List.take_length] at this
  exact ⟨this.1, by omega⟩
noncomputable def plB : Code := loopOf Try.prog 10 4
def plS (acts : List Act) (l : List Row) (k : Nat) : St := ⟨mkT 90 [(0, slA acts), (2, .ptr 0 0), (5, .ptr 1 0), (6, slR l), (7, i64 k)], [.arr 2 [.mp [], .mp []] 0, boxA l]⟩
theorem pl_0 (acts : List Act) (l l' : List Row) (e : Int) (k : Nat) (hk : k < acts.length) (hl : acts.length ≤ 40) (ho : (nth acts k).op = 0) (hA : Pu 17 [tabC l, i64 (nth acts k).c, u32 (nth acts k).id, i64 (nth acts k).m] (outA l' e)) (hR : Pu 24 [slR l, i64 (nth acts k).c, u32 (nth acts k).id, i64 (nth acts k).m] (outR l' e)) : Tri C0 plB (plS acts l k) .normal (plS acts l' (k + 1)) := by
  exact runF_ok (hs := hint [((4,3), {val := some (bl (true))}), ((6,2), {cells := some (actL (nth acts k) ++ List.flatMap actL (List.drop (k + (1 : Nat)) acts)), sym := true}), ((9,1), {val := some (bl (true))}), ((10,7), {call := some ((outA l' e))}), ((11,7), {call := some ((outR l' e))}), ((18,2), {val := some (bl (false))}), ((5,1), {val := some (i64 ((↑k : Int) + (1 : Int)))})]) (f := { ks := [0, 2, 5, 6, 7], l := [0, 1] }) (ps := [bl (decide ((↑k : Int) < (↑acts.length : Int))) = bl (true), decide ((0 : Int) ≤ (↑k : Int) ∧ (↑k : Int) < (↑acts.length : Int)) = true, ((List.drop ((↑k : Int).toNat * (4 : Nat)) (List.flatMap actL acts)) : List AV) = (actL (nth acts k) ++ List.flatMap actL (List.drop (k + (1 : Nat)) acts)), bl ((nth acts k).op == (0 : Int)) = bl (true), _, _, bl (e != e) = bl (false), i64 (IntKind.i64.wrap ((↑k : Int) + (1 : Int))) = i64 ((↑k : Int) + (1 : Int)), true = true, true = true, true = true]) (by kernel_rfl) ⟨(bdT (by omega)), (by exact decide_t (by omega)), (by exact flat_nth (sz := 4) (k := k) (fun _ => rfl) (by omega)), (beT (by assumption)), (hA), (hR), (neT (by omega)), (intE (by exact wrap_i64 (by omega) (by omega))), rfl, rfl, rfl, trivial⟩
theorem pl_1 (acts : List Act) (l l' : List Row) (e : Int) (k : Nat) (hk : k < acts.length) (hl : acts.length ≤ 40) (ho : (nth acts k).op = 1) (hA : Pu 23 [tabC l, u32 (nth acts k).id, i64 (nth acts k).m] (outA l' e)) (hR : Pu 25 [slR l, u32 (nth acts k).id, i64 (nth acts k).m] (outR l' e)) : Tri C0 plB (plS acts l k) .normal (plS acts l' (k + 1)) := by
  exact runF_ok (hs := hint [((4,3), {val := some (bl (true))}), ((6,2), {cells := some (actL (nth acts k) ++ List.flatMap actL (List.drop (k + (1 : Nat)) acts)), sym := true}), ((9,1), {val := some (bl (false))}), ((12,1), {val := some (bl (true))}), ((13,5), {call := some ((outA l' e))}), ((14,5), {call := some ((outR l' e))}), ((18,2), {val := some (bl (false))}), ((5,1), {val := some (i64 ((↑k : Int) + (1 : Int)))})]) (f := { ks := [0, 2, 5, 6, 7], l := [0, 1] }) (ps := [bl (decide ((↑k : Int) < (↑acts.length : Int))) = bl (true), decide ((0 : Int) ≤ (↑k : Int) ∧ (↑k : Int) < (↑acts.length : Int)) = true, ((List.drop ((↑k : Int).toNat * (4 : Nat)) (List.flatMap actL acts)) : List AV) = (actL (nth acts k) ++ List.flatMap actL (List.drop (k + (1 : Nat)) acts)), bl ((nth acts k).op == (0 : Int)) = bl (false), bl ((nth acts k).op == (1 : Int)) = bl (true), _, _, bl (e != e) = bl (false), i64 (IntKind.i64.wrap ((↑k : Int) + (1 : Int))) = i64 ((↑k : Int) + (1 : Int)), true = true, true = true, true = true]) (by kernel_rfl) ⟨(bdT (by omega)), (by exact decide_t (by omega)), (by exact flat_nth (sz := 4) (k := k) (fun _ => rfl) (by omega)), (beF (by omega)), (beT (by assumption)), (hA), (hR), (neT (by omega)), (intE (by exact wrap_i64 (by omega) (by omega))), rfl, rfl, rfl, trivial⟩
theorem pl_2 (acts : List Act) (l l' : List Row) (k : Nat) (hk : k < acts.length) (hl : acts.length ≤ 40) (ho : (nth acts k).op = 2) (hA : Pu 21 [tabC l, i64 (nth acts k).c, slI [(nth acts k).id]] (tabC l')) (hR : Pu 20 [slR l, i64 (nth acts k).c, u32 (nth acts k).id] (slR l')) : Tri C0 plB (plS acts l k) .normal (plS acts l' (k + 1)) := by
  exact runF_ok (hs := hint [((4,3), {val := some (bl (true))}), ((6,2), {cells := some (actL (nth acts k) ++ List.flatMap actL (List.drop (k + (1 : Nat)) acts)), sym := true}), ((9,1), {val := some (bl (false))}), ((12,1), {val := some (bl (false))}), ((15,1), {val := some (bl (true))}), ((16,6), {call := some ((tabC l'))}), ((17,5), {call := some ((slR l'))}), ((5,1), {val := some (i64 ((↑k : Int) + (1 : Int)))})]) (f := { ks := [0, 2, 5, 6, 7], l := [0, 1] }) (ps := [bl (decide ((↑k : Int) < (↑acts.length : Int))) = bl (true), decide ((0 : Int) ≤ (↑k : Int) ∧ (↑k : Int) < (↑acts.length : Int)) = true, ((List.drop ((↑k : Int).toNat * (4 : Nat)) (List.flatMap actL acts)) : List AV) = (actL (nth acts k) ++ List.flatMap actL (List.drop (k + (1 : Nat)) acts)), bl ((nth acts k).op == (0 : Int)) = bl (false), bl ((nth acts k).op == (1 : Int)) = bl (false), bl ((nth acts k).op == (2 : Int)) = bl (true), _, _, i64 (IntKind.i64.wrap ((↑k : Int) + (1 : Int))) = i64 ((↑k : Int) + (1 : Int)), true = true, true = true, true = true]) (by kernel_rfl) ⟨(bdT (by omega)), (by exact decide_t (by omega)), (by exact flat_nth (sz := 4) (k := k) (fun _ => rfl) (by omega)), (beF (by omega)), (beF (by omega)), (beT (by assumption)), (hA), (hR), (intE (by exact wrap_i64 (by omega) (by omega))), rfl, rfl, rfl, trivial⟩
theorem pl_3 (acts : List Act) (l : List Row) (k : Nat) (hk : k < acts.length) (hl : acts.length ≤ 40) (ho0 : ¬ (nth acts k).op = 0) (ho1 : ¬ (nth acts k).op = 1) (ho2 : ¬ (nth acts k).op = 2) : Tri C0 plB (plS acts l k) .normal (plS acts l (k + 1)) := by
  exact runF_ok (hs := hint [((4,3), {val := some (bl (true))}), ((6,2), {cells := some (actL (nth acts k) ++ List.flatMap actL (List.drop (k + (1 : Nat)) acts)), sym := true}), ((9,1), {val := some (bl (false))}), ((12,1), {val := some (bl (false))}), ((15,1), {val := some (bl (false))}), ((5,1), {val := some (i64 ((↑k : Int) + (1 : Int)))})]) (f := { ks := [0, 2, 5, 6, 7], l := [0, 1] }) (ps := [bl (decide ((↑k : Int) < (↑acts.length : Int))) = bl (true), decide ((0 : Int) ≤ (↑k : Int) ∧ (↑k : Int) < (↑acts.length : Int)) = true, ((List.drop ((↑k : Int).toNat * (4 : Nat)) (List.flatMap actL acts)) : List AV) = (actL (nth acts k) ++ List.flatMap actL (List.drop (k + (1 : Nat)) acts)), bl ((nth acts k).op == (0 : Int)) = bl (false), bl ((nth acts k).op == (1 : Int)) = bl (false), bl ((nth acts k).op == (2 : Int)) = bl (false), i64 (IntKind.i64.wrap ((↑k : Int) + (1 : Int))) = i64 ((↑k : Int) + (1 : Int)), true = true, true = true, true = true]) (by kernel_rfl) ⟨(bdT (by omega)), (by exact decide_t (by omega)), (by exact flat_nth (sz := 4) (k := k) (fun _ => rfl) (by omega)), (beF (by assumption)), (beF (by assumption)), (beF (by assumption)), (intE (by exact wrap_i64 (by omega) (by omega))), rfl, rfl, rfl, trivial⟩
theorem pl_end (acts : List Act) (l : List Row) : LoopT C0 plB (plS acts l acts.length) (.exit 0) (plS acts l acts.length) := by
  exact LoopT.fin (hs := hint [((4,3), {val := some (bl (false))})]) (f := { ks := [0, 2, 5, 6, 7], l := [0, 1] }) (ps := [bl (decide ((↑acts.length : Int) < (↑acts.length : Int))) = bl (false), true = true, true = true, true = true]) (by kernel_rfl) ⟨(bdF (by omega)), rfl, rfl, rfl, trivial⟩ (by decide)
theorem pl_step (acts : List Act) (ha : ∀ a ∈ acts, AOk a) (hl : acts.length ≤ 40) (l : List Row) (h : LOk l) (hn : l.length ≤ 100) (k : Nat) (hk : k < acts.length) : Tri C0 plB (plS acts l k) .normal (plS acts (stepR l (nth acts k)) (k + 1)) := by
  have hA := ha _ (nth_mem hk)
  have hm : ∀ r ∈ l, r.m ≤ 8191 := fun r hr => (h.row r hr).2.2.2.2
  unfold stepR
  split
  · exact pl_0 acts l _ _ k hk hl (by assumption) (pset_ok l h _ _ _ hA.2.1 hA.2.2) (rset_ok l hm (by omega) _ _ _)
  split
  · exact pl_1 acts l _ _ k hk hl (by assumption) (pstop_ok l h _ _ hA.2.1 hA.2.2) (rstop_ok l (by omega) _ _)
  split
  · have d := drop_ok l h (nth acts k).c hA.1.1 hA.1.2 [(nth acts k).id] (fun x hx => by rw [List.mem_singleton.1 hx]; exact hA.2) (by simp)
    rw [keep_one h] at d
    exact pl_2 acts l _ k hk hl (by assumption) d (rdrop_ok l _ _ (by omega))
  · exact pl_3 acts l k hk hl (by assumption) (by assumption) (by assumption)
def playA (l : List Row) : AV := .tup [tabC l, slR l, bl true]
theorem pl_all (acts : List Act) (ha : ∀ a ∈ acts, AOk a) (hl : acts.length ≤ 40) : LoopT C0 plB (plS acts [] 0) (.exit 0) (plS acts (runR acts) acts.length) := by
  have L := LoopT.count (fun k => plS acts (runR (acts.take k)) k) acts.length (fun k hk => by
      obtain ⟨q1, q2⟩ := run_lok acts ha k (by omega) (by omega)
      rw [run_snoc acts k hk]
      exact pl_step acts ha hl _ q1 (by omega) k hk) (pl_end acts _) 0 (by omega)
  simp only [List.take_length, List.take_zero] at L
  exact L
theorem played_ok (acts : List Act) (ha : ∀ a ∈ acts, AOk a) (hl : acts.length ≤ 40) : Pu 10 [slA acts] (playA (runR acts)) := by
  have L := pl_all acts ha hl
  generalize runR acts = l at L ⊢
  exact pure_of (hs := hint [((4,1000), {loop := some ({ ks := [0, 2, 5, 6, 7], l := [0, 1] }, plS acts [] (0 : Nat), Ex.exit (0 : Nat), plS acts l acts.length)})]) (ps := [plS acts [] (0 : Nat) = plS acts [] (0 : Nat), _, true = true, true = true, true = true]) (by kernel_rfl) ⟨rfl, L, rfl, rfl, rfl, trivial⟩
end Go.Proofs.Ytfalaahbacdbjaa
