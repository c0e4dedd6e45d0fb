/- Drops; Alone. By the prover of this seat. -/
import Derived.Test.YtfalaahbacdbjaaQa
set_option linter.unusedVariables false
set_option linter.unusedSimpArgs false
set_option maxRecDepth 100000
set_option maxHeartbeats 4000000
namespace Go.Proofs.Ytfalaahbacdbjaa
open Go.RowKit Go.Pm
theorem slI_own (z : List Int) (n : Nat) (h : n = z.length) : slI z = .sl n (List.take (n * 1) (List.drop 0 (z.flatMap eI))) := by
  rw [List.drop_zero, List.take_of_length_le (by rw [row_len (sz := 1) (fun _ => rfl), h]; exact Nat.le_refl _), h]; rfl
theorem all_own (n : Nat) (l : List Int) : [Bk.arr n (l.flatMap eI) 0].all pureB = true := by
  rw [List.all_cons, row_pureB (fun _ => rfl)]; rfl
/-! Drops -/
noncomputable def drB : Code := loopOf Try.prog 7 8
def drS (acts : List Act) (c : Int) (ids : List Int) (m : Int) (l R : List Row) (k : Nat) : St := ⟨mkT 64 [(0, slA acts), (1, i64 c), (2, slI ids), (3, i64 m), (9, .ptr 0 0), (10, slR l), (12, slR R), (13, i64 k)], [boxA l]⟩
theorem dr_step (acts : List Act) (c : Int) (ids : List Int) (m : Int) (l R R' : List Row) (k : Nat) (hk : k < ids.length) (hl : ids.length ≤ 10) (hR : Pu 20 [slR R, i64 0, u32 (nth ids k)] (slR R')) : Tri C0 drB (drS acts c ids m l R k) .normal (drS acts c ids m l R' (k + 1)) := by
  exact runF_ok (hs := hint [((8,3), {val := some (bl (true))}), ((10,3), {cells := some (eI (nth ids k) ++ List.flatMap eI (List.drop (k + (1 : Nat)) ids)), sym := true}), ((10,5), {call := some ((slR R'))}), ((9,1), {val := some (i64 ((↑k : Int) + (1 : Int)))})]) (f := { ks := [0, 1, 2, 3, 9, 10, 12, 13], l := [0] }) (ps := [bl (decide ((↑k : Int) < (↑ids.length : Int))) = bl (true), decide ((0 : Int) ≤ (↑k : Int) ∧ (↑k : Int) < (↑ids.length : Int)) = true, ((List.drop ((↑k : Int).toNat * (1 : Nat)) (List.flatMap eI ids)) : List AV) = (eI (nth ids k) ++ List.flatMap eI (List.drop (k + (1 : Nat)) ids)), _, i64 (IntKind.i64.wrap ((↑k : Int) + (1 : Int))) = i64 ((↑k : Int) + (1 : Int)), true = true, true = true]) (by kernel_rfl) ⟨(bdT (by omega)), (by exact decide_t (by omega)), (by exact flat_nth (sz := 1) (k := k) (fun _ => rfl) (by omega)), (hR), (intE (by exact wrap_i64 (by omega) (by omega))), rfl, rfl, trivial⟩
theorem dr_end (acts : List Act) (c : Int) (ids : List Int) (m : Int) (l R : List Row) : LoopT C0 drB (drS acts c ids m l R ids.length) (.exit 0) (drS acts c ids m l R ids.length) := by
  exact LoopT.fin (hs := hint [((8,3), {val := some (bl (false))})]) (f := { ks := [0, 1, 2, 3, 9, 10, 12, 13], l := [0] }) (ps := [bl (decide ((↑ids.length : Int) < (↑ids.length : Int))) = bl (false), true = true, true = true]) (by kernel_rfl) ⟨(bdF (by omega)), rfl, rfl, trivial⟩ (by decide)
theorem drops_go (acts : List Act) (ks : List Int) (c : Int) (ids : List Int) (m : Int) (l R0 R : List Row) (hl : acts.length ≤ 40) (hn : ids.length ≤ 10) (hk : ks.length ≤ 100) (hP : Pu 10 [slA acts] (playA l)) (h0 : Pu 20 [slR l, i64 c, u32 0] (slR R0)) (L : LoopT C0 drB (drS acts c ids m l R0 0) (.exit 0) (drS acts c ids m l R ids.length)) (hD : Pu 21 [tabC l, i64 c, slI ids] (tabC R)) (hI : Pure Try.prog G1 19 [slA acts] (.osl 0 0 ks.length 1) [.arr (ks.length * 1) (ks.flatMap eI) 0]) (h1 : Pu 18 [tabC R, slR R, .sl (ks.length + ids.length) (List.take ((ks.length + ids.length) * 1) (List.drop 0 ((ks ++ ids).flatMap eI))), i64 m] (bl true)) (h2 : Pu 18 [tabC l, slR l, .sl ks.length (List.take (ks.length * 1) (List.drop 0 (ks.flatMap eI))), i64 m] (bl true)) : Pu 7 [slA acts, i64 c, slI ids, i64 m] (bl true) := by
  have e1 : (ks ++ ids).flatMap eI = ks.flatMap eI ++ ids.flatMap eI := List.flatMap_append
  have e3 : (ids.flatMap eI).length = ids.length * 1 := row_len (sz := 1) (fun _ => rfl) ids
  have e2 : (ids.flatMap eI).take (ids.length * 1) = ids.flatMap eI := List.take_of_length_le (by omega)
  exact pure_of (hs := hint [((1,0), {call := some ((bl true))}), ((3,3), {val := some (bl (false))}), ((3,7), {val := some (bl (false))}), ((5,1), {call := some ((playA l))}), ((6,2), {call := some ((slR R0))}), ((8,1000), {loop := some ({ ks := [0, 1, 2, 3, 9, 10, 12, 13], l := [0] }, drS acts c ids m l R0 (0 : Nat), Ex.exit (0 : Nat), drS acts c ids m l R ids.length)}), ((11,3), {call := some ((tabC R))}), ((11,6), {call := some ((AV.osl (0 : Nat) (0 : Nat) ks.length (1 : Nat))), news := some ([Bk.arr (ks.length * (1 : Nat)) (List.flatMap eI ks) (0 : Nat)]), sym := true}), ((11,8), { sym := true, cells := some ((ks ++ ids).flatMap eI) }), ((11,10), {call := some ((bl true)), sym := true}), ((11,15), {call := some ((AV.osl (0 : Nat) (0 : Nat) ks.length (1 : Nat))), news := some ([Bk.arr (ks.length * (1 : Nat)) (List.flatMap eI ks) (0 : Nat)]), sym := true}), ((11,17), {call := some ((bl true)), sym := true})]) (ps := [_, bl (decide ((↑acts.length : Int) > (40 : Int))) = bl (false), bl (decide ((↑ids.length : Int) > (10 : Int))) = bl (false), _, _, drS acts c ids m l R0 (0 : Nat) = drS acts c ids m l R0 (0 : Nat), _, true = true, true = true, _, [Bk.arr (ks.length * (1 : Nat)) (List.flatMap eI ks) (0 : Nat)].all pureB = true, true = true, true = true, _, decide (ks.length * (1 : Nat) = ks.length * (1 : Nat) ∧ (0 : Nat) ≤ ks.length * (1 : Nat) ∧ ks.length * (1 : Nat) = (List.flatMap eI ks).length) = true, decide ((ks.length + ids.length) * (4 : Nat) ≤ (140737488355328 : Nat)) = true, decide ((List.take (ids.length * (1 : Nat)) (List.flatMap eI ids)).length = ids.length * (1 : Nat)) = true, ((List.flatMap eI ks ++ List.take (ids.length * (1 : Nat)) (List.flatMap eI ids)) : List AV) = (List.flatMap eI (ks ++ ids)), ([(2 : Nat)].all fun (i : Nat) => (Option.map pureB ((fun (j : Nat) => [Bk.arr (2 : Nat) [AV.mp (rowsK l), AV.mp (rowsT l)] (0 : Nat), Bk.dead, Bk.arr ((ks.length + ids.length) * (1 : Nat)) (List.flatMap eI (ks ++ ids)) (0 : Nat)][j]?) i)).getD false) = true, true = true, _, [Bk.arr (ks.length * (1 : Nat)) (List.flatMap eI ks) (0 : Nat)].all pureB = true, true = true, true = true, _, ([(3 : Nat)].all fun (i : Nat) => (Option.map pureB ((fun (j : Nat) => [Bk.arr (2 : Nat) [AV.mp (rowsK l), AV.mp (rowsT l)] (0 : Nat), Bk.dead, Bk.arr ((ks.length + ids.length) * (1 : Nat)) (List.flatMap eI (ks ++ ids)) ((ks.length + ids.length) * (1 : Nat)), Bk.arr (ks.length * (1 : Nat)) (List.flatMap eI ks) (0 : Nat)][j]?) i)).getD false) = true, true = true, _]) (by kernel_rfl) ⟨(awake_ok), (bdF (by omega)), (bdF (by omega)), (hP), (h0), rfl, L, rfl, rfl, (hD), (by exact all_own _ _), rfl, rfl, (hI), (by (first | exact e1.symm | (rw [e2]; exact e1.symm) | (rw [e2]; exact decide_t e3) | exact decide_t (by omega) | exact decide_t ⟨by omega, by omega, by rw [row_len (sz := 1) (fun _ => rfl)]; omega⟩ | exact decide_t (by rw [row_len (sz := 1) (fun _ => rfl)]; omega))), (by (first | exact e1.symm | (rw [e2]; exact e1.symm) | (rw [e2]; exact decide_t e3) | exact decide_t (by omega) | exact decide_t ⟨by omega, by omega, by rw [row_len (sz := 1) (fun _ => rfl)]; omega⟩ | exact decide_t (by rw [row_len (sz := 1) (fun _ => rfl)]; omega))), (by (first | exact e1.symm | (rw [e2]; exact e1.symm) | (rw [e2]; exact decide_t e3) | exact decide_t (by omega) | exact decide_t ⟨by omega, by omega, by rw [row_len (sz := 1) (fun _ => rfl)]; omega⟩ | exact decide_t (by rw [row_len (sz := 1) (fun _ => rfl)]; omega))), (by (first | exact e1.symm | (rw [e2]; exact e1.symm) | (rw [e2]; exact decide_t e3) | exact decide_t (by omega) | exact decide_t ⟨by omega, by omega, by rw [row_len (sz := 1) (fun _ => rfl)]; omega⟩ | exact decide_t (by rw [row_len (sz := 1) (fun _ => rfl)]; omega))), (by exact row_ids (fun _ => rfl) _ _ _ _ _ rfl), rfl, (h1), (by exact all_own _ _), rfl, rfl, (hI), (by exact row_ids (fun _ => rfl) _ _ _ _ _ rfl), rfl, (h2), trivial⟩
theorem drops_ok (acts : List Act) (ha : ∀ a ∈ acts, AOk a) (c : Int) (c1 : -9223372036854775808 ≤ c) (c2 : c ≤ 9223372036854775807) (ids : List Int) (hi : ∀ x ∈ ids, 0 ≤ x ∧ x ≤ 4294967295) (m : Int) : Pu 7 [slA acts, i64 c, slI ids, i64 m] (bl true) := by
  by_cases hl : acts.length ≤ 40
  · by_cases hn : ids.length ≤ 10
    · have hP := played_ok acts ha hl
      obtain ⟨q1, q2⟩ := run_ok acts ha hl
      have h2 := is_ok _ q1 (idsR acts) (ids_in acts ha) (by rw [ids_len]; omega) m
      have h0 := rdrop_ok (runR acts) c 0 (by omega)
      rw [← keep_nil q1 c] at h0
      have hD := drop_ok _ q1 c c1 c2 ids hi (by omega)
      have h1 := is_ok _ (lok_filter q1 (keepG c ids)) (idsR acts ++ ids) (fun x hx => by
        rcases List.mem_append.1 hx with q | q
        · exact ids_in acts ha x q
        · exact hi x q) (by rw [List.length_append, ids_len]; omega) m
      have L := LoopT.count (fun k => drS acts c ids m (runR acts) ((runR acts).filter (keepG c (ids.take k))) k) ids.length (fun k hk => by
        have hd := rdrop_ok ((runR acts).filter (keepG c (ids.take k))) 0 (nth ids k) (Nat.le_trans (List.length_filter_le _ _) (by omega))
        rw [keep_snoc q1 c, ← take_nthA hk] at hd
        exact dr_step acts c ids m _ _ _ k hk hn hd) (dr_end acts c ids m _ _) 0 (by omega)
      simp only [List.take_length, List.take_zero] at L
      have hI := ids_own acts (by omega)
      have hkl := ids_len acts
      generalize runR acts = l at *
      generalize l.filter (keepG c ids) = R at *
      generalize l.filter (keepG c []) = R0 at *
      generalize idsR acts = ks at *
      refine drops_go acts ks c ids m l R0 R hl hn (by omega) hP h0 L hD hI ?_ ?_
      · rw [← slI_own (ks ++ ids) _ (by rw [List.length_append])]; exact h1
      · rw [← slI_own ks _ rfl]; exact h2
    · exact pure_of (hs := hint [((1,0), {call := some ((bl true))}), ((3,3), {val := some (bl (false))}), ((3,7), {val := some (bl (true))})]) (ps := [_, bl (decide ((↑acts.length : Int) > (40 : Int))) = bl (false), bl (decide ((↑ids.length : Int) > (10 : Int))) = bl (true)]) (by kernel_rfl) ⟨(awake_ok), (bdF (by omega)), (bdT (by omega)), trivial⟩
  · exact pure_of (hs := hint [((1,0), {call := some ((bl true))}), ((3,3), {val := some (bl (true))})]) (ps := [_, bl (decide ((↑acts.length : Int) > (40 : Int))) = bl (true)]) (by kernel_rfl) ⟨(awake_ok), (bdT (by omega)), trivial⟩
end Go.Proofs.Ytfalaahbacdbjaa
