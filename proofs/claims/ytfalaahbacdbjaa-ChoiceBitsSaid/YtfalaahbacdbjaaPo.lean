/- Set and Stop, by the program. By the prover of this seat. -/
import Derived.Test.YtfalaahbacdbjaaPn
set_option linter.unusedVariables false
set_option linter.unusedSimpArgs false
set_option maxRecDepth 100000
set_option maxHeartbeats 4000000
namespace Go.Proofs.Ytfalaahbacdbjaa
open Go.RowKit Go.Pm
theorem put_k {l : List Row} {x : Row} (hc : x.c ≠ 0) : (putM keyR l x).filter mskB = if x.m = 0 then dropM keyR (l.filter mskB) (keyR x) else putM keyR (l.filter mskB) x := by
  unfold putM dropM
  rw [List.filter_append, List.filter_filter, List.filter_filter]
  have e : (l.filter fun r => (mskB r && !decide (keyR r = keyR x))) = l.filter fun r => (!decide (keyR r = keyR x)) && mskB r := List.filter_congr fun r _ => Bool.and_comm _ _
  by_cases hm : x.m = 0
  · rw [if_pos hm, List.filter_cons, if_neg (by simp [mskB, hm]), List.filter_nil, List.append_nil, e]
  · rw [if_neg hm, List.filter_cons, if_pos (by simp [mskB, hm, hc]), List.filter_nil, e]
theorem put_kt {l : List Row} {x : Row} (hc : x.c ≠ 0) : (putM keyR l x).filter stpB = l.filter stpB := by
  unfold putM dropM
  rw [List.filter_append, List.filter_filter, List.filter_cons, if_neg (by simp [stpB, hc]), List.filter_nil, List.append_nil]
  refine List.filter_congr fun r _ => ?_
  cases hs : stpB r with
  | false => rfl
  | true =>
    simp only [stpB, Bool.and_eq_true, decide_eq_true_eq] at hs
    have : keyR r ≠ keyR x := fun q => hc (by rw [← hs.1]; exact (congrArg Prod.fst q).symm)
    simp [this]
theorem put_t {l : List Row} {x : Row} (hc : x.c = 0) : (putM keyR l x).filter stpB = if x.m = 0 then dropM Row.id (l.filter stpB) x.id else putM Row.id (l.filter stpB) x := by
  have e : (dropM keyR l (keyR x)).filter stpB = dropM Row.id (l.filter stpB) x.id := by
    unfold dropM
    rw [List.filter_filter, List.filter_filter]
    refine List.filter_congr fun r _ => ?_
    cases hs : stpB r with
    | false => simp
    | true =>
      simp only [stpB, Bool.and_eq_true, decide_eq_true_eq] at hs
      have : keyR r = keyR x ↔ r.id = x.id := by
        unfold keyR
        rw [hs.1, hc]
        simp
      simp [this]
  unfold putM
  rw [List.filter_append, e]
  by_cases hm : x.m = 0
  · rw [if_pos hm, List.filter_cons, if_neg (by simp [stpB, hm]), List.filter_nil, List.append_nil]
  · rw [if_neg hm, List.filter_cons, if_pos (by simp [stpB, hm, hc]), List.filter_nil]
theorem put_tk {l : List Row} {x : Row} (hc : x.c = 0) : (putM keyR l x).filter mskB = l.filter mskB := by
  unfold putM dropM
  rw [List.filter_append, List.filter_filter, List.filter_cons, if_neg (by simp [mskB, hc]), List.filter_nil, List.append_nil]
  refine List.filter_congr fun r _ => ?_
  cases hs : mskB r with
  | false => rfl
  | true =>
    simp only [mskB, Bool.and_eq_true, decide_eq_true_eq] at hs
    have : keyR r ≠ keyR x := fun q => hs.1 (by rw [← hc]; exact congrArg Prod.fst q)
    simp [this]
theorem putk_del {l : List Row} (h : keysApart keyR l) {x : Row} (hc : x.c ≠ 0) (hm : x.m = 0) : (mdel (rowsK l) (A [i64 x.c, u32 x.id])).Perm (rowsK (putM keyR l x)) := by
  unfold rowsK
  rw [put_k hc, if_pos hm, show (A [i64 x.c, u32 x.id] : AV) = ekP (keyR x) from rfl, mdel_row ke_p (apart_k h)]
theorem putk_put {l : List Row} (h : keysApart keyR l) {x : Row} (hc : x.c ≠ 0) (hm : ¬ x.m = 0) : (mput (rowsK l) (A [i64 x.c, u32 x.id]) (i64 (x.m : Int))).Perm (rowsK (putM keyR l x)) := by
  unfold rowsK
  rw [put_k hc, if_neg hm]
  exact mput_row ke_p (apart_k h) x
theorem putt_del {l : List Row} (h : keysApart keyR l) {x : Row} (hc : x.c = 0) (hm : x.m = 0) : (mdel (rowsT l) (u32 x.id)).Perm (rowsT (putM keyR l x)) := by
  unfold rowsT
  rw [put_t hc, if_pos hm, show (u32 x.id : AV) = ekS (Row.id x) from rfl, mdel_row ke_s (apart_t h)]
theorem putt_put {l : List Row} (h : keysApart keyR l) {x : Row} (hc : x.c = 0) (hm : ¬ x.m = 0) : (mput (rowsT l) (u32 x.id) (i64 (x.m : Int))).Perm (rowsT (putM keyR l x)) := by
  unfold rowsT
  rw [put_t hc, if_neg hm]
  exact mput_row ke_s (apart_t h) x
theorem all_kt (l l' : List Row) : [Bk.map (rowsK l) false, Bk.map (rowsT l') false].all pureB = true := by
  have h1 : pureB (.map (rowsK l) false) = true := pureB_k _ _
  have h2 : pureB (.map (rowsT l') false) = true := pureB_t _ _
  rw [List.all_cons, h1, List.all_cons, h2]; rfl
/-! Stop -/
def outA (l : List Row) (e : Int) : AV := .tup [tabC l, i64 e]
theorem pstop_go0 (l l' : List Row) (h : LOk l) (id : Int) (h0 : id ≠ 0) (h2 : 0 ≤ id) (h3 : id ≤ 4294967295) (hd : (mdel (rowsT l) (u32 id)).Perm (rowsT l')) : Pu 23 [tabC l, u32 id, i64 0] (.tup [A [.mp (rowsK l), .mp (rowsT l')], i64 0]) := by
  have hI := ismask_ok 0
  have hC := copied_ok l h
  have q1 := kwfS h2 h3
  have q2 := allK_t h
  exact pure_said (hs := hint [((1,1), {val := some (bl (false))}), ((3,1), {call := some ((bl (decide ((0 : Int) ≤ (0 : Int) ∧ (0 : Int) ≤ (8191 : Int)))))}), ((5,1), {call := some ((A [AV.omp (0 : Nat), AV.omp (1 : Nat)])), news := some ([Bk.map (rowsK l) false, Bk.map (rowsT l) false]), sym := true}), ((7,3), { sym := true, ents := some (rowsT l') })]) (ps := [bl (id == (0 : Int)) = bl (false), _, [Bk.map (rowsK l) false, Bk.map (rowsT l) false].all pureB = true, true = true, true = true, _, true = true, true = true, kwf Try.prog (33 : Nat) (AV.s (Value.int IntKind.u32 id)) = true, allK Try.prog (33 : Nat) (rowsT l) = true, (mdel (rowsT l) (AV.s (Value.int IntKind.u32 id))).Perm (rowsT l'), ([(2 : Nat), (3 : Nat)].all fun (i : Nat) => (Option.map pureB [Bk.arr (2 : Nat) [AV.mp (rowsK l), AV.mp (rowsT l)] (0 : Nat), Bk.arr (2 : Nat) [AV.omp (2 : Nat), AV.omp (3 : Nat)] (0 : Nat), Bk.map (rowsK l) false, Bk.map (rowsT l') false, Bk.arr (2 : Nat) [AV.omp (2 : Nat), AV.omp (3 : Nat)] (0 : Nat)][i]?).getD false) = true, true = true]) (by kernel_rfl) ⟨(beF (by assumption)), (hI), (by exact all_kt _ _), rfl, rfl, (hC), (by (first | assumption | exact hd | rfl)), (by (first | assumption | exact hd | rfl)), (by (first | assumption | exact hd | rfl)), (by (first | assumption | exact hd | rfl)), (by (first | assumption | exact hd | rfl)), (by exact all_kt _ _), rfl, trivial⟩
theorem pstop_go1 (l l' : List Row) (h : LOk l) (id : Int) (h0 : id ≠ 0) (h2 : 0 ≤ id) (h3 : id ≤ 4294967295) (m : Int) (hm : m ≠ 0) (hI : Pu 29 [i64 m] (bl true)) (hd : (mput (rowsT l) (u32 id) (i64 m)).Perm (rowsT l')) : Pu 23 [tabC l, u32 id, i64 m] (.tup [A [.mp (rowsK l), .mp (rowsT l')], i64 0]) := by
  have hC := copied_ok l h
  have q1 := kwfS h2 h3
  have q2 := allK_t h
  exact pure_said (hs := hint [((1,1), {val := some (bl (false))}), ((3,1), {call := some ((bl true))}), ((5,1), {call := some ((A [AV.omp (0 : Nat), AV.omp (1 : Nat)])), news := some ([Bk.map (rowsK l) false, Bk.map (rowsT l) false]), sym := true}), ((6,1), {val := some (bl (false))}), ((8,4), { sym := true, ents := some (rowsT l') })]) (ps := [bl (id == (0 : Int)) = bl (false), _, [Bk.map (rowsK l) false, Bk.map (rowsT l) false].all pureB = true, true = true, true = true, _, bl (m == (0 : Int)) = bl (false), true = true, true = true, kwf Try.prog (33 : Nat) (AV.s (Value.int IntKind.u32 id)) = true, allK Try.prog (33 : Nat) (rowsT l) = true, (mput (rowsT l) (AV.s (Value.int IntKind.u32 id)) (AV.s (Value.int IntKind.i64 m))).Perm (rowsT l'), ([(2 : Nat), (3 : Nat)].all fun (i : Nat) => (Option.map pureB [Bk.arr (2 : Nat) [AV.mp (rowsK l), AV.mp (rowsT l)] (0 : Nat), Bk.arr (2 : Nat) [AV.omp (2 : Nat), AV.omp (3 : Nat)] (0 : Nat), Bk.map (rowsK l) false, Bk.map (rowsT l') false, Bk.arr (2 : Nat) [AV.omp (2 : Nat), AV.omp (3 : Nat)] (0 : Nat)][i]?).getD false) = true, true = true]) (by kernel_rfl) ⟨(beF (by assumption)), (hI), (by exact all_kt _ _), rfl, rfl, (hC), (beF (by assumption)), (by (first | assumption | exact hd | rfl)), (by (first | assumption | exact hd | rfl)), (by (first | assumption | exact hd | rfl)), (by (first | assumption | exact hd | rfl)), (by (first | assumption | exact hd | rfl)), (by exact all_kt _ _), rfl, trivial⟩
def stopD (l : List Row) (id m : Int) : List Row × Int := if id = 0 then (l, 6) else if ¬ (0 ≤ m ∧ m ≤ 8191) then (l, 22) else (putM keyR l ⟨0, id, m.toNat⟩, 0)
theorem pstop_ok (l : List Row) (h : LOk l) (id m : Int) (h2 : 0 ≤ id) (h3 : id ≤ 4294967295) : Pu 23 [tabC l, u32 id, i64 m] (outA (stopD l id m).1 (stopD l id m).2) := by
  have hI := ismask_ok m
  unfold stopD
  by_cases h0 : id = 0
  · rw [if_pos h0]
    exact pure_of (hs := hint [((1,1), {val := some (bl (true))})]) (ps := [bl (id == (0 : Int)) = bl (true)]) (by kernel_rfl) ⟨(beT (by assumption)), trivial⟩
  · rw [if_neg h0]
    by_cases hm : 0 ≤ m ∧ m ≤ 8191
    · rw [if_neg (fun q => q hm)]
      rw [decide_eq_true hm] at hI
      simp only [outA, tabC]
      obtain ⟨n, rfl⟩ : ∃ n : Nat, m = (n : Int) := ⟨m.toNat, by omega⟩
      have eK : rowsK (putM keyR l ⟨0, id, n⟩) = rowsK l := by unfold rowsK; rw [put_tk rfl]
      rw [Int.toNat_natCast, eK]
      by_cases hz : n = 0
      · subst hz
        exact pstop_go0 l _ h id h0 h2 h3 (putt_del h.apart (x := ⟨0, id, 0⟩) rfl rfl)
      · exact pstop_go1 l _ h id h0 h2 h3 n (by omega) hI (putt_put h.apart (x := ⟨0, id, n⟩) rfl hz)
    · rw [if_pos hm]
      rw [decide_eq_false hm] at hI
      exact pure_of (hs := hint [((1,1), {val := some (bl (false))}), ((3,1), {call := some ((bl false))})]) (ps := [bl (id == (0 : Int)) = bl (false), _]) (by kernel_rfl) ⟨(beF (by assumption)), (hI), trivial⟩
end Go.Proofs.Ytfalaahbacdbjaa
