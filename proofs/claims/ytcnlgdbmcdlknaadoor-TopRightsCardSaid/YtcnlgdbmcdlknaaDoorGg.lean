/- What is put among masks. By the prover of this seat. -/
import Derived.Test.YtcnlgdbmcdlknaaDoorGf
set_option linter.unusedVariables false
set_option linter.unusedSimpArgs false
set_option maxRecDepth 100000
set_option maxHeartbeats 4000000
namespace Go.Proofs.YtcnlgdbmcdlknaaDoor.Ch
open Go.RowKit Go.Pm
theorem put_k {l : List Row} {x : Row} (hc : x.c ≠ 0) : (putM keyR l x).filter mskB = if x.m = 0 then dropM keyR (l.filter mskB) (keyR x) else putM keyR (l.filter mskB) x := by
  unfold putM dropM
  rw [List.filter_append, List.filter_filter, List.filter_filter]
  have e : (l.filter fun r => (mskB r && !decide (keyR r = keyR x))) = l.filter fun r => (!decide (keyR r = keyR x)) && mskB r := List.filter_congr fun r _ => Bool.and_comm _ _
  by_cases hm : x.m = 0
  · rw [if_pos hm, List.filter_cons, if_neg (by simp [mskB, hm]), List.filter_nil, List.append_nil, e]
  · rw [if_neg hm, List.filter_cons, if_pos (by simp [mskB, hm, hc]), List.filter_nil, e]
theorem put_kt {l : List Row} {x : Row} (hc : x.c ≠ 0) : (putM keyR l x).filter stpB = l.filter stpB := by
  unfold putM dropM
  rw [List.filter_append, List.filter_filter, List.filter_cons, if_neg (by simp [stpB, hc]), List.filter_nil, List.append_nil]
  refine List.filter_congr fun r _ => ?_
  cases hs : stpB r with
  | false => rfl
  | true =>
    simp only [stpB, Bool.and_eq_true, decide_eq_true_eq] at hs
    have : keyR r ≠ keyR x := fun q => hc (by rw [← hs.1]; exact (congrArg Prod.fst q).symm)
    simp [this]
theorem put_t {l : List Row} {x : Row} (hc : x.c = 0) : (putM keyR l x).filter stpB = if x.m = 0 then dropM Row.id (l.filter stpB) x.id else putM Row.id (l.filter stpB) x := by
  have e : (dropM keyR l (keyR x)).filter stpB = dropM Row.id (l.filter stpB) x.id := by
    unfold dropM
    rw [List.filter_filter, List.filter_filter]
    refine List.filter_congr fun r _ => ?_
    cases hs : stpB r with
    | false => simp
    | true =>
      simp only [stpB, Bool.and_eq_true, decide_eq_true_eq] at hs
      have : keyR r = keyR x ↔ r.id = x.id := by
        unfold keyR
        rw [hs.1, hc]
        simp
      simp [this]
  unfold putM
  rw [List.filter_append, e]
  by_cases hm : x.m = 0
  · rw [if_pos hm, List.filter_cons, if_neg (by simp [stpB, hm]), List.filter_nil, List.append_nil]
  · rw [if_neg hm, List.filter_cons, if_pos (by simp [stpB, hm, hc]), List.filter_nil]
theorem put_tk {l : List Row} {x : Row} (hc : x.c = 0) : (putM keyR l x).filter mskB = l.filter mskB := by
  unfold putM dropM
  rw [List.filter_append, List.filter_filter, List.filter_cons, if_neg (by simp [mskB, hc]), List.filter_nil, List.append_nil]
  refine List.filter_congr fun r _ => ?_
  cases hs : mskB r with
  | false => rfl
  | true =>
    simp only [mskB, Bool.and_eq_true, decide_eq_true_eq] at hs
    have : keyR r ≠ keyR x := fun q => hs.1 (by rw [← hc]; exact congrArg Prod.fst q)
    simp [this]
theorem putk_del {l : List Row} (h : keysApart keyR l) {x : Row} (hc : x.c ≠ 0) (hm : x.m = 0) : (mdel (rowsK l) (A [i64 x.c, u32 x.id])).Perm (rowsK (putM keyR l x)) := by
  unfold rowsK
  rw [put_k hc, if_pos hm, show (A [i64 x.c, u32 x.id] : AV) = ekP (keyR x) from rfl, mdel_row ke_p (apart_k h)]
theorem putk_put {l : List Row} (h : keysApart keyR l) {x : Row} (hc : x.c ≠ 0) (hm : ¬ x.m = 0) : (mput (rowsK l) (A [i64 x.c, u32 x.id]) (i64 (x.m : Int))).Perm (rowsK (putM keyR l x)) := by
  unfold rowsK
  rw [put_k hc, if_neg hm]
  exact mput_row ke_p (apart_k h) x
theorem putt_del {l : List Row} (h : keysApart keyR l) {x : Row} (hc : x.c = 0) (hm : x.m = 0) : (mdel (rowsT l) (u32 x.id)).Perm (rowsT (putM keyR l x)) := by
  unfold rowsT
  rw [put_t hc, if_pos hm, show (u32 x.id : AV) = ekS (Row.id x) from rfl, mdel_row ke_s (apart_t h)]
theorem putt_put {l : List Row} (h : keysApart keyR l) {x : Row} (hc : x.c = 0) (hm : ¬ x.m = 0) : (mput (rowsT l) (u32 x.id) (i64 (x.m : Int))).Perm (rowsT (putM keyR l x)) := by
  unfold rowsT
  rw [put_t hc, if_neg hm]
  exact mput_row ke_s (apart_t h) x
theorem all_kt (l l' : List Row) : [Bk.map (rowsK l) false, Bk.map (rowsT l') false].all pureB = true := by
  have h1 : pureB (.map (rowsK l) false) = true := pureB_k _ _
  have h2 : pureB (.map (rowsT l') false) = true := pureB_t _ _
  rw [List.all_cons, h1, List.all_cons, h2]; rfl
/-! Stop -/
def outA (l : List Row) (e : Int) : AV := .tup [tabC l, i64 e]
def stopD (l : List Row) (id m : Int) : List Row × Int := if id = 0 then (l, 6) else if ¬ (0 ≤ m ∧ m ≤ 8191) then (l, 22) else (putM keyR l ⟨0, id, m.toNat⟩, 0)
end Go.Proofs.YtcnlgdbmcdlknaaDoor.Ch
