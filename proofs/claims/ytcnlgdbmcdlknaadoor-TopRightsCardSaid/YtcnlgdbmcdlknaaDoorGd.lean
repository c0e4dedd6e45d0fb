/- The program's maps of masks; lookups. By the prover of this seat. -/
import Derived.Test.YtcnlgdbmcdlknaaDoorGc
set_option linter.unusedVariables false
set_option linter.unusedSimpArgs false
set_option maxRecDepth 100000
set_option maxHeartbeats 4000000
namespace Go.Proofs.YtcnlgdbmcdlknaaDoor.Ch
open Go.RowKit Go.Pm
theorem wf64 {a : Int} (h0 : -9223372036854775808 ≤ a) (h1 : a ≤ 9223372036854775807) : (Lit.int .i64 a).wf = true := by
  show (decide (IntKind.i64.min ≤ a) && decide (a ≤ IntKind.i64.max)) = true
  rw [Bool.and_eq_true, decide_eq_true_eq, decide_eq_true_eq]
  exact ⟨h0, h1⟩
theorem wf32 {a : Int} (h0 : 0 ≤ a) (h1 : a ≤ 4294967295) : (Lit.int .u32 a).wf = true := by
  show (decide (IntKind.u32.min ≤ a) && decide (a ≤ IntKind.u32.max)) = true
  rw [Bool.and_eq_true, decide_eq_true_eq, decide_eq_true_eq]
  exact ⟨h0, h1⟩
abbrev ekP (k : Int × Int) : AV := A [i64 k.1, u32 k.2]
abbrev ekS (k : Int) : AV := u32 k
abbrev evM (r : Row) : AV := i64 (r.m : Int)
abbrev rowK : Row → AV × AV := rowM keyR ekP evM
abbrev rowT : Row → AV × AV := rowM Row.id ekS evM
def mskB (r : Row) : Bool := decide (r.c ≠ 0) && decide (r.m ≠ 0)
def stpB (r : Row) : Bool := decide (r.c = 0) && decide (r.m ≠ 0)
def rowsK (l : List Row) : List (AV × AV) := (l.filter mskB).map rowK
def rowsT (l : List Row) : List (AV × AV) := (l.filter stpB).map rowT
def tabC (l : List Row) : AV := A [.mp (rowsK l), .mp (rowsT l)]
theorem ke_p : KeyEq ekP := keyEq_two .i64 .u32
theorem ke_s : KeyEq ekS := keyEq_int .u32
/-- what the rows keep -/
structure LOk (l : List Row) : Prop where
  apart : keysApart keyR l
  row : ∀ r ∈ l, 0 ≤ r.c ∧ r.c ≤ 8 ∧ 1 ≤ r.id ∧ r.id ≤ 4294967295 ∧ r.m ≤ 8191
  len : l.length ≤ 1000
theorem kwfP {c id : Int} (h0 : -9223372036854775808 ≤ c) (h1 : c ≤ 9223372036854775807) (h2 : 0 ≤ id) (h3 : id ≤ 4294967295) : kwf Tryd.prog 87 (A [i64 c, u32 id]) = true := kwf67 (wf64 h0 h1) (wf32 h2 h3)
theorem kwfS {id : Int} (h2 : 0 ≤ id) (h3 : id ≤ 4294967295) : kwf Tryd.prog 39 (u32 id) = true := kwf33 (wf32 h2 h3)
theorem allK_k {l : List Row} (h : LOk l) : allK Tryd.prog 87 (rowsK l) = true := allK_row fun r hr => by
  have := h.row r (List.mem_filter.1 hr).1
  exact kwfP (c := r.c) (id := r.id) (by omega) (by omega) (by omega) (by omega)
theorem allK_t {l : List Row} (h : LOk l) : allK Tryd.prog 39 (rowsT l) = true := allK_row fun r hr => by
  have := h.row r (List.mem_filter.1 hr).1
  exact kwfS (id := r.id) (by omega) (by omega)
theorem pureB_k (l : List Row) (fz : Bool) : pureB (.map (l.map rowK) fz) = true := pureB_row fun x hx => rfl
theorem pureB_t (l : List Row) (fz : Bool) : pureB (.map (l.map rowT) fz) = true := pureB_row fun x hx => rfl
theorem apart_k {l : List Row} (h : keysApart keyR l) : keysApart keyR (l.filter mskB) := h.sublist List.filter_sublist
theorem apart_t {l : List Row} (h : keysApart keyR l) : keysApart Row.id (l.filter stpB) := by
  have h1 : keysApart keyR (l.filter stpB) := h.sublist List.filter_sublist
  refine (List.Pairwise.and_mem.1 h1).imp fun {a b} q e => ?_
  obtain ⟨ha, hb, q⟩ := q
  have ha := (List.mem_filter.1 ha).2
  have hb := (List.mem_filter.1 hb).2
  simp only [stpB, Bool.and_eq_true, decide_eq_true_eq] at ha hb
  exact q (by unfold keyR; rw [ha.1, hb.1, e])
theorem maskR_nil (c id : Int) : maskR [] c id = 0 := rfl
theorem maskR_cons (x : Row) (l : List Row) (c id : Int) : maskR (x :: l) c id = if x.c = c ∧ x.id = id then x.m else maskR l c id := by
  unfold maskR
  rw [idxD]
  by_cases h : isR c id x = true
  · rw [if_pos h, if_pos (by simpa [isR] using h)]; rfl
  · rw [if_neg h, if_neg (by simpa [isR] using h)]
    cases idxD (isR c id) l <;> rfl
theorem maskR_apart {x : Row} {l : List Row} (h : keysApart keyR (x :: l)) : maskR l x.c x.id = 0 := by
  have h1 := (List.pairwise_cons.1 h).1
  have : idxD (isR x.c x.id) l = none := by
    cases hk : idxD (isR x.c x.id) l with
    | none => rfl
    | some k =>
      obtain ⟨p, q, _⟩ := idx_some hk
      simp only [isR, Bool.and_eq_true, decide_eq_true_eq] at q
      exact absurd (show keyR x = keyR (nth l k) by unfold keyR; rw [q.1, q.2]) (h1 _ (nth_mem p))
  unfold maskR
  rw [this]
theorem look_k (l : List Row) (hl : keysApart keyR l) (c id : Int) (hc : c ≠ 0) : lookV false (mfind (rowsK l) (A [i64 c, u32 id])) (i64 0) = i64 (maskR l c id : Int) := by
  unfold rowsK
  rw [show A [i64 c, u32 id] = ekP (c, id) from rfl, mfind_row ke_p]
  induction l with
  | nil => rfl
  | cons x l ih =>
    have hl' := (List.pairwise_cons.1 hl).2
    rw [maskR_cons, List.filter_cons]
    by_cases hx : x.c = c ∧ x.id = id
    · rw [if_pos hx]
      by_cases hm : x.m = 0
      · rw [if_neg (by simp [mskB, hm]), ih hl', ← hx.1, ← hx.2, maskR_apart hl, hm]
      · rw [if_pos (by simp [mskB, hm, hx.1, hc])]
        unfold findM
        rw [List.find?_cons, show decide (keyR x = (c, id)) = true from decide_eq_true (by unfold keyR; rw [hx.1, hx.2])]
        rfl
    · rw [if_neg hx]
      split
      · unfold findM
        rw [List.find?_cons, show decide (keyR x = (c, id)) = false from decide_eq_false fun q => hx ⟨congrArg Prod.fst q, congrArg Prod.snd q⟩]
        exact ih hl'
      · exact ih hl'
theorem look_k0 (l : List Row) (id : Int) : lookV false (mfind (rowsK l) (A [i64 0, u32 id])) (i64 0) = i64 0 := by
  unfold rowsK
  rw [show A [i64 0, u32 id] = ekP (0, id) from rfl, mfind_row ke_p]
  have : findM keyR (l.filter mskB) (0, id) = none := by
    unfold findM
    refine List.find?_eq_none.2 fun x hx q => ?_
    have hx := (List.mem_filter.1 hx).2
    simp only [mskB, Bool.and_eq_true, decide_eq_true_eq] at hx
    simp only [decide_eq_true_eq] at q
    exact hx.1 (congrArg Prod.fst q)
  rw [this]; rfl
theorem look_t (l : List Row) (hl : keysApart keyR l) (id : Int) : lookV false (mfind (rowsT l) (u32 id)) (i64 0) = i64 (maskR l 0 id : Int) := by
  unfold rowsT
  rw [show u32 id = ekS id from rfl, mfind_row ke_s]
  induction l with
  | nil => rfl
  | cons x l ih =>
    have hl' := (List.pairwise_cons.1 hl).2
    rw [maskR_cons, List.filter_cons]
    by_cases hx : x.c = 0 ∧ x.id = id
    · rw [if_pos hx]
      by_cases hm : x.m = 0
      · rw [if_neg (by simp [stpB, hm]), ih hl', ← hx.1, ← hx.2, maskR_apart hl, hm]
      · rw [if_pos (by simp [stpB, hm, hx.1])]
        unfold findM
        rw [List.find?_cons, show decide (Row.id x = id) = true from decide_eq_true hx.2]
        rfl
    · rw [if_neg hx]
      split
      · rename_i hs
        simp only [stpB, Bool.and_eq_true, decide_eq_true_eq] at hs
        unfold findM
        rw [List.find?_cons, show decide (Row.id x = id) = false from decide_eq_false fun q => hx ⟨hs.1, q⟩]
        exact ih hl'
      · exact ih hl'
theorem maskR_le {l : List Row} (h : ∀ r ∈ l, r.m ≤ 8191) (c id : Int) : maskR l c id ≤ 8191 := by
  unfold maskR
  cases hk : idxD (isR c id) l with
  | none => exact Nat.zero_le _
  | some k => exact h _ (nth_mem (idx_some hk).1)
theorem pmask_ok (l : List Row) (h : LOk l) (c id : Int) (hc : c ≠ 0) (h0 : -9223372036854775808 ≤ c) (h1 : c ≤ 9223372036854775807) (h2 : 0 ≤ id) (h3 : id ≤ 4294967295) : PS 30 [tabC l, i64 c, u32 id] (i64 (maskR l c id : Int)) := by
  have q1 := kwfP h0 h1 h2 h3
  have q2 := allK_k h
  have q3 := look_k l h.apart c id hc
  exact pure_of (hs := hint [((1,5), { sym := true, val := some (i64 (maskR l c id : Int)) })]) (ps := [true = true, kwf Tryd.prog (87 : Nat) (AV.agg [AV.s (Value.int IntKind.i64 c), AV.s (Value.int IntKind.u32 id)]) = true, allK Tryd.prog (87 : Nat) (rowsK l) = true, (match mfind (rowsK l) (AV.agg [AV.s (Value.int IntKind.i64 c), AV.s (Value.int IntKind.u32 id)]) with
  | some v => if false = true then AV.tup [v, AV.s (Value.bool true)] else v
  | none => if false = true then AV.tup [ofV (Value.int IntKind.i64 (0 : Int)), AV.s (Value.bool false)] else ofV (Value.int IntKind.i64 (0 : Int))) = i64 ((↑(maskR l c id) : Int))]) (by kernel_rfl) ⟨(by (first | assumption | exact q3 | rfl)), (by (first | assumption | exact q3 | rfl)), (by (first | assumption | exact q3 | rfl)), (by (first | assumption | exact q3 | rfl)), trivial⟩
theorem pmask_0 (l : List Row) (h : LOk l) (id : Int) (h2 : 0 ≤ id) (h3 : id ≤ 4294967295) : PS 30 [tabC l, i64 0, u32 id] (i64 0) := by
  have q1 := kwfP (c := 0) (by omega) (by omega) h2 h3
  have q2 := allK_k h
  have q3 := look_k0 l id
  exact pure_of (hs := hint [((1,5), { sym := true, val := some (i64 0) })]) (ps := [true = true, kwf Tryd.prog (87 : Nat) (AV.agg [AV.s (Value.int IntKind.i64 (0 : Int)), AV.s (Value.int IntKind.u32 id)]) = true, allK Tryd.prog (87 : Nat) (rowsK l) = true, (match mfind (rowsK l) (AV.agg [AV.s (Value.int IntKind.i64 (0 : Int)), AV.s (Value.int IntKind.u32 id)]) with
  | some v => if false = true then AV.tup [v, AV.s (Value.bool true)] else v
  | none => if false = true then AV.tup [ofV (Value.int IntKind.i64 (0 : Int)), AV.s (Value.bool false)] else ofV (Value.int IntKind.i64 (0 : Int))) = i64 ((0 : Int))]) (by kernel_rfl) ⟨(by (first | assumption | exact q3 | rfl)), (by (first | assumption | exact q3 | rfl)), (by (first | assumption | exact q3 | rfl)), (by (first | assumption | exact q3 | rfl)), trivial⟩
end Go.Proofs.YtcnlgdbmcdlknaaDoor.Ch
