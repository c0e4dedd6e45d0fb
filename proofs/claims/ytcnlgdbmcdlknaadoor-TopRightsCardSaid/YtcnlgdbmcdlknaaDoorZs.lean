/- Rules; what is so of a client and a window. By the prover of this seat. -/
import Derived.Test.YtcnlgdbmcdlknaaDoorZr
import Derived.Test.YtcnlgdbmcdlknaaDoorGh
set_option linter.unusedVariables false
set_option linter.unusedSimpArgs false
set_option maxRecDepth 100000
set_option maxHeartbeats 4000000
namespace Go.Proofs.YtcnlgdbmcdlknaaDoor.Tr
open Go.RowKit Go.Pm
def rulesL : List Int := [5, 3, 2, 4, 4, 4, 4, 2, 2, 1, 1, 1, 1, 6, 6, 6, 6, 1, 1, 1, 1, 1, 1, 1, 1, 1, 2, 2, 2, 2, 2, 2, 2, 2, 2, 2, 2, 4, 1, 4, 1, 4, 1, 4, 1, 4, 1, 1, 1, 4, 2, 1, 2, 6, 7, 7, 8, 1, 1]
def rulesC : List AV := rulesL.map u8
def GT : Nat → Option (List AV) := fun g => if g = 0 then some rulesC else if g = 1 then some spaceC else none
abbrev PT (f : FuncId) (args : List AV) (r : AV) : Prop := Pure Tryd.prog GT f args r []
theorem lift_H {f : FuncId} {args : List AV} {H H' : List Bk} {r : AV} (h : CallH Tryd.prog GS f args H r H') : CallH Tryd.prog GT f args H r H' :=
  ⟨h.1, fun w0 ρ M W vals hw hg ha => h.2 w0 ρ M W vals hw (globR_mono (fun g cs e => by
    unfold GS at e
    unfold GT
    split at e
    · rename_i e1
      subst e1
      exact e
    · cases e) hg) ha⟩
theorem lift {f : FuncId} {args : List AV} {r : AV} (h : Pure Tryd.prog GS f args r []) : PT f args r := lift_H h
/-! rules -/
theorem rule_0 : PT 31 [i64 0] (i64 5) := by
  exact pure_of (hs := hint []) (ps := []) (by kernel_rfl) trivial
theorem rule_1 : PT 31 [i64 1] (i64 3) := by
  exact pure_of (hs := hint []) (ps := []) (by kernel_rfl) trivial
theorem rule_2 : PT 31 [i64 2] (i64 2) := by
  exact pure_of (hs := hint []) (ps := []) (by kernel_rfl) trivial
theorem rule_3 : PT 31 [i64 3] (i64 4) := by
  exact pure_of (hs := hint []) (ps := []) (by kernel_rfl) trivial
theorem rule_4 : PT 31 [i64 4] (i64 4) := by
  exact pure_of (hs := hint []) (ps := []) (by kernel_rfl) trivial
theorem rule_5 : PT 31 [i64 5] (i64 4) := by
  exact pure_of (hs := hint []) (ps := []) (by kernel_rfl) trivial
theorem rule_6 : PT 31 [i64 6] (i64 4) := by
  exact pure_of (hs := hint []) (ps := []) (by kernel_rfl) trivial
theorem rule_7 : PT 31 [i64 7] (i64 2) := by
  exact pure_of (hs := hint []) (ps := []) (by kernel_rfl) trivial
theorem rule_8 : PT 31 [i64 8] (i64 2) := by
  exact pure_of (hs := hint []) (ps := []) (by kernel_rfl) trivial
theorem rule_9 : PT 31 [i64 9] (i64 1) := by
  exact pure_of (hs := hint []) (ps := []) (by kernel_rfl) trivial
theorem rule_10 : PT 31 [i64 10] (i64 1) := by
  exact pure_of (hs := hint []) (ps := []) (by kernel_rfl) trivial
theorem rule_11 : PT 31 [i64 11] (i64 1) := by
  exact pure_of (hs := hint []) (ps := []) (by kernel_rfl) trivial
theorem rule_12 : PT 31 [i64 12] (i64 1) := by
  exact pure_of (hs := hint []) (ps := []) (by kernel_rfl) trivial
theorem rule_13 : PT 31 [i64 13] (i64 6) := by
  exact pure_of (hs := hint []) (ps := []) (by kernel_rfl) trivial
theorem rule_14 : PT 31 [i64 14] (i64 6) := by
  exact pure_of (hs := hint []) (ps := []) (by kernel_rfl) trivial
theorem rule_15 : PT 31 [i64 15] (i64 6) := by
  exact pure_of (hs := hint []) (ps := []) (by kernel_rfl) trivial
theorem rule_16 : PT 31 [i64 16] (i64 6) := by
  exact pure_of (hs := hint []) (ps := []) (by kernel_rfl) trivial
theorem rule_17 : PT 31 [i64 17] (i64 1) := by
  exact pure_of (hs := hint []) (ps := []) (by kernel_rfl) trivial
theorem rule_18 : PT 31 [i64 18] (i64 1) := by
  exact pure_of (hs := hint []) (ps := []) (by kernel_rfl) trivial
theorem rule_19 : PT 31 [i64 19] (i64 1) := by
  exact pure_of (hs := hint []) (ps := []) (by kernel_rfl) trivial
theorem rule_20 : PT 31 [i64 20] (i64 1) := by
  exact pure_of (hs := hint []) (ps := []) (by kernel_rfl) trivial
theorem rule_21 : PT 31 [i64 21] (i64 1) := by
  exact pure_of (hs := hint []) (ps := []) (by kernel_rfl) trivial
theorem rule_22 : PT 31 [i64 22] (i64 1) := by
  exact pure_of (hs := hint []) (ps := []) (by kernel_rfl) trivial
theorem rule_23 : PT 31 [i64 23] (i64 1) := by
  exact pure_of (hs := hint []) (ps := []) (by kernel_rfl) trivial
theorem rule_24 : PT 31 [i64 24] (i64 1) := by
  exact pure_of (hs := hint []) (ps := []) (by kernel_rfl) trivial
theorem rule_25 : PT 31 [i64 25] (i64 1) := by
  exact pure_of (hs := hint []) (ps := []) (by kernel_rfl) trivial
theorem rule_26 : PT 31 [i64 26] (i64 2) := by
  exact pure_of (hs := hint []) (ps := []) (by kernel_rfl) trivial
theorem rule_27 : PT 31 [i64 27] (i64 2) := by
  exact pure_of (hs := hint []) (ps := []) (by kernel_rfl) trivial
theorem rule_28 : PT 31 [i64 28] (i64 2) := by
  exact pure_of (hs := hint []) (ps := []) (by kernel_rfl) trivial
theorem rule_29 : PT 31 [i64 29] (i64 2) := by
  exact pure_of (hs := hint []) (ps := []) (by kernel_rfl) trivial
theorem rule_30 : PT 31 [i64 30] (i64 2) := by
  exact pure_of (hs := hint []) (ps := []) (by kernel_rfl) trivial
theorem rule_31 : PT 31 [i64 31] (i64 2) := by
  exact pure_of (hs := hint []) (ps := []) (by kernel_rfl) trivial
theorem rule_32 : PT 31 [i64 32] (i64 2) := by
  exact pure_of (hs := hint []) (ps := []) (by kernel_rfl) trivial
theorem rule_33 : PT 31 [i64 33] (i64 2) := by
  exact pure_of (hs := hint []) (ps := []) (by kernel_rfl) trivial
theorem rule_34 : PT 31 [i64 34] (i64 2) := by
  exact pure_of (hs := hint []) (ps := []) (by kernel_rfl) trivial
theorem rule_35 : PT 31 [i64 35] (i64 2) := by
  exact pure_of (hs := hint []) (ps := []) (by kernel_rfl) trivial
theorem rule_36 : PT 31 [i64 36] (i64 2) := by
  exact pure_of (hs := hint []) (ps := []) (by kernel_rfl) trivial
theorem rule_37 : PT 31 [i64 37] (i64 4) := by
  exact pure_of (hs := hint []) (ps := []) (by kernel_rfl) trivial
theorem rule_38 : PT 31 [i64 38] (i64 1) := by
  exact pure_of (hs := hint []) (ps := []) (by kernel_rfl) trivial
theorem rule_39 : PT 31 [i64 39] (i64 4) := by
  exact pure_of (hs := hint []) (ps := []) (by kernel_rfl) trivial
theorem rule_40 : PT 31 [i64 40] (i64 1) := by
  exact pure_of (hs := hint []) (ps := []) (by kernel_rfl) trivial
theorem rule_41 : PT 31 [i64 41] (i64 4) := by
  exact pure_of (hs := hint []) (ps := []) (by kernel_rfl) trivial
theorem rule_42 : PT 31 [i64 42] (i64 1) := by
  exact pure_of (hs := hint []) (ps := []) (by kernel_rfl) trivial
theorem rule_43 : PT 31 [i64 43] (i64 4) := by
  exact pure_of (hs := hint []) (ps := []) (by kernel_rfl) trivial
theorem rule_44 : PT 31 [i64 44] (i64 1) := by
  exact pure_of (hs := hint []) (ps := []) (by kernel_rfl) trivial
theorem rule_45 : PT 31 [i64 45] (i64 4) := by
  exact pure_of (hs := hint []) (ps := []) (by kernel_rfl) trivial
theorem rule_46 : PT 31 [i64 46] (i64 1) := by
  exact pure_of (hs := hint []) (ps := []) (by kernel_rfl) trivial
theorem rule_47 : PT 31 [i64 47] (i64 1) := by
  exact pure_of (hs := hint []) (ps := []) (by kernel_rfl) trivial
theorem rule_48 : PT 31 [i64 48] (i64 1) := by
  exact pure_of (hs := hint []) (ps := []) (by kernel_rfl) trivial
theorem rule_49 : PT 31 [i64 49] (i64 4) := by
  exact pure_of (hs := hint []) (ps := []) (by kernel_rfl) trivial
theorem rule_50 : PT 31 [i64 50] (i64 2) := by
  exact pure_of (hs := hint []) (ps := []) (by kernel_rfl) trivial
theorem rule_51 : PT 31 [i64 51] (i64 1) := by
  exact pure_of (hs := hint []) (ps := []) (by kernel_rfl) trivial
theorem rule_52 : PT 31 [i64 52] (i64 2) := by
  exact pure_of (hs := hint []) (ps := []) (by kernel_rfl) trivial
theorem rule_53 : PT 31 [i64 53] (i64 6) := by
  exact pure_of (hs := hint []) (ps := []) (by kernel_rfl) trivial
theorem rule_54 : PT 31 [i64 54] (i64 7) := by
  exact pure_of (hs := hint []) (ps := []) (by kernel_rfl) trivial
theorem rule_55 : PT 31 [i64 55] (i64 7) := by
  exact pure_of (hs := hint []) (ps := []) (by kernel_rfl) trivial
theorem rule_56 : PT 31 [i64 56] (i64 8) := by
  exact pure_of (hs := hint []) (ps := []) (by kernel_rfl) trivial
theorem rule_57 : PT 31 [i64 57] (i64 1) := by
  exact pure_of (hs := hint []) (ps := []) (by kernel_rfl) trivial
theorem rule_58 : PT 31 [i64 58] (i64 1) := by
  exact pure_of (hs := hint []) (ps := []) (by kernel_rfl) trivial
def ruleN (k : Nat) : Int := rulesL.getD k 0
def ruleD (n : Int) : Int := if n < 0 ∨ n > 58 then 0 else ruleN n.toNat
theorem rule_lo (n : Int) (h : n < 0) : PT 31 [i64 n] (i64 0) := by
  exact pure_of (hs := hint [((1,2), {val := some (bl (true))})]) (ps := [bl (decide (n < (0 : Int))) = bl (true)]) (by kernel_rfl) ⟨(bdT (by assumption)), trivial⟩
theorem rule_hi (n : Int) (h0 : ¬ n < 0) (h : n > 58) : PT 31 [i64 n] (i64 0) := by
  exact pure_of (hs := hint [((1,2), {val := some (bl (false))}), ((1,5), {val := some (bl (true))})]) (ps := [bl (decide (n < (0 : Int))) = bl (false), bl (decide (n > (58 : Int))) = bl (true)]) (by kernel_rfl) ⟨(bdF (by assumption)), (bdT (by assumption)), trivial⟩
theorem rule_all : ∀ k : Nat, k < 59 → PT 31 [i64 (k : Int)] (i64 (ruleN k))
  | 0, _ => rule_0
  | 1, _ => rule_1
  | 2, _ => rule_2
  | 3, _ => rule_3
  | 4, _ => rule_4
  | 5, _ => rule_5
  | 6, _ => rule_6
  | 7, _ => rule_7
  | 8, _ => rule_8
  | 9, _ => rule_9
  | 10, _ => rule_10
  | 11, _ => rule_11
  | 12, _ => rule_12
  | 13, _ => rule_13
  | 14, _ => rule_14
  | 15, _ => rule_15
  | 16, _ => rule_16
  | 17, _ => rule_17
  | 18, _ => rule_18
  | 19, _ => rule_19
  | 20, _ => rule_20
  | 21, _ => rule_21
  | 22, _ => rule_22
  | 23, _ => rule_23
  | 24, _ => rule_24
  | 25, _ => rule_25
  | 26, _ => rule_26
  | 27, _ => rule_27
  | 28, _ => rule_28
  | 29, _ => rule_29
  | 30, _ => rule_30
  | 31, _ => rule_31
  | 32, _ => rule_32
  | 33, _ => rule_33
  | 34, _ => rule_34
  | 35, _ => rule_35
  | 36, _ => rule_36
  | 37, _ => rule_37
  | 38, _ => rule_38
  | 39, _ => rule_39
  | 40, _ => rule_40
  | 41, _ => rule_41
  | 42, _ => rule_42
  | 43, _ => rule_43
  | 44, _ => rule_44
  | 45, _ => rule_45
  | 46, _ => rule_46
  | 47, _ => rule_47
  | 48, _ => rule_48
  | 49, _ => rule_49
  | 50, _ => rule_50
  | 51, _ => rule_51
  | 52, _ => rule_52
  | 53, _ => rule_53
  | 54, _ => rule_54
  | 55, _ => rule_55
  | 56, _ => rule_56
  | 57, _ => rule_57
  | 58, _ => rule_58
  | _ + 59, h => absurd h (by omega)
theorem rule_ok (n : Int) : PT 31 [i64 n] (i64 (ruleD n)) := by
  unfold ruleD
  split
  · rename_i h
    rcases h with h | h
    · exact rule_lo n h
    · exact rule_hi n (by omega) h
  · rename_i h
    have e : n = ((n.toNat : Nat) : Int) := by omega
    have := rule_all n.toNat (by omega)
    rwa [← e] at this
theorem fault_0 (n r : Int) (h : PT 31 [i64 n] (i64 r)) (hr : r = 0) : PT 10 [i64 n] (i64 0) := by
  exact pure_of (hs := hint [((1,1), {call := some ((i64 r))}), ((2,2), {val := some (bl (true))})]) (ps := [_, bl (r == (0 : Int)) = bl (true)]) (by kernel_rfl) ⟨(h), (beT (by assumption)), trivial⟩
theorem fault_1 (n r : Int) (h : PT 31 [i64 n] (i64 r)) (h0 : ¬ r = 0) (hr : r = 1) : PT 10 [i64 n] (i64 0) := by
  exact pure_of (hs := hint [((1,1), {call := some ((i64 r))}), ((2,2), {val := some (bl (false))}), ((2,5), {val := some (bl (true))})]) (ps := [_, bl (r == (0 : Int)) = bl (false), bl (r == (1 : Int)) = bl (true)]) (by kernel_rfl) ⟨(h), (beF (by assumption)), (beT (by assumption)), trivial⟩
theorem fault_2 (n r : Int) (h : PT 31 [i64 n] (i64 r)) (h0 : ¬ r = 0) (hr : ¬ r = 1) : PT 10 [i64 n] (i64 10) := by
  exact pure_of (hs := hint [((1,1), {call := some ((i64 r))}), ((2,2), {val := some (bl (false))}), ((2,5), {val := some (bl (false))})]) (ps := [_, bl (r == (0 : Int)) = bl (false), bl (r == (1 : Int)) = bl (false)]) (by kernel_rfl) ⟨(h), (beF (by assumption)), (beF (by assumption)), trivial⟩
def faultD (n : Int) : Int := if ruleD n = 0 then 0 else if ruleD n = 1 then 0 else 10
theorem fault_ok (n : Int) : PT 10 [i64 n] (i64 (faultD n)) := by
  have h := rule_ok n
  unfold faultD
  split
  · exact fault_0 n _ h (by assumption)
  · split
    · exact fault_1 n _ h (by assumption) (by assumption)
    · exact fault_2 n _ h (by assumption) (by assumption)
/-! what is so -/
structure Fa where
  own : Bool
  root : Bool
  mgr : Bool
  fra : Bool
  cla : Bool
  deriving DecidableEq
def faA (f : Fa) : AV := A [bl f.own, bl f.root, bl f.mgr, bl f.fra, bl f.cla]
def noneF : Fa := ⟨false, false, false, false, false⟩
def mayD (n : Int) (f : Fa) : Bool := if f = noneF then decide (ruleD n = 1) else
  if ruleD n = 1 then true else if ruleD n = 2 then f.own else if ruleD n = 3 then f.own || f.root else if ruleD n = 4 then f.own || (f.mgr || f.fra) else if ruleD n = 5 then f.own || f.root || (f.mgr || f.fra) else if ruleD n = 6 then f.own || f.root || (f.mgr || f.fra) || f.cla else if ruleD n = 7 then f.mgr || f.fra else if ruleD n = 8 then f.mgr else false
theorem may_none (n r : Int) (h : PT 31 [i64 n] (i64 r)) : PT 11 [i64 n, faA noneF] (bl (decide (r = 1))) := by
  by_cases hr : r = 1
  · rw [decide_t hr]
    exact pure_cast (pure_of (hs := hint [((1,1), {call := some ((i64 r))})]) (r := bl (r == (1 : Int))) (ps := [_]) (by kernel_rfl) ⟨(h), trivial⟩) (by (simp; omega))
  · rw [decide_eq_false hr]
    exact pure_cast (pure_of (hs := hint [((1,1), {call := some ((i64 r))})]) (r := bl (r == (1 : Int))) (ps := [_]) (by kernel_rfl) ⟨(h), trivial⟩) (by (simp; omega))
theorem may_r_0 (n : Int) (h : PT 31 [i64 n] (i64 0)) : PT 11 [i64 n, faA ⟨false, true, false, false, false⟩] (bl false) := by
  exact pure_of (hs := hint [((1,1), {call := some ((i64 (0 : Int)))})]) (ps := [_]) (by kernel_rfl) ⟨(h), trivial⟩
theorem may_r_1 (n : Int) (h : PT 31 [i64 n] (i64 1)) : PT 11 [i64 n, faA ⟨false, true, false, false, false⟩] (bl true) := by
  exact pure_of (hs := hint [((1,1), {call := some ((i64 (1 : Int)))})]) (ps := [_]) (by kernel_rfl) ⟨(h), trivial⟩
theorem may_r_2 (n : Int) (h : PT 31 [i64 n] (i64 2)) : PT 11 [i64 n, faA ⟨false, true, false, false, false⟩] (bl false) := by
  exact pure_of (hs := hint [((1,1), {call := some ((i64 (2 : Int)))})]) (ps := [_]) (by kernel_rfl) ⟨(h), trivial⟩
theorem may_r_3 (n : Int) (h : PT 31 [i64 n] (i64 3)) : PT 11 [i64 n, faA ⟨false, true, false, false, false⟩] (bl true) := by
  exact pure_of (hs := hint [((1,1), {call := some ((i64 (3 : Int)))})]) (ps := [_]) (by kernel_rfl) ⟨(h), trivial⟩
theorem may_r_4 (n : Int) (h : PT 31 [i64 n] (i64 4)) : PT 11 [i64 n, faA ⟨false, true, false, false, false⟩] (bl false) := by
  exact pure_of (hs := hint [((1,1), {call := some ((i64 (4 : Int)))})]) (ps := [_]) (by kernel_rfl) ⟨(h), trivial⟩
theorem may_r_5 (n : Int) (h : PT 31 [i64 n] (i64 5)) : PT 11 [i64 n, faA ⟨false, true, false, false, false⟩] (bl true) := by
  exact pure_of (hs := hint [((1,1), {call := some ((i64 (5 : Int)))})]) (ps := [_]) (by kernel_rfl) ⟨(h), trivial⟩
theorem may_r_6 (n : Int) (h : PT 31 [i64 n] (i64 6)) : PT 11 [i64 n, faA ⟨false, true, false, false, false⟩] (bl true) := by
  exact pure_of (hs := hint [((1,1), {call := some ((i64 (6 : Int)))})]) (ps := [_]) (by kernel_rfl) ⟨(h), trivial⟩
theorem may_r_7 (n : Int) (h : PT 31 [i64 n] (i64 7)) : PT 11 [i64 n, faA ⟨false, true, false, false, false⟩] (bl false) := by
  exact pure_of (hs := hint [((1,1), {call := some ((i64 (7 : Int)))})]) (ps := [_]) (by kernel_rfl) ⟨(h), trivial⟩
theorem may_r_8 (n : Int) (h : PT 31 [i64 n] (i64 8)) : PT 11 [i64 n, faA ⟨false, true, false, false, false⟩] (bl false) := by
  exact pure_of (hs := hint [((1,1), {call := some ((i64 (8 : Int)))})]) (ps := [_]) (by kernel_rfl) ⟨(h), trivial⟩
theorem may_rm_0 (n : Int) (h : PT 31 [i64 n] (i64 0)) : PT 11 [i64 n, faA ⟨false, true, true, false, false⟩] (bl false) := by
  exact pure_of (hs := hint [((1,1), {call := some ((i64 (0 : Int)))})]) (ps := [_]) (by kernel_rfl) ⟨(h), trivial⟩
theorem may_rm_1 (n : Int) (h : PT 31 [i64 n] (i64 1)) : PT 11 [i64 n, faA ⟨false, true, true, false, false⟩] (bl true) := by
  exact pure_of (hs := hint [((1,1), {call := some ((i64 (1 : Int)))})]) (ps := [_]) (by kernel_rfl) ⟨(h), trivial⟩
theorem may_rm_2 (n : Int) (h : PT 31 [i64 n] (i64 2)) : PT 11 [i64 n, faA ⟨false, true, true, false, false⟩] (bl false) := by
  exact pure_of (hs := hint [((1,1), {call := some ((i64 (2 : Int)))})]) (ps := [_]) (by kernel_rfl) ⟨(h), trivial⟩
theorem may_rm_3 (n : Int) (h : PT 31 [i64 n] (i64 3)) : PT 11 [i64 n, faA ⟨false, true, true, false, false⟩] (bl true) := by
  exact pure_of (hs := hint [((1,1), {call := some ((i64 (3 : Int)))})]) (ps := [_]) (by kernel_rfl) ⟨(h), trivial⟩
theorem may_rm_4 (n : Int) (h : PT 31 [i64 n] (i64 4)) : PT 11 [i64 n, faA ⟨false, true, true, false, false⟩] (bl true) := by
  exact pure_of (hs := hint [((1,1), {call := some ((i64 (4 : Int)))})]) (ps := [_]) (by kernel_rfl) ⟨(h), trivial⟩
theorem may_rm_5 (n : Int) (h : PT 31 [i64 n] (i64 5)) : PT 11 [i64 n, faA ⟨false, true, true, false, false⟩] (bl true) := by
  exact pure_of (hs := hint [((1,1), {call := some ((i64 (5 : Int)))})]) (ps := [_]) (by kernel_rfl) ⟨(h), trivial⟩
theorem may_rm_6 (n : Int) (h : PT 31 [i64 n] (i64 6)) : PT 11 [i64 n, faA ⟨false, true, true, false, false⟩] (bl true) := by
  exact pure_of (hs := hint [((1,1), {call := some ((i64 (6 : Int)))})]) (ps := [_]) (by kernel_rfl) ⟨(h), trivial⟩
theorem may_rm_7 (n : Int) (h : PT 31 [i64 n] (i64 7)) : PT 11 [i64 n, faA ⟨false, true, true, false, false⟩] (bl true) := by
  exact pure_of (hs := hint [((1,1), {call := some ((i64 (7 : Int)))})]) (ps := [_]) (by kernel_rfl) ⟨(h), trivial⟩
theorem may_rm_8 (n : Int) (h : PT 31 [i64 n] (i64 8)) : PT 11 [i64 n, faA ⟨false, true, true, false, false⟩] (bl true) := by
  exact pure_of (hs := hint [((1,1), {call := some ((i64 (8 : Int)))})]) (ps := [_]) (by kernel_rfl) ⟨(h), trivial⟩
/-! selections' table, empty -/
def noT : AV := A [.mp [], .sl 0 []]
def clA : AV := .fn (.func 50) [] [.ptr 0 0, .ptr 1 0]
def clB (c x : Int) : List Bk := [.arr 1 [i64 c] 0, .arr 1 [u32 x] 0]
theorem idx0_ok (c x : Int) : CallH Tryd.prog GT 64 [.sl 0 [], clA] (clB c x) (i64 (-1)) (clB c x) := by
  exact (fnRun_ok (hs := hint [((2,1000), {unroll := 1})]) (ps := []) (by kernel_rfl) trivial).1
theorem con0_ok (c x : Int) : CallH Tryd.prog GT 49 [.sl 0 [], clA] (clB c x) (bl false) (clB c x) := by
  exact (fnRun_ok (hs := hint [((1,2), {heap := some ((i64 (-1 : Int)), clB c x)})]) (ps := [_, [Bk.arr (1 : Nat) [AV.s (Value.int IntKind.i64 c)] (0 : Fz), Bk.arr (1 : Nat) [AV.s (Value.int IntKind.u32 x)] (0 : Fz)].length ≤ [Bk.arr (1 : Nat) [AV.s (Value.int IntKind.i64 c)] (0 : Fz), Bk.arr (1 : Nat) [AV.s (Value.int IntKind.u32 x)] (0 : Fz)].length]) (by kernel_rfl) ⟨(idx0_ok c x), (by (simp; done)), trivial⟩).1
theorem may0_ok (c x : Int) : PT 27 [noT, i64 c, u32 x] (bl false) := by
  exact pure_of (hs := hint [((1,3), {sub := some ([1, 2], [false, false], [false, false], (bl false), [Bk.arr (1 : Nat) [AV.s (Value.int IntKind.i64 c)] (0 : Fz), Bk.arr (1 : Nat) [AV.s (Value.int IntKind.u32 x)] (0 : Fz)])})]) (ps := [_]) (by kernel_rfl) ⟨(con0_ok c x), trivial⟩
end Go.Proofs.YtcnlgdbmcdlknaaDoor.Tr
