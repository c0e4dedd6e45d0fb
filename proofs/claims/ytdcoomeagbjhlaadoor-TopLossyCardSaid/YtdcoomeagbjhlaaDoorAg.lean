/- Get, by the program and by the reference: one answer; back again. By the prover of this seat. -/
import Derived.Test.YtdcoomeagbjhlaaDoorAf
set_option linter.unusedVariables false
set_option linter.unusedSimpArgs false
set_option maxRecDepth 100000
set_option maxHeartbeats 4000000
namespace Go.Proofs.YtdcoomeagbjhlaaDoor.Or
open Go.RowKit Go.Pm
def getD (o n : Int) (b : ByteArray) : Int × Int :=
  if o ≠ 0 ∧ o ≠ 1 then (0, 10) else match knownD n with
  | none => (0, 17)
  | some s => if b.size < s.wd then (0, 3) else if b.size > s.wd then (0, 4) else (readD o s b, 0)
def getR (r : Int × Int) : AV := .tup [i64 r.1, i64 r.2]
theorem get_odd (o n : Int) (b : ByteArray) (h0 : ¬ o = 0) (h1 : ¬ o = 1) : Pu 24 [i64 o, i64 n, st b] (getR (0, 10)) := by
  exact pure_of (hs := hint [((1,2), {call := some (AV.tup [A (spL sp0), i64 (10 : Int)])})]) (ps := [_]) (by kernel_rfl) ⟨(known_odd (o) (n) (by assumption) (by assumption)), trivial⟩
theorem get_none (o n : Int) (b : ByteArray) (ho : o = 0 ∨ o = 1) (h : knownD n = none) : Pu 24 [i64 o, i64 n, st b] (getR (0, 17)) := by
  exact pure_of (hs := hint [((1,2), {call := some (AV.tup [A (spL sp0), i64 (17 : Int)])})]) (ps := [_]) (by kernel_rfl) ⟨(known_none (o) (n) (by assumption) (by assumption)), trivial⟩
theorem get_short (o n : Int) (b : ByteArray) (s : Span) (w : Nat) (ho : o = 0 ∨ o = 1) (h : knownD n = some s) (h3 : w = 1 ∨ w = 2 ∨ w = 4) (hw : s.wide w) (hb : b.size < w) : Pu 24 [i64 o, i64 n, st b] (getR (0, 3)) := by
  exact pure_of (hs := hint [((1,2), {call := some (AV.tup [A (spL s), i64 (0 : Int)])}), ((4,3), {call := some (i64 (↑w : Int))}), ((4,4), {val := some (bl (true))})]) (ps := [_, _, bl (decide ((↑b.size : Int) < (↑w : Int))) = bl (true)]) (by kernel_rfl) ⟨(known_some o n s ho h), (width_ok s w h3 hw), (bdT (by omega)), trivial⟩
theorem get_long (o n : Int) (b : ByteArray) (s : Span) (w : Nat) (ho : o = 0 ∨ o = 1) (h : knownD n = some s) (h3 : w = 1 ∨ w = 2 ∨ w = 4) (hw : s.wide w) (hb : b.size > w) : Pu 24 [i64 o, i64 n, st b] (getR (0, 4)) := by
  exact pure_of (hs := hint [((1,2), {call := some (AV.tup [A (spL s), i64 (0 : Int)])}), ((4,3), {call := some (i64 (↑w : Int))}), ((4,4), {val := some (bl (false))}), ((6,3), {call := some (i64 (↑w : Int))}), ((6,4), {val := some (bl (true))})]) (ps := [_, _, bl (decide ((↑b.size : Int) < (↑w : Int))) = bl (false), _, bl (decide ((↑b.size : Int) > (↑w : Int))) = bl (true)]) (by kernel_rfl) ⟨(known_some o n s ho h), (width_ok s w h3 hw), (bdF (by omega)), (width_ok s w h3 hw), (bdT (by omega)), trivial⟩
theorem get_right (o n : Int) (b : ByteArray) (s : Span) (ho : o = 0 ∨ o = 1) (h : knownD n = some s) (h3 : s.wd = 1 ∨ s.wd = 2 ∨ s.wd = 4) (hw : s.wide s.wd) (hb : b.size = s.wd) : Pu 24 [i64 o, i64 n, st b] (getR (readD o s b, 0)) := by
  exact pure_of (hs := hint [((1,2), {call := some (AV.tup [A (spL s), i64 (0 : Int)])}), ((4,3), {call := some (i64 (↑s.wd : Int))}), ((4,4), {val := some (bl (false))}), ((6,3), {call := some (i64 (↑s.wd : Int))}), ((6,4), {val := some (bl (false))}), ((8,3), {call := some (i64 (readD o s b))})]) (ps := [_, _, bl (decide ((↑b.size : Int) < (↑s.wd : Int))) = bl (false), _, bl (decide ((↑b.size : Int) > (↑s.wd : Int))) = bl (false), _]) (by kernel_rfl) ⟨(known_some o n s ho h), (width_ok s s.wd h3 hw), (bdF (by omega)), (width_ok s s.wd h3 hw), (bdF (by omega)), (read_ok o n s b ho h hb), trivial⟩
theorem get_all (o n : Int) (b : ByteArray) : Pu 24 [i64 o, i64 n, st b] (getR (getD o n b)) := by
  unfold getD
  by_cases h : o ≠ 0 ∧ o ≠ 1
  · rw [if_pos h]; exact get_odd o n b h.1 h.2
  · rw [if_neg h]
    have ho : o = 0 ∨ o = 1 := by omega
    cases hk : knownD n with
    | none => exact get_none o n b ho hk
    | some s =>
      obtain ⟨h3, hw⟩ := wide_wd hk
      by_cases h1 : b.size < s.wd
      · simp only [h1, if_true]; exact get_short o n b s s.wd ho hk h3 hw h1
      · by_cases h2 : b.size > s.wd
        · simp only [h1, h2, if_true, if_false]; exact get_long o n b s s.wd ho hk h3 hw h2
        · simp only [h1, h2, if_false]; exact get_right o n b s ho hk h3 hw (by omega)
theorem tup_eq {a b : Int} (h : a = b) : AV.tup [i64 a, i64 0] = getR (b, 0) := by rw [h]; rfl

end Go.Proofs.YtdcoomeagbjhlaaDoor.Or
