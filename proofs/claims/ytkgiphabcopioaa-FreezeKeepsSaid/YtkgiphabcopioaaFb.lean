/- The functions of the chapter upon plain values. By the prover of this seat. -/
import Derived.Test.YtkgiphabcopioaaFa
set_option linter.unusedVariables false
set_option maxRecDepth 100000
namespace Go.Proofs.Ytkgiphabcopioaa
open Go.RowKit Go.Pm
def Dev.thawD (d : Dev) : Dev := { d with frozen := false, steps := false, held := Inp.zero, holds := false }
def Dev.stepD (d : Dev) : Dev := { d.thawD with steps := true }
def Dev.endD (d : Dev) : Dev := { Dev.zero with waits := d.waits }
def Dev.replayD (d : Dev) : Dev × Inp × Bool := match d.holds, d.grabbed with
  | true, true => (d.endD, d.held, true)
  | _, _ => (d, Inp.zero, false)
def res3 (r : Dev × Inp × Bool) : AV := .tup [A (devL r.1), A (inpL r.2.1), bl r.2.2]
theorem step_ok (d : Dev) : Pu 24 [A (devL d)] (res3 (d.stepD, Inp.zero, false)) :=
  pure_of (hs := hint [((1, 1), { call := some (res3 (d.thawD, Inp.zero, false)) })]) (ps := [Pu 23 [A (devL d)] (res3 (d.thawD, Inp.zero, false))]) (by kernel_rfl) ⟨thaw_ok d, trivial⟩
theorem replay_ok (d : Dev) : Pu 25 [A (devL d)] (res3 d.replayD) := by
  obtain ⟨act, g, fr, st, he, h, ws⟩ := d
  cases h <;> cases g
  · exact pure_of (hs := hint []) (ps := []) (by kernel_rfl) trivial
  · exact pure_of (hs := hint []) (ps := []) (by kernel_rfl) trivial
  · exact pure_of (hs := hint []) (ps := []) (by kernel_rfl) trivial
  · exact pure_of (hs := hint [((3, 1), { call := some (A (devL (Dev.endD ⟨act, true, fr, st, he, true, ws⟩))) })]) (ps := [Pu 17 [A (devL ⟨act, true, fr, st, he, true, ws⟩)] (A (devL (Dev.endD ⟨act, true, fr, st, he, true, ws⟩)))]) (by kernel_rfl) ⟨end_ok _, trivial⟩
def Dev.allowD (d : Dev) (m : Int) : Dev × Inp × Bool := match d.frozen with
  | false => (d, Inp.zero, false)
  | true => if m = 0 then (d.thawD, Inp.zero, false) else if m = 1 then (d.stepD, Inp.zero, false) else if m = 2 then d.replayD else (d, Inp.zero, false)
theorem decide_t {p : Prop} [Decidable p] (h : p) : decide p = true := decide_eq_true h
theorem app_inps (l : List Inp) : ([] : List AV) ++ (inpsL l).take (l.length * 6) = inpsL l := by rw [take_inps]; rfl
theorem drop_inps (l : List Inp) (n : Nat) (h : n = l.length) : ((inpsL l).drop 0).take (n * 6) = inpsL l := by subst h; rw [List.drop_zero, take_inps]
theorem clone_ok (l : List Inp) (hl : l.length ≤ 2000000) : Pu 26 [slI l] (slI l) := by
  have h1 : Pu 26 [.sx l.length (inpsL l)] (.sl (0 + l.length) (((inpsL l).drop 0).take ((0 + l.length) * 6))) :=
    pure_said (hs := hint [((3, 2), { sym := true, cells := some (inpsL l) })]) (ps := [true = true, decide ((0 + l.length) * 48 ≤ 140737488355328) = true, decide ((List.take (l.length * 6) (inpsL l)).length = l.length * 6) = true, ([] : List AV) ++ (inpsL l).take (l.length * 6) = inpsL l, (((inpsL l).all pureC && true) = true), true = true]) (by kernel_rfl) ⟨rfl, decide_t (by omega), decide_t (by rw [take_inps, len_inps]), app_inps l, by rw [pure_inps]; rfl, rfl, trivial⟩
  rw [drop_inps l _ (by omega), Nat.zero_add] at h1
  refine pure_nil1 h1 fun h0 _ => ?_
  obtain rfl := List.length_eq_zero_iff.1 h0
  exact pure_of (hs := hint []) (ps := []) (by kernel_rfl) trivial
end Go.Proofs.Ytkgiphabcopioaa
