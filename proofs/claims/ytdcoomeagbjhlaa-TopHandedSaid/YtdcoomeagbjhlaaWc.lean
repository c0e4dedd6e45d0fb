/- Properties: a clone is made. By the prover of this seat. -/
import Derived.Test.YtdcoomeagbjhlaaWb
set_option linter.unusedVariables false
set_option linter.unusedSimpArgs false
set_option maxRecDepth 100000
set_option maxHeartbeats 4000000
namespace Go.Proofs.Ytdcoomeagbjhlaa
open Go.RowKit Go.Pm
theorem cln_nil : Pure Try.prog G0 58 [.s (.slice none 0 0)] (.osl 0 0 0 4) [.arr 0 [] 0] :=
  Pure.forget (r := .nsl) (news := []) (fnRun_ok (hs := hint []) (r := .nsl) (H' := []) (ps := []) (by kernel_rfl) trivial).1 { ks := [], gh := [(0, 4)] } ⟨rfl, trivial⟩ rfl
theorem cln_sx0 (l : List Prp) (hl : l.length ≤ 100000) : Pure Try.prog G0 58 [.sx l.length (l.flatMap propL)] (.osl 1 0 (0 + l.length) 4) [.dead, .arr ((0 + l.length) * 4) (l.flatMap propL) 0] := by
  have e0 := row_take (sz := 4) (enc := propL) (fun _ => rfl) l (l.length * 4) (Nat.le_refl _)
  exact (fnRun_ok (hs := hint [((3,2), { sym := true, cells := some (l.flatMap propL) })]) (ps := [true = true, decide (((0 : Nat) + l.length) * (40 : Nat) ≤ (140737488355328 : Nat)) = true, decide ((List.take (l.length * (4 : Nat)) (List.flatMap propL l)).length = l.length * (4 : Nat)) = true, ((List.take (l.length * (4 : Nat)) (List.flatMap propL l)) : List AV) = (List.flatMap propL l)]) (by kernel_rfl) ⟨rfl, (by (first | exact decide_t (by omega) | exact decide_t (by rw [e0, row_len (sz := 4) (fun _ => rfl)]) | exact e0 | exact decide_t ⟨by omega, by omega, by omega⟩)), (by (first | exact decide_t (by omega) | exact decide_t (by rw [e0, row_len (sz := 4) (fun _ => rfl)]) | exact e0 | exact decide_t ⟨by omega, by omega, by omega⟩)), (by (first | exact decide_t (by omega) | exact decide_t (by rw [e0, row_len (sz := 4) (fun _ => rfl)]) | exact e0 | exact decide_t ⟨by omega, by omega, by omega⟩)), trivial⟩).1
theorem cln_sx (l : List Prp) (hl : l.length ≤ 100000) : Pure Try.prog G0 58 [.sx l.length (l.flatMap propL)] (.osl 0 0 l.length 4) [.arr (l.length * 4) (l.flatMap propL) 0] := by
  have h := cln_sx0 l hl
  rw [Nat.zero_add] at h
  exact h.forget { ks := [0], l := [1] } ⟨rfl, row_pureB (fun _ => rfl) _ _ _, trivial⟩ rfl
/-- a function upon one slice: the slice is nil or not -/
theorem pure_nilN {P : Program} {G : Nat → Option (List AV)} {f : FuncId} {n : Nat} {cs : List AV} {r : AV} {news : List Bk} (h1 : Pure P G f [.sx n cs] r news) (h2 : n = 0 → cs = [] → Pure P G f [.s (.slice none 0 0)] r news) : Pure P G f [.sl n cs] r news := by
  refine ⟨h1.1, fun w0 ρ M W vals hw hg hargs => ?_⟩
  obtain ⟨v, us, rfl, q1, q2⟩ := hargs.inv_cons
  obtain rfl : us = [] := by have := q2.len; cases us <;> simp at this; rfl
  rcases q1.split with q | ⟨rfl, rfl, rfl⟩
  · exact h1.2 w0 ρ M W _ hw hg (.cons q .nil)
  · exact (h2 rfl rfl).2 w0 ρ M W _ hw hg (.cons (.s _ _) .nil)
theorem cln_ok (l : List Prp) (hl : l.length ≤ 100000) : Pure Try.prog G0 58 [slE propL l] (.osl 0 0 l.length 4) [.arr (l.length * 4) (l.flatMap propL) 0] := by
  refine pure_nilN (cln_sx l hl) fun h0 _ => ?_
  obtain rfl := List.length_eq_zero_iff.1 h0
  exact cln_nil
end Go.Proofs.Ytdcoomeagbjhlaa
