/-
  The statement TopGrown. By the prover of this seat.
-/
import Derived.Test.YtcnlgdbmcdlknaaOpen
import Derived.Test.YtcnlgdbmcdlknaaPz
namespace Go.Proofs.Ytcnlgdbmcdlknaa.topGrown
open Go.ChangeShapes Go.WideShapes Go.ChangeAt Go.RowKit Go.Gz
open Go.ChangeMaps (open_string shut_string)
set_option linter.unusedVariables false
theorem own : ownKnob Try.prog.godebug = none := by kernel_rfl
theorem laidOut : laidOutB Try.prog = true := by kernel_rfl
set_option maxRecDepth 100000 in
theorem lifted (os : Os) (started : os.Started) (H : Type) (enc : TypeId × Value → H) :
    ReturnsInHanded {} Try.checked os 3 .any (Rows.topGrownSpec.pre6 enc Try.prog Try.f3 Rows.topGrownRow.domain false) (Rows.topGrownSpec.post enc Try.prog Try.f3 false true false false) := by
  refine returnsInHanded_of_change (C := Try.checked) own started (by kernel_rfl) Try.func3
    (ChangeSpec.witness6 (enc := enc) (C := Try.checked) false ⟨#[], #[.slice none 0 0, .int .i8 0, .int .i8 0], []⟩ 8 (by kernel_rfl) (by kernel_rfl) (by kernel_rfl) (by kernel_rfl)) ?_
  intro W base args ds gs before hval0 hW hcnd _
  have hval : ∀ (j : Nat) t v, Try.f3.params[j]? = some t → args[j]? = some v → Value.okWide Try.prog W .any base t v := hval0
  have hW' := hW
  obtain ⟨p, q, hA0, hV, rfl, hfz, hnd⟩ := hW
  have hA : DataW.TrodAll enc Try.prog W 0 (fun _ => true) true Try.f3.params.toList args.toList ds p := hA0
  rw [Try.params3] at hA hval
  obtain ⟨v0, vs0, d0, ds0, p0, q0, hargs, rfl, rfl, h0, r0⟩ := trodAll_cons hA
  obtain ⟨v1, vs1, d1, ds1, p1, q1, rfl, rfl, rfl, h1, r1⟩ := trodAll_cons r0
  obtain ⟨v2, vs2, d2, ds2, p2, q2, rfl, rfl, rfl, h2, r2⟩ := trodAll_cons r1
  obtain ⟨rfl, rfl, rfl⟩ := trodAll_nil r2
  obtain rfl : args = #[v0, v1, v2] := by cases args; simp_all
  obtain ⟨rfl, rfl⟩ := trodVars_none hV
  have k0 := h0
  have lt0 : ∀ x ∈ p0, x.block < W.heap.size := by obtain ⟨m, hm⟩ := k0; exact DataW.trod_lt m _ _ _ hm
  have k1 := h1
  have lt1 : ∀ x ∈ p1, x.block < W.heap.size := by obtain ⟨m, hm⟩ := k1; exact DataW.trod_lt m _ _ _ hm
  have k2 := h2
  have lt2 : ∀ x ∈ p2, x.block < W.heap.size := by obtain ⟨m, hm⟩ := k2; exact DataW.trod_lt m _ _ _ hm
  obtain ⟨b0, len0, cap0, rfl⟩ := okWide_slice Try.underlying22 (hval 0 22 v0 rfl rfl)
  obtain ⟨y0, f0, l0⟩ := Go.Pm.in_cell (m := 9) (s := .sl shS4) (by kernel_rfl) rfl k0
  obtain ⟨a0, hh0, ok0⟩ := fits_s4s f0
  obtain rfl := List.cons.inj hh0 |>.1
  obtain ⟨b1, rfl⟩ := okWide_int Try.underlying23 (hval 1 23 v1 rfl rfl)
  obtain ⟨y1, f1, l1⟩ := Go.Pm.in_cell (m := 9) (s := .int .i8) (by kernel_rfl) rfl k1
  obtain ⟨a1, hh1, z1, zz1⟩ := fits_i8 f1
  obtain rfl := List.cons.inj hh1 |>.1
  obtain ⟨b2, rfl⟩ := okWide_int Try.underlying23 (hval 2 23 v2 rfl rfl)
  obtain ⟨y2, f2, l2⟩ := Go.Pm.in_cell (m := 9) (s := .int .i8) (by kernel_rfl) rfl k2
  obtain ⟨a2, hh2, z2, zz2⟩ := fits_i8 f2
  obtain rfl := List.cons.inj hh2 |>.1
  clear hA0 hval0
  refine (Go.Pm.law_calls (v := .bool true) (Bn.top_ok a0 a1 a2 z1 zz1 z2 zz2 ok0.1 ok0.2) (fun g cs h => by cases h) (.cons l0 (.cons l1 (.cons l2 .nil)))).mono fun e W' ⟨he, bel⟩ => ?_
  subst he
  exact ⟨_, rfl, _, _, _, [], _, [], hW', trodAll_mk1 (shut_bool Try.underlying4 _), (trodAll_cons_mk (Below.trod laidOut (by kernel_rfl) (of_decide_eq_true (by kernel_rfl)) k0 bel lt0) (trodAll_cons_mk (Below.trod laidOut (by kernel_rfl) (of_decide_eq_true (by kernel_rfl)) k1 bel lt1) (trodAll_cons_mk (Below.trod laidOut (by kernel_rfl) (of_decide_eq_true (by kernel_rfl)) k2 bel lt2) trodAll_mk0))), rfl, bel.frame _, fun h => by cases h⟩
theorem over : Rows.topGrownRow.holds Try.pinned (OpenSpec.ofChange Rows.topGrownSpec) :=
  OpenClaim.holds_of_wide 3 Try.f3 rfl rfl rfl rfl rfl rfl rfl ⟨rfl, rfl, rfl, rfl, rfl⟩ rfl rfl rfl rfl rfl (by kernel_rfl) Try.func3 (by kernel_rfl)
    (of_decide_eq_true (by kernel_rfl)) (by unfold Func.isWrapper; first | (rw [if_pos (by decide +kernel)]; kernel_rfl) | (rw [if_neg (by decide +kernel)]; exact ⟨rfl, rfl⟩))
    (fun os started H enc _ => lifted os started H enc)
end Go.Proofs.Ytcnlgdbmcdlknaa.topGrown
namespace Go.Proofs.Ytcnlgdbmcdlknaa
/-- the statement -/
theorem topGrown_holds : Rows.TopGrownSaid := topGrown.over
#print axioms topGrown_holds
end Go.Proofs.Ytcnlgdbmcdlknaa
