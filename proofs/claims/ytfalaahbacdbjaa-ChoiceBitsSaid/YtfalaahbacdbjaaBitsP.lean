/-
  The statement ChoiceBits. By the prover of this seat.
-/
import Derived.Test.YtfalaahbacdbjaaOpen
import Derived.Test.YtfalaahbacdbjaaQf
namespace Go.Proofs.Ytfalaahbacdbjaa.choiceBits
open Go.ChangeShapes Go.WideShapes Go.ChangeAt Go.RowKit Go.Gz
open Go.ChangeMaps (open_string shut_string)
set_option linter.unusedVariables false
theorem own : ownKnob Try.prog.godebug = none := by kernel_rfl
theorem laidOut : laidOutB Try.prog = true := by kernel_rfl
set_option maxRecDepth 100000 in
theorem lifted (os : Os) (started : os.Started) (H : Type) (enc : TypeId × Value → H) :
    ReturnsInHanded {} Try.checked os 5 .any (Rows.choiceBitsSpec.pre6 enc Try.prog Try.f5 Rows.choiceBitsRow.domain false) (Rows.choiceBitsSpec.post enc Try.prog Try.f5 false true false false) := by
  refine returnsInHanded_of_change (C := Try.checked) own started (by kernel_rfl) Try.func5
    (ChangeSpec.witness6 (enc := enc) (C := Try.checked) false ⟨#[], #[.slice none 0 0, .int .u32 0, .int .u16 0, .int .u16 0, .int .i64 0, .int .u16 0], []⟩ 8 (by kernel_rfl) (by kernel_rfl) (by kernel_rfl) (by kernel_rfl)) ?_
  intro W base args ds gs before hval0 hW hcnd _
  have hval : ∀ (j : Nat) t v, Try.f5.params[j]? = some t → args[j]? = some v → Value.okWide Try.prog W .any base t v := hval0
  have hW' := hW
  obtain ⟨p, q, hA0, hV, rfl, hfz, hnd⟩ := hW
  have hA : DataW.TrodAll enc Try.prog W 0 (fun _ => true) true Try.f5.params.toList args.toList ds p := hA0
  rw [Try.params5] at hA hval
  obtain ⟨v0, vs0, d0, ds0, p0, q0, hargs, rfl, rfl, h0, r0⟩ := trodAll_cons hA
  obtain ⟨v1, vs1, d1, ds1, p1, q1, rfl, rfl, rfl, h1, r1⟩ := trodAll_cons r0
  obtain ⟨v2, vs2, d2, ds2, p2, q2, rfl, rfl, rfl, h2, r2⟩ := trodAll_cons r1
  obtain ⟨v3, vs3, d3, ds3, p3, q3, rfl, rfl, rfl, h3, r3⟩ := trodAll_cons r2
  obtain ⟨v4, vs4, d4, ds4, p4, q4, rfl, rfl, rfl, h4, r4⟩ := trodAll_cons r3
  obtain ⟨v5, vs5, d5, ds5, p5, q5, rfl, rfl, rfl, h5, r5⟩ := trodAll_cons r4
  obtain ⟨rfl, rfl, rfl⟩ := trodAll_nil r5
  obtain rfl : args = #[v0, v1, v2, v3, v4, v5] := by cases args; simp_all
  obtain ⟨rfl, rfl⟩ := trodVars_none hV
  have k0 := h0
  have lt0 : ∀ x ∈ p0, x.block < W.heap.size := by obtain ⟨m, hm⟩ := k0; exact DataW.trod_lt m _ _ _ hm
  have k1 := h1
  have lt1 : ∀ x ∈ p1, x.block < W.heap.size := by obtain ⟨m, hm⟩ := k1; exact DataW.trod_lt m _ _ _ hm
  have k2 := h2
  have lt2 : ∀ x ∈ p2, x.block < W.heap.size := by obtain ⟨m, hm⟩ := k2; exact DataW.trod_lt m _ _ _ hm
  have k3 := h3
  have lt3 : ∀ x ∈ p3, x.block < W.heap.size := by obtain ⟨m, hm⟩ := k3; exact DataW.trod_lt m _ _ _ hm
  have k4 := h4
  have lt4 : ∀ x ∈ p4, x.block < W.heap.size := by obtain ⟨m, hm⟩ := k4; exact DataW.trod_lt m _ _ _ hm
  have k5 := h5
  have lt5 : ∀ x ∈ p5, x.block < W.heap.size := by obtain ⟨m, hm⟩ := k5; exact DataW.trod_lt m _ _ _ hm
  obtain ⟨b0, len0, cap0, rfl⟩ := okWide_slice Try.underlying22 (hval 0 22 v0 rfl rfl)
  obtain ⟨y0, f0, l0⟩ := Go.Pm.in_cell (m := 9) (s := .sl shAct) (by kernel_rfl) rfl k0
  obtain ⟨a0, hh0, ok0⟩ := fits_acts f0
  obtain rfl := List.cons.inj hh0 |>.1
  obtain ⟨b1, rfl⟩ := okWide_int Try.underlying33 (hval 1 33 v1 rfl rfl)
  obtain ⟨y1, f1, l1⟩ := Go.Pm.in_cell (m := 9) (s := .int .u32) (by kernel_rfl) rfl k1
  obtain ⟨a1, hh1, z1, zz1⟩ := fits_u32 f1
  obtain rfl := List.cons.inj hh1 |>.1
  obtain ⟨b2, rfl⟩ := okWide_int Try.underlying43 (hval 2 43 v2 rfl rfl)
  obtain ⟨y2, f2, l2⟩ := Go.Pm.in_cell (m := 9) (s := .int .u16) (by kernel_rfl) rfl k2
  obtain ⟨a2, hh2, z2, zz2⟩ := fits_u16 f2
  obtain rfl := List.cons.inj hh2 |>.1
  obtain ⟨b3, rfl⟩ := okWide_int Try.underlying43 (hval 3 43 v3 rfl rfl)
  obtain ⟨y3, f3, l3⟩ := Go.Pm.in_cell (m := 9) (s := .int .u16) (by kernel_rfl) rfl k3
  obtain ⟨a3, hh3, z3, zz3⟩ := fits_u16 f3
  obtain rfl := List.cons.inj hh3 |>.1
  obtain ⟨b4, rfl⟩ := okWide_int Try.underlying3 (hval 4 3 v4 rfl rfl)
  obtain ⟨y4, f4, l4⟩ := Go.Pm.in_cell (m := 9) (s := .int .i64) (by kernel_rfl) rfl k4
  obtain ⟨a4, hh4, z4, zz4⟩ := fits_i64 f4
  obtain rfl := List.cons.inj hh4 |>.1
  obtain ⟨b5, rfl⟩ := okWide_int Try.underlying43 (hval 5 43 v5 rfl rfl)
  obtain ⟨y5, f5, l5⟩ := Go.Pm.in_cell (m := 9) (s := .int .u16) (by kernel_rfl) rfl k5
  obtain ⟨a5, hh5, z5, zz5⟩ := fits_u16 f5
  obtain rfl := List.cons.inj hh5 |>.1
  clear hA0 hval0
  refine (Go.Pm.law_calls (v := .bool true) (bits_ok a0 ok0 a1 a2 a3 a4 a5 z1 zz1 z2 zz2 z3 zz3 z4 zz4 z5 zz5) (fun g cs h => by cases h) (.cons l0 (.cons l1 (.cons l2 (.cons l3 (.cons l4 (.cons l5 .nil))))))).mono fun e W' ⟨he, bel⟩ => ?_
  subst he
  exact ⟨_, rfl, _, _, _, [], _, [], hW', trodAll_mk1 (shut_bool Try.underlying4 _), (trodAll_cons_mk (Below.trod laidOut (by kernel_rfl) (of_decide_eq_true (by kernel_rfl)) k0 bel lt0) (trodAll_cons_mk (Below.trod laidOut (by kernel_rfl) (of_decide_eq_true (by kernel_rfl)) k1 bel lt1) (trodAll_cons_mk (Below.trod laidOut (by kernel_rfl) (of_decide_eq_true (by kernel_rfl)) k2 bel lt2) (trodAll_cons_mk (Below.trod laidOut (by kernel_rfl) (of_decide_eq_true (by kernel_rfl)) k3 bel lt3) (trodAll_cons_mk (Below.trod laidOut (by kernel_rfl) (of_decide_eq_true (by kernel_rfl)) k4 bel lt4) (trodAll_cons_mk (Below.trod laidOut (by kernel_rfl) (of_decide_eq_true (by kernel_rfl)) k5 bel lt5) trodAll_mk0)))))), rfl, bel.frame _, fun h => by cases h⟩
theorem over : Rows.choiceBitsRow.holds Try.pinned (OpenSpec.ofChange Rows.choiceBitsSpec) :=
  OpenClaim.holds_of_wide 5 Try.f5 rfl rfl rfl rfl rfl rfl rfl ⟨rfl, rfl, rfl, rfl, rfl⟩ rfl rfl rfl rfl rfl (by kernel_rfl) Try.func5 (by kernel_rfl)
    (of_decide_eq_true (by kernel_rfl)) (by unfold Func.isWrapper; first | (rw [if_pos (by decide +kernel)]; kernel_rfl) | (rw [if_neg (by decide +kernel)]; exact ⟨rfl, rfl⟩))
    (fun os started H enc _ => lifted os started H enc)
end Go.Proofs.Ytfalaahbacdbjaa.choiceBits
namespace Go.Proofs.Ytfalaahbacdbjaa
/-- the statement -/
theorem choiceBits_holds : Rows.ChoiceBitsSaid := choiceBits.over
#print axioms choiceBits_holds
end Go.Proofs.Ytfalaahbacdbjaa
