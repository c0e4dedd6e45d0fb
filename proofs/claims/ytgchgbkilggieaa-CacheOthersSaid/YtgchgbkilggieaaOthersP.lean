/-
  The statement CacheOthers. By the prover of this seat.
-/
import Derived.Test.YtgchgbkilggieaaOpen
import Derived.Test.YtgchgbkilggieaaRt
namespace Go.Proofs.Ytgchgbkilggieaa.cacheOthers
open Go.ChangeShapes Go.WideShapes Go.ChangeAt Go.RowKit Go.Gz
open Go.ChangeMaps (open_string shut_string)
set_option linter.unusedVariables false
theorem own : ownKnob Try.prog.godebug = none := by kernel_rfl
theorem laidOut : laidOutB Try.prog = true := by kernel_rfl
set_option maxRecDepth 100000 in
theorem lifted (os : Os) (started : os.Started) (H : Type) (enc : TypeId × Value → H) :
    ReturnsInHanded {} Try.checked os 7 .any (Rows.cacheOthersSpec.pre6 enc Try.prog Try.f7 Rows.cacheOthersRow.domain false) (Rows.cacheOthersSpec.post enc Try.prog Try.f7 false true false false) := by
  refine returnsInHanded_of_change (C := Try.checked) own started (by kernel_rfl) Try.func7
    (ChangeSpec.witness6 (enc := enc) (C := Try.checked) false ⟨#[], #[.int .u8 0, .slice none 0 0, .string ⟨#[]⟩], []⟩ 8 (by kernel_rfl) (by kernel_rfl) (by kernel_rfl) (by kernel_rfl)) ?_
  intro W base args ds gs before hval0 hW hcnd _
  have hval : ∀ (j : Nat) t v, Try.f7.params[j]? = some t → args[j]? = some v → Value.okWide Try.prog W .any base t v := hval0
  have hW' := hW
  obtain ⟨p, q, hA0, hV, rfl, hfz, hnd⟩ := hW
  have hA : DataW.TrodAll enc Try.prog W 0 (fun _ => true) true Try.f7.params.toList args.toList ds p := hA0
  rw [Try.params7] at hA hval
  obtain ⟨v0, vs0, d0, ds0, p0, q0, hargs, rfl, rfl, h0, r0⟩ := trodAll_cons hA
  obtain ⟨v1, vs1, d1, ds1, p1, q1, rfl, rfl, rfl, h1, r1⟩ := trodAll_cons r0
  obtain ⟨v2, vs2, d2, ds2, p2, q2, rfl, rfl, rfl, h2, r2⟩ := trodAll_cons r1
  obtain ⟨rfl, rfl, rfl⟩ := trodAll_nil r2
  obtain rfl : args = #[v0, v1, v2] := by cases args; simp_all
  obtain ⟨rfl, rfl⟩ := trodVars_none hV
  have k0 := h0
  have lt0 : ∀ x ∈ p0, x.block < W.heap.size := by obtain ⟨m, hm⟩ := k0; exact DataW.trod_lt m _ _ _ hm
  have k1 := h1
  have lt1 : ∀ x ∈ p1, x.block < W.heap.size := by obtain ⟨m, hm⟩ := k1; exact DataW.trod_lt m _ _ _ hm
  have k2 := h2
  have lt2 : ∀ x ∈ p2, x.block < W.heap.size := by obtain ⟨m, hm⟩ := k2; exact DataW.trod_lt m _ _ _ hm
  obtain ⟨b0, rfl⟩ := okWide_int Try.underlying5 (hval 0 5 v0 rfl rfl)
  obtain ⟨y0, f0, l0⟩ := Go.Pm.in_cell (m := 9) (s := .int .u8) (by kernel_rfl) rfl k0
  obtain ⟨a0, hh0, z0, zz0⟩ := fits_u8 f0
  obtain rfl := List.cons.inj hh0 |>.1
  obtain ⟨b1, len1, cap1, rfl⟩ := okWide_slice Try.underlying22 (hval 1 22 v1 rfl rfl)
  obtain ⟨y1, f1, l1⟩ := Go.Pm.in_cell (m := 9) (s := .sl .str) (by kernel_rfl) rfl k1
  obtain ⟨a1, hh1, ok1⟩ := fits_strs f1
  obtain rfl := List.cons.inj hh1 |>.1
  obtain ⟨b2, rfl, rfl, rfl, w2⟩ := open_string Try.underlying9 (hval 2 9 v2 rfl rfl) h2
  obtain ⟨y2, f2, l2⟩ := Go.Pm.in_cell (m := 9) (s := .str) (by kernel_rfl) rfl k2
  obtain ⟨a2, hh2, ok2⟩ := fits_str f2
  obtain rfl := List.cons.inj hh2 |>.1
  clear hA0 hval0
  refine (Go.Pm.law_calls (v := .bool true) (others_ok a0 z0 zz0 a1 a2) (fun g cs h => by cases h) (.cons l0 (.cons l1 (.cons l2 .nil)))).mono fun e W' ⟨he, bel⟩ => ?_
  subst he
  exact ⟨_, rfl, _, _, _, [], _, [], hW', trodAll_mk1 (shut_bool Try.underlying4 _), (trodAll_cons_mk (Below.trod laidOut (by kernel_rfl) (of_decide_eq_true (by kernel_rfl)) k0 bel lt0) (trodAll_cons_mk (Below.trod laidOut (by kernel_rfl) (of_decide_eq_true (by kernel_rfl)) k1 bel lt1) (trodAll_cons_mk (Below.trod laidOut (by kernel_rfl) (of_decide_eq_true (by kernel_rfl)) k2 bel lt2) trodAll_mk0))), rfl, bel.frame _, fun h => by cases h⟩
theorem over : Rows.cacheOthersRow.holds Try.pinned (OpenSpec.ofChange Rows.cacheOthersSpec) :=
  OpenClaim.holds_of_wide 7 Try.f7 rfl rfl rfl rfl rfl rfl rfl ⟨rfl, rfl, rfl, rfl, rfl⟩ rfl rfl rfl rfl rfl (by kernel_rfl) Try.func7 (by kernel_rfl)
    (of_decide_eq_true (by kernel_rfl)) (by unfold Func.isWrapper; first | (rw [if_pos (by decide +kernel)]; kernel_rfl) | (rw [if_neg (by decide +kernel)]; exact ⟨rfl, rfl⟩))
    (fun os started H enc _ => lifted os started H enc)
end Go.Proofs.Ytgchgbkilggieaa.cacheOthers
namespace Go.Proofs.Ytgchgbkilggieaa
/-- the statement -/
theorem cacheOthers_holds : Rows.CacheOthersSaid := cacheOthers.over
#print axioms cacheOthers_holds
end Go.Proofs.Ytgchgbkilggieaa
