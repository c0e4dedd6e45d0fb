/- The machine of plain values: a walk that is reckoned is a walk; loops; a function from its body. By the prover of this seat. -/
import Derived.Test.YtkgiphabcopioaaPm25b
set_option linter.unusedVariables false
namespace Go.Pm
open Go Go.RowKit
section
variable {w0 : World}
/-- what a piece of code hands on -/
def After (C : Cx) (w0 : World) (ρ : Nm) (M : Mem) (e : Ex) (st' : St) : Exit → Act → World → Prop := fun x a' W' => x = e.to ∧ ∃ ρ' M', M.le M' ∧ (∀ i, i < C.keep → ∀ x, ρ i = some x → ρ' i = some x) ∧ Fresh M M' w0.heap.size ∧ Rel C w0 ρ' M' st' a' W'
theorem After.step {C : Cx} {ρ ρ1 : Nm} {M M1 : Mem} {e : Ex} {st' : St} {x : Exit} {a : Act} {W : World} (hM : M.le M1) (hr : ∀ i, i < C.keep → ∀ x, ρ i = some x → ρ1 i = some x) (hf : Fresh M M1 w0.heap.size) (h : After C w0 ρ1 M1 e st' x a W) : After C w0 ρ M e st' x a W := by
  obtain ⟨h1, ρ', M', h2, h3, h4, h5⟩ := h
  exact ⟨h1, ρ', M', hM.trans h2, fun i hi x hx => h3 i hi x (hr i hi x hx), hf.trans h4, h5⟩
theorem Tri.here (C : Cx) {c : Code} {st : St} {e : Ex} (h : ∀ (Q : Exit → Act → World → Prop) a W, Q e.to a W → c.wp C.P Q a W) : Tri C c st e st :=
  fun w0 ρ M a W hR => h _ a W ⟨rfl, ρ, M, Mem.le.refl M, fun _ _ _ h => h, Fresh.refl _ _, hR⟩
theorem Tri.seq {C : Cx} {x y : Code} {st st1 st2 : St} {e : Ex} (h1 : Tri C x st .normal st1) (h2 : Tri C y st1 e st2) : Tri C (.seq x y) st e st2 := by
  intro w0 ρ M a W hR
  refine wp_seq (Code.wp_mono (fun e' a' W' h => ?_) (h1 w0 ρ M a W hR))
  obtain ⟨rfl, ρ1, M1, q1, q2, q3, q4⟩ := h
  show y.wp C.P _ a' W'
  refine Code.wp_mono (fun e2 a2 W2 h => ?_) (h2 w0 ρ1 M1 a' W' q4)
  exact After.step (C := C) q1 q2 q3 h
theorem Tri.seq_exit {C : Cx} {x y : Code} {st st1 : St} {e : Ex} (h1 : Tri C x st e st1) (hne : e ≠ .normal) : Tri C (.seq x y) st e st1 := by
  intro w0 ρ M a W hR
  refine wp_seq (Code.wp_mono (fun e' a' W' h => ?_) (h1 w0 ρ M a W hR))
  have he := h.1
  subst he
  cases e with
  | normal => exact absurd rfl hne
  | exit n => exact h
  | ret => exact h
theorem Tri.cond {C : Cx} {c : Operand} {x y : Code} {st st1 : St} {e : Ex} {b : Bool} (hc : evalA C st.t c = .s (.bool b)) (h : Tri C (if b then x else y) st e st1) : Tri C (.cond c x y) st e st1 := by
  intro w0 ρ M a W hR
  have hv := eval_ok hR.slots hR.glob c
  rw [hc] at hv
  exact wp_cond hv.inv_s (h w0 ρ M a W hR)
theorem Tri.block {C : Cx} {id : Nat} {x : Code} {st st1 : St} {e : Ex} (h : Tri C x st e st1) : Tri C (.block id x) st (match e with | .exit j => if j = id then .normal else .exit j | e => e) st1 := by
  intro w0 ρ M a W hR
  refine wp_block (Code.wp_mono (fun e' a' W' h => ?_) (h w0 ρ M a W hR))
  obtain ⟨rfl, hh⟩ := h
  cases e with
  | normal => exact ⟨rfl, hh⟩
  | ret => exact ⟨rfl, hh⟩
  | exit j =>
    show (if j = id then _ else _)
    split
    · rename_i hj
      subst hj
      simp only [if_true]
      exact ⟨rfl, hh⟩
    · rename_i hj
      simp only [if_neg hj]
      exact ⟨rfl, hh⟩
theorem LoopT.forget {C : Cx} {c : Code} {f : Fg} {st st' : St} {e : Ex} (h : LoopT C c (forget f st) e st') (ha : allP (fgAsk f C.keep st.h)) : LoopT C c st e st' := by
  intro w0 ρ M a W hR b k cs
  obtain ⟨ρ1, hk, hR1⟩ := forget_ok hR ha
  obtain ⟨x, a', W', ⟨q0, ρ', M', q1, q2, q3, q4⟩, harr⟩ := h w0 ρ1 M a W hR1 b k cs
  exact ⟨x, a', W', ⟨q0, ρ', M', q1, fun i hi x hx => q2 i hi x (hk i hi x hx), q3, q4⟩, harr⟩
theorem Tri.forget {C : Cx} {c : Code} {f : Fg} {st st1 : St} {e : Ex} (h : Tri C c st e st1) (ha : allP (fgAsk f C.keep st1.h)) : Tri C c st e (Pm.forget f st1) := by
  intro w0 ρ M a W hR
  refine Code.wp_mono (fun x a' W' hx => ?_) (h w0 ρ M a W hR)
  obtain ⟨q0, ρ', M', q1, q2, q3, q4⟩ := hx
  obtain ⟨ρ1, hk, hR1⟩ := forget_ok q4 ha
  exact ⟨q0, ρ1, M', q1, fun i hi x hx => hk i hi x (q2 i hi x hx), q3, hR1⟩
theorem LoopT.tri {C : Cx} {c : Code} {st st' : St} {e : Ex} (h : LoopT C c st e st') : Tri C (.loop c) st e st' := by
  intro w0 ρ M a W hR b k cs
  obtain ⟨x, a', W', hq, harr⟩ := h w0 ρ M a W hR b k cs
  exact ⟨x, a', W', hq, .of_steps (.one step_loop) harr⟩
theorem LoopT.next {C : Cx} {c : Code} {st st1 st' : St} {e : Ex} (h1 : Tri C c st .normal st1) (h2 : LoopT C c st1 e st') : LoopT C c st e st' := by
  intro w0 ρ M a W hR b k cs
  obtain ⟨x, a1, W1, hq, harr⟩ := h1 w0 ρ M a W hR b (.inLoop c :: k) cs
  obtain ⟨rfl, ρ1, M1, q1, q2, q3, q4⟩ := hq
  obtain ⟨x2, a2, W2, hq2, harr2⟩ := h2 w0 ρ1 M1 a1 W1 q4 b k cs
  exact ⟨x2, a2, W2, After.step (C := C) q1 q2 q3 hq2, .of_steps (Steps.trans harr (.one step_inLoop)) harr2⟩
theorem LoopT.exit {C : Cx} {c : Code} {st st' : St} {e : Ex} (h1 : Tri C c st e st') (hne : e ≠ .normal) : LoopT C c st e st' := by
  intro w0 ρ M a W hR b k cs
  obtain ⟨x, a1, W1, hq, harr⟩ := h1 w0 ρ M a W hR b (.inLoop c :: k) cs
  refine ⟨x, a1, W1, hq, ?_⟩
  have he := hq.1
  subst he
  cases e with
  | normal => exact absurd rfl hne
  | exit n => exact .pass (x := .inLoop c) rfl (fun _ _ => .inl (by simp [Ex.to])) harr
  | ret => exact .pass (x := .inLoop c) rfl (fun _ _ => .inl (by simp [Ex.to])) harr
theorem run_ok {C : Cx} {hs : Nat → Nat → Hint} : ∀ (c : Code) (st : St) (e : Ex) (st' : St) (ps : List Prop), run C hs c st = some (e, st', ps) → allP ps → Tri C c st e st' := by
  intro c
  induction c with
  | skip => intro st e st' ps h _; simp [run] at h; obtain ⟨rfl, rfl, _⟩ := h; exact Tri.here C fun Q a W h => wp_skip h
  | label l => intro st e st' ps h _; simp [run] at h; obtain ⟨rfl, rfl, _⟩ := h; exact Tri.here C fun Q a W h => wp_label h
  | exit id => intro st e st' ps h _; simp [run] at h; obtain ⟨rfl, rfl, _⟩ := h; exact Tri.here C fun Q a W h => wp_exit h
  | ret => intro st e st' ps h _; simp [run] at h; obtain ⟨rfl, rfl, _⟩ := h; exact Tri.here C fun Q a W h => wp_ret h
  | region id ops draw =>
    intro st e st' ps h hp
    unfold run at h
    split at h
    · rename_i t A es ps' htr
      split at h
      · rename_i hd
        cases h
        intro w0 ρ M a W hR
        have fin : ∀ ρ' M' a' W', M.le M' → ρ.le ρ' → Fresh M M' w0.heap.size → Rel C w0 ρ' M' ⟨t, A⟩ a' W' → After C w0 ρ M .normal ⟨t, A⟩ .normal a' W' := fun ρ' M' a' W' q1 q2 q3 q4 => ⟨rfl, ρ', M', q1, fun i _ x hx => q2 i x hx, q3, q4⟩
        cases draw with
        | false =>
          have := tr_ok (Q := After C w0 ρ M .normal ⟨t, A⟩) ops.toList 0 st.t st.h t A es _ htr hp ρ M a W hR fin
          simp only [Array.toArray_toList] at this
          exact wp_region_list this
        | true => exact draw_ok (Q := After C w0 ρ M .normal ⟨t, A⟩) htr hp (hd.resolve_left (by simp)) hR fin
      · cases h
    · cases h
  | seq x y ihx ihy =>
    intro st e st' ps h hp
    unfold run at h
    split at h
    · rename_i st1 p1 h1
      split at h
      · rename_i e2 st2 p2 h2
        cases h
        obtain ⟨hp1, hp2⟩ := allP_append hp
        exact (ihx _ _ _ _ h1 hp1).seq (ihy _ _ _ _ h2 hp2)
      · cases h
    · rename_i hne
      refine (ihx _ _ _ _ h hp).seq_exit fun he => ?_
      subst he
      exact hne st' ps h
  | cond c x y ihx ihy =>
    intro st e st' ps h hp
    unfold run at h
    split at h
    · rename_i hc
      exact Tri.cond hc (ihx _ _ _ _ h hp)
    · rename_i hc
      exact Tri.cond hc (ihy _ _ _ _ h hp)
    · cases h
  | block id x ih =>
    intro st e st' ps h hp
    unfold run at h
    split at h
    · rename_i j st1 p1 h1
      split at h
      · rename_i hj
        cases h
        have := (ih _ _ _ _ h1 hp).block (id := id)
        simp only [hj, if_true] at this
        subst hj
        exact this
      · rename_i hj
        cases h
        have := (ih _ _ _ _ h1 hp).block (id := id)
        simp only [if_neg hj] at this
        exact this
    · rename_i hne
      have := (ih _ _ _ _ h hp).block (id := id)
      cases e with
      | normal => exact this
      | ret => exact this
      | exit j => exact absurd h (hne j st' ps)
  | loop x ih =>
    intro st e st' ps h hp
    unfold run at h
    split at h
    · cases h
      obtain ⟨h1, h2, h3⟩ := hp
      subst h1
      exact (LoopT.tri (h2.forget h3))
    · cases h
  | scope x ih => intro st e st' ps h _; simp [run] at h
  | goto l => intro st e st' ps h _; simp [run] at h
  | rangeFunc f params a b => intro st e st' ps h _; simp [run] at h
  | refuse why => intro st e st' ps h _; simp [run] at h
end
end Go.Pm
