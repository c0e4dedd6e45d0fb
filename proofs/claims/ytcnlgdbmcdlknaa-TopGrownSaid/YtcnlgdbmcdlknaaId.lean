/- What code leaves alone: slots, and what is deferred. By the prover of this seat. -/
import Derived.Test.YtcnlgdbmcdlknaaIb
import Derived.Test.YtcnlgdbmcdlknaaIa
set_option linter.unusedVariables false
set_option linter.unusedSimpArgs false
namespace Go.Pm
open Go Go.RowKit
/-- the slots that D does not name are as they were, and what is deferred -/
def Kp (D : Tmp → Bool) (a a' : Act) : Prop := (∀ i, D i = false → a'.tmps[i]? = a.tmps[i]?) ∧ a'.defers = a.defers ∧ a'.tmps.size = a.tmps.size
/-- an operation that defers nothing -/
def NDf (P : Program) (o : Oper) : Prop := ∀ (a : Act) (W : World) (d : Deferred) (w' : World), (execOp a.eval o).run P W ≠ .ok (.defer d) w'
theorem nd_v {P : Program} {s : Sem Value} {W w' : World} {d : Deferred} : (do pure (Next.value (← s)) : Sem Next).run P W ≠ .ok (.defer d) w' := by
  rw [Sem.run_bind]
  cases s.run P W <;> simp
theorem Kp.put {D : Tmp → Bool} {a0 a : Act} {dst : Option Tmp} {v : Value} (h : Kp D a0 a) (hd : ∀ d, dst = some d → D d = true) : Kp D a0 (a.put dst v) := by
  refine ⟨fun i hi => ?_, ?_, ?_⟩
  rotate_left
  · cases dst <;> exact h.2.1
  · cases dst with
    | none => exact h.2.2
    | some d => show (a.tmps.setIfInBounds d v).size = _; rw [Array.size_setIfInBounds]; exact h.2.2
  cases dst with
  | none => exact h.1 i hi
  | some d =>
    have hne : d ≠ i := fun e => by subst e; rw [hd d rfl] at hi; cases hi
    show (a.tmps.setIfInBounds d v)[i]? = _
    rw [Array.getElem?_setIfInBounds, if_neg hne]
    exact h.1 i hi
section
variable {P : Program} {ops : Array Oper} {Q : Exit → Act → World → Prop} {md : Region.Mode} {D : Tmp → Bool} {a0 : Act}
theorem oper_kp (hQ : ∀ a w, ¬ Q .outgrown a w) {o : Oper} (hn : NDf P o) {a : Act} {w : World} {K : Act → World → Prop} (hd : ∀ d, o.dst = some d → D d = true) (hk : Kp D a0 a) (hh : o.wp P a w K Q) : o.wp P a w (fun a' w' => K a' w' ∧ Kp D a0 a') (fun x a' w' => Q x a' w' ∧ Kp D a0 a') := by
  unfold Oper.wp at *
  have hn := hn a w
  generalize (execOp a.eval o).run P w = r at *
  cases r with
  | ok n w' =>
    cases n with
    | value v => exact ⟨hh, hk.put hd⟩
    | skip => exact ⟨hh, hk.put hd⟩
    | enter f args =>
      refine Calls.mono hh (fun e w'' he => ?_)
      cases e with
      | returned v => exact ⟨he, hk.put hd⟩
      | panicked c => exact ⟨he, hk⟩
      | outgrown => obtain ⟨a1, w1, h1⟩ := he; exact absurd h1 (hQ a1 w1)
    | row r args => exact Rows.mono hh (fun v w'' he => ⟨he, hk.put hd⟩)
    | «defer» d => exact absurd rfl (hn d w')
    | _ => exact hh.elim
  | halt x w' => cases x <;> simp only [Oper.upon] at hh ⊢ <;> exact ⟨hh, hk⟩
theorem wpOp_kp (hQ : ∀ a w, ¬ Q .outgrown a w) {i : Nat} {a : Act} {w : World} {K : Act → World → Prop} (hn : ∀ o : Oper, ops[i]? = some o → NDf P o) (hd : ∀ o : Oper, ops[i]? = some o → ∀ d, o.dst = some d → D d = true) (hk : Kp D a0 a) (hh : wpOp P ops Q i K a w) : wpOp P ops (fun x a' w' => Q x a' w' ∧ Kp D a0 a') i (fun a' w' => K a' w' ∧ Kp D a0 a') a w := by
  unfold wpOp at *
  split
  · exact ⟨by simpa [*] using hh, hk⟩
  · rename_i o ho
    simp only [ho] at hh
    split
    · rename_i hw
      simp only [hw, if_true] at hh
      rcases hh with hh | ⟨_, a1, w1, h1⟩
      · exact .inl (oper_kp hQ (hn o ho) (hd o ho) hk hh)
      · exact absurd h1 (hQ a1 w1)
    · rename_i hw
      simp only [hw] at hh
      exact ⟨hh, hk.put (hd o ho)⟩
theorem wpAny_kp (hQ : ∀ a w, ¬ Q .outgrown a w) (hn : ∀ (i : Nat) (o : Oper), ops[i]? = some o → NDf P o) (hd : ∀ (i : Nat) (o : Oper), ops[i]? = some o → ∀ d, o.dst = some d → D d = true) : ∀ (fuel : Nat) (listed : Array Bool) (a : Act) (w : World), Kp D a0 a → wpAny P md ops Q fuel listed a w → wpAny P md ops (fun x a' w' => Q x a' w' ∧ Kp D a0 a') fuel listed a w := by
  intro fuel
  induction fuel with
  | zero => intro listed a w hk h; exact ⟨h.1, h.2, hk⟩
  | succ fuel ih =>
    intro listed a w hk h
    refine ⟨fun hr => ⟨h.1 hr, hk⟩, fun i hi => ?_⟩
    exact wpOp_mono (fun a' w' hh => ih _ _ _ hh.2 hh.1) (wpOp_kp hQ (fun o ho => hn i o ho) (fun o ho => hd i o ho) hk (h.2 i hi))
end
def dstIn (D : Tmp → Bool) (ops : Array Oper) : Bool := ops.toList.all fun o => match o.dst with | some d => D d | none => true
theorem regK_ok {C : Cx} {id : Nat} {ops : Array Oper} {hs : Nat → Nat → Hint} {f : Fg} {st st' : St} {e : Ex} {ps : List Prop} (h : runF C hs f (.region id ops true) st = some (e, st', ps)) (hp : allP ps) (D : Tmp → Bool) (hD : dstIn D ops = true) (hn : ∀ (i : Nat) (o : Oper), ops[i]? = some o → NDf C.P o) :
    ∀ w0 ρ M a W, Rel C w0 ρ M st a W → (Code.region id ops true).wp C.P (fun x a' W' => After C w0 ρ M e st' x a' W' ∧ Kp D a a') a W := by
  have hd : ∀ (i : Nat) (o : Oper), ops[i]? = some o → ∀ d, o.dst = some d → D d = true := by
    intro i o ho d hod
    have hm : o ∈ ops.toList := by have := Array.mem_of_getElem? ho; simpa using this
    have := List.all_eq_true.1 hD o hm
    rw [hod] at this
    exact this
  unfold runF run at h
  split at h
  · rename_i e1 st1 ps1 hr
    cases h
    obtain ⟨hp1, hpf⟩ := allP_append hp
    unfold runH at hr
    cases hq : thAll (hs id frzKey).frz st with
    | mk st0 ps0 =>
    rw [hq] at hr
    dsimp only at hr
    split at hr
    · rename_i t A es ps' htr
      split at hr
      · rename_i hdr
        cases hr
        obtain ⟨hp0, hp⟩ := allP_append hp1
        intro w0 ρ M0 a W hR0
        obtain ⟨M, m1, m2, hR⟩ := thAll_ok _ hq hp0 hR0
        have hdd := hdr.resolve_left (by simp)
        have hm : C.P.follows .mixedOrders = true := by
          unfold drawOk at hdd
          simp only [Bool.and_eq_true] at hdd
          exact hdd.1.1.1.1.1
        have fin : ∀ ρ' M' a' W', M.le M' → ρ.le ρ' → Fresh M M' w0.heap.size → Rel C w0 ρ' M' ⟨t, A⟩ a' W' → After C w0 ρ M .normal ⟨t, A⟩ .normal a' W' := fun ρ' M' a' W' q1 q2 q3 q4 => ⟨rfl, ρ', M', q1, fun i _ x hx => q2 i x hx, q3, q4⟩
        refine Code.wp_mono (Q := fun x a' W' => After C w0 ρ M .normal ⟨t, A⟩ x a' W' ∧ Kp D a a') (fun x a' W' hx => ?_) (wp_region_any hm (wpAny_kp (fun a' w' hx => by cases hx.1) hn hd _ _ _ _ ⟨fun i _ => rfl, rfl, rfl⟩ (draw_any (Q := After C w0 ρ M .normal ⟨t, A⟩) htr hp hdd hR fin)))
        refine ⟨After.step m1 (fun _ _ _ h => h) m2 ?_, hx.2⟩
        obtain ⟨q0, ρ', M', q1, q2, q3, q4⟩ := hx.1
        obtain ⟨ρ1, hk, hR1⟩ := forget_ok q4 hpf
        exact ⟨q0, ρ1, M', q1, fun i hi x hx => hk i hi x (q2 i hi x hx), q3, hR1⟩
      · cases hr
    · cases hr
  · cases h
theorem wpList_kp {P : Program} {ops : Array Oper} {Q : Exit → Act → World → Prop} {D : Tmp → Bool} {a0 : Act} (hQ : ∀ a w, ¬ Q .outgrown a w) : ∀ (os : List Oper) (a : Act) (w : World), (∀ o ∈ os, NDf P o) → (∀ o ∈ os, ∀ d, o.dst = some d → D d = true) → Kp D a0 a → wpList P ops Q os a w → wpList P ops (fun x a' w' => Q x a' w' ∧ Kp D a0 a') os a w := by
  intro os
  induction os with
  | nil => intro a w _ _ hk h; exact ⟨h, hk⟩
  | cons o os ih =>
    intro a w hn hd hk h
    unfold wpList at h ⊢
    split
    · rename_i hw
      rw [if_pos hw] at h
      rcases h with h | ⟨_, a1, w1, h1⟩
      · exact .inl (Oper.wp_mono (fun a' w' hh => ih a' w' (fun q hq => hn q (by simp [hq])) (fun q hq => hd q (by simp [hq])) hh.2 hh.1) (oper_kp hQ (hn o (by simp)) (hd o (by simp)) hk h))
      · exact absurd h1 (hQ a1 w1)
    · rename_i hw
      rw [if_neg hw] at h
      exact ih _ _ (fun q hq => hn q (by simp [hq])) (fun q hq => hd q (by simp [hq])) (hk.put (hd o (by simp))) h
theorem regK0_ok {C : Cx} {id : Nat} {ops : Array Oper} {hs : Nat → Nat → Hint} {f : Fg} {st st' : St} {e : Ex} {ps : List Prop} (h : runF C hs f (.region id ops false) st = some (e, st', ps)) (hp : allP ps) (D : Tmp → Bool) (hD : dstIn D ops = true) (hn : ∀ (i : Nat) (o : Oper), ops[i]? = some o → NDf C.P o) :
    ∀ w0 ρ M a W, Rel C w0 ρ M st a W → (Code.region id ops false).wp C.P (fun x a' W' => After C w0 ρ M e st' x a' W' ∧ Kp D a a') a W := by
  have hd : ∀ o ∈ ops.toList, ∀ d, o.dst = some d → D d = true := by
    intro o ho d hod
    have := List.all_eq_true.1 hD o ho
    rw [hod] at this
    exact this
  have hn' : ∀ o ∈ ops.toList, NDf C.P o := by
    intro o ho
    obtain ⟨i, hi⟩ := List.mem_iff_getElem?.1 ho
    exact hn i o (by simpa using hi)
  unfold runF run at h
  split at h
  · rename_i e1 st1 ps1 hr
    cases h
    obtain ⟨hp1, hpf⟩ := allP_append hp
    unfold runH at hr
    cases hq : thAll (hs id frzKey).frz st with
    | mk st0 ps0 =>
    rw [hq] at hr
    dsimp only at hr
    split at hr
    · rename_i t A es ps' htr
      split at hr
      · rename_i hdr
        cases hr
        obtain ⟨hp0, hp⟩ := allP_append hp1
        intro w0 ρ M0 a W hR0
        obtain ⟨M, m1, m2, hR⟩ := thAll_ok _ hq hp0 hR0
        have fin : ∀ ρ' M' a' W', M.le M' → ρ.le ρ' → Fresh M M' w0.heap.size → Rel C w0 ρ' M' ⟨t, A⟩ a' W' → After C w0 ρ M .normal ⟨t, A⟩ .normal a' W' := fun ρ' M' a' W' q1 q2 q3 q4 => ⟨rfl, ρ', M', q1, fun i _ x hx => q2 i x hx, q3, q4⟩
        have := tr_ok (Q := After C w0 ρ M .normal ⟨t, A⟩) ops.toList 0 st0.t st0.h t A es _ htr hp ρ M a W hR fin
        simp only [Array.toArray_toList] at this
        refine Code.wp_mono (Q := fun x a' W' => After C w0 ρ M .normal ⟨t, A⟩ x a' W' ∧ Kp D a a') (fun x a' W' hx => ?_) (wp_region_list (wpList_kp (fun a' w' hx => by cases hx.1) _ _ _ hn' hd ⟨fun i _ => rfl, rfl, rfl⟩ this))
        refine ⟨After.step m1 (fun _ _ _ h => h) m2 ?_, hx.2⟩
        obtain ⟨q0, ρ', M', q1, q2, q3, q4⟩ := hx.1
        obtain ⟨ρ1, hk, hR1⟩ := forget_ok q4 hpf
        exact ⟨q0, ρ1, M', q1, fun i hi x hx => hk i hi x (q2 i hi x hx), q3, hR1⟩
      · cases hr
    · cases hr
  · cases h
/-- from st the code comes to st', by the way e, and leaves the slots alone that D does not name -/
def TriK (C : Cx) (D : Tmp → Bool) (c : Code) (st : St) (e : Ex) (st' : St) : Prop := ∀ w0 ρ M a W, Rel C w0 ρ M st a W → c.wp C.P (fun x a' W' => After C w0 ρ M e st' x a' W' ∧ Kp D a a') a W
theorem Kp.refl (D : Tmp → Bool) (a : Act) : Kp D a a := ⟨fun _ _ => rfl, rfl, rfl⟩
theorem Kp.trans {D : Tmp → Bool} {a b c : Act} (h : Kp D a b) (k : Kp D b c) : Kp D a c := ⟨fun i hi => (k.1 i hi).trans (h.1 i hi), k.2.1.trans h.2.1, k.2.2.trans h.2.2⟩
theorem TriK.here {C : Cx} {D : Tmp → Bool} {c : Code} {e : Ex} {st : St} (h : ∀ (Q : Exit → Act → World → Prop) a W, Q e.to a W → c.wp C.P Q a W) : TriK C D c st e st :=
  fun w0 ρ M a W hR => h _ a W ⟨⟨rfl, ρ, M, Mem.le.refl M, fun _ _ _ h => h, Fresh.refl _ _, hR⟩, Kp.refl D a⟩
theorem TriK.seq {C : Cx} {D : Tmp → Bool} {c1 c2 : Code} {e : Ex} {st st1 st' : St} (h1 : TriK C D c1 st .normal st1) (h2 : TriK C D c2 st1 e st') : TriK C D (.seq c1 c2) st e st' :=
  fun w0 ρ M a W hR => wp_seq (Code.wp_mono (fun x a1 W1 hx => by
    obtain ⟨⟨rfl, ρ1, M1, q1, q2, q3, q4⟩, hk⟩ := hx
    exact Code.wp_mono (fun x a2 W2 hy => ⟨After.step q1 q2 q3 hy.1, hk.trans hy.2⟩) (h2 w0 ρ1 M1 a1 W1 q4)) (h1 w0 ρ M a W hR))
theorem TriK.seqX {C : Cx} {D : Tmp → Bool} {c1 c2 : Code} {e : Ex} {st st' : St} (h1 : TriK C D c1 st e st') (hne : e ≠ .normal) : TriK C D (.seq c1 c2) st e st' :=
  fun w0 ρ M a W hR => wp_seq (Code.wp_mono (fun x a1 W1 hx => by
    have hx2 := hx
    obtain ⟨⟨rfl, -⟩, -⟩ := hx2
    cases e with
    | normal => exact absurd rfl hne
    | exit id => exact hx
    | ret => exact hx) (h1 w0 ρ M a W hR))
theorem TriK.cond {C : Cx} {D : Tmp → Bool} {g : Operand} {x y : Code} {b : Bool} {e : Ex} {st st' : St} (hg : evalA C st.t g = .s (.bool b)) (h : TriK C D (if b then x else y) st e st') : TriK C D (.cond g x y) st e st' :=
  fun w0 ρ M a W hR => by
    have hv := eval_ok hR.slots hR.glob g
    rw [hg] at hv
    exact wp_cond hv.inv_s (h w0 ρ M a W hR)
theorem TriK.block {C : Cx} {D : Tmp → Bool} {id : Nat} {c : Code} {st st' : St} (h : TriK C D c st .normal st') : TriK C D (.block id c) st .normal st' :=
  fun w0 ρ M a W hR => wp_block (Code.wp_mono (fun x a1 W1 hx => by
    have hx2 := hx
    obtain ⟨⟨rfl, -⟩, -⟩ := hx2
    exact hx) (h w0 ρ M a W hR))
theorem TriK.blockX {C : Cx} {D : Tmp → Bool} {id : Nat} {c : Code} {st st' : St} (h : TriK C D c st (.exit id) st') : TriK C D (.block id c) st .normal st' :=
  fun w0 ρ M a W hR => wp_block (Code.wp_mono (fun x a1 W1 hx => by
    obtain ⟨⟨rfl, hh⟩, hk⟩ := hx
    show (if id = id then _ else _)
    rw [if_pos rfl]
    exact ⟨⟨rfl, hh⟩, hk⟩) (h w0 ρ M a W hR))
theorem TriK.loopX {C : Cx} {D : Tmp → Bool} {c : Code} {e : Ex} {st st' : St} (h : TriK C D c st e st') (hne : e ≠ .normal) : TriK C D (.loop c) st e st' :=
  fun w0 ρ M a W hR => wp_loop_once (Code.wp_mono (fun x a1 W1 hx => by
    have hx2 := hx
    obtain ⟨⟨rfl, -⟩, -⟩ := hx2
    cases e with
    | normal => exact absurd rfl hne
    | exit id => exact hx
    | ret => exact hx) (h w0 ρ M a W hR))
theorem rounds_mono {P : Program} {c : Code} {Q Q' : Exit → Act → World → Prop} (hq : ∀ x a W, Q x a W → Q' x a W) : ∀ (n : Nat) (a : Act) (W : World), Code.rounds P c Q n a W → Code.rounds P c Q' n a W
  | 0, _, _, h => h.elim
  | n + 1, a, W, h => Code.wp_mono (fun x a' W' hx => by
      cases x with
      | normal => exact rounds_mono hq n a' W' hx
      | _ => exact hq _ _ _ hx) h
/-- n rounds of a loop -/
def LoopK (n : Nat) (C : Cx) (D : Tmp → Bool) (c : Code) (st : St) (e : Ex) (st' : St) : Prop := ∀ w0 ρ M a W, Rel C w0 ρ M st a W → Code.rounds C.P c (fun x a' W' => After C w0 ρ M e st' x a' W' ∧ Kp D a a') n a W
theorem LoopK.next {n : Nat} {C : Cx} {D : Tmp → Bool} {c : Code} {e : Ex} {st st1 st' : St} (h1 : TriK C D c st .normal st1) (h2 : LoopK n C D c st1 e st') : LoopK (n + 1) C D c st e st' :=
  fun w0 ρ M a W hR => Code.wp_mono (fun x a1 W1 hx => by
    obtain ⟨⟨rfl, ρ1, M1, q1, q2, q3, q4⟩, hk⟩ := hx
    exact rounds_mono (fun x a2 W2 hy => ⟨After.step q1 q2 q3 hy.1, hk.trans hy.2⟩) n a1 W1 (h2 w0 ρ1 M1 a1 W1 q4)) (h1 w0 ρ M a W hR)
theorem LoopK.last {C : Cx} {D : Tmp → Bool} {c : Code} {e : Ex} {st st' : St} (h : TriK C D c st e st') (hne : e ≠ .normal) : LoopK 1 C D c st e st' :=
  fun w0 ρ M a W hR => Code.wp_mono (fun x a1 W1 hx => by
    have hx2 := hx
    obtain ⟨⟨rfl, -⟩, -⟩ := hx2
    cases e with
    | normal => exact absurd rfl hne
    | exit id => exact hx
    | ret => exact hx) (h w0 ρ M a W hR)
theorem LoopK.tri {n : Nat} {C : Cx} {D : Tmp → Bool} {c : Code} {e : Ex} {st st' : St} (h : LoopK n C D c st e st') : TriK C D (.loop c) st e st' :=
  fun w0 ρ M a W hR => wp_loop_rounds n (h w0 ρ M a W hR)
/-- operations that defer nothing, by their kind -/
def ndB : Op → Bool
  | .move _ | .assign _ | .pick _ _ _ | .alloc _ | .load _ _ | .store _ _ _ | .build _ _ | .binOp _ _ _ _ _ | .fieldAddr _ _ _ | .indexAddr _ _ _ | .unOp _ _ _ => true
  | .call c => match c.callee with
    | .builtin .len | .builtin .max | .builtin .min => true
    | _ => false
  | _ => false
theorem nd_u {P : Program} {s : Sem Unit} {W w' : World} {d : Deferred} : (do s; pure Next.skip : Sem Next).run P W ≠ .ok (.defer d) w' := by
  rw [Sem.run_bind]
  cases s.run P W <;> simp
theorem nd_x {P : Program} {x : Next} {W w' : World} {d : Deferred} (h : x ≠ .defer d) : (pure x : Sem Next).run P W ≠ .ok (.defer d) w' := by
  rw [Sem.run_pure]
  intro q
  cases q
  exact h rfl
theorem nd_op {P : Program} {o : Oper} (h : ndB o.op = true) : NDf P o := by
  intro a W d w'
  obtain ⟨dst, op, ty, pos, af, gd⟩ := o
  cases op with
  | move x => exact nd_x (by simp)
  | assign x => exact nd_x (by simp)
  | pick c x y =>
    show (do pure (Next.value (if ← asBool (a.eval c) then a.eval x else a.eval y)) : Sem Next).run P W ≠ _
    rw [Sem.run_bind]
    cases (asBool (a.eval c)).run P W <;> simp
  | alloc t => exact nd_v
  | load t x => exact nd_v
  | store t x y => exact nd_u
  | build t ps => exact nd_v
  | binOp op t x y z => exact nd_v
  | fieldAddr t x f => exact nd_v
  | indexAddr t x y => exact nd_v
  | unOp op t x => exact nd_v
  | call c =>
    obtain ⟨callee, args, ts⟩ := c
    cases callee with
    | builtin b =>
      cases b with
      | len => exact nd_v
      | max => exact nd_v
      | min => exact nd_v
      | _ => cases h
    | _ => cases h
  | _ => cases h
theorem nd_ops {P : Program} {ops : Array Oper} (h : (ops.toList.all fun o => ndB o.op) = true) (i : Nat) (o : Oper) (ho : ops[i]? = some o) : NDf P o :=
  nd_op (List.all_eq_true.1 h o (by have := Array.mem_of_getElem? ho; simpa using this))
end Go.Pm
