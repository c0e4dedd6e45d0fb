/- What a drawn region leaves alone. By the prover of this seat. -/
import Derived.Test.YtcnlgdbmcdlknaaDoorYh
set_option linter.unusedVariables false
set_option linter.unusedSimpArgs false
namespace Go.Pm
open Go Go.RowKit
/-- the slots that D does not name are as they were, and what is deferred -/
def Kp (D : Tmp → Bool) (a a' : Act) : Prop := (∀ i, D i = false → a'.tmps[i]? = a.tmps[i]?) ∧ a'.defers = a.defers ∧ a'.tmps.size = a.tmps.size
/-- an operation that defers nothing -/
def NDf (P : Program) (o : Oper) : Prop := ∀ (a : Act) (W : World) (d : Deferred) (w' : World), (execOp a.eval o).run P W ≠ .ok (.defer d) w'
theorem nd_v {P : Program} {s : Sem Value} {W w' : World} {d : Deferred} : (do pure (Next.value (← s)) : Sem Next).run P W ≠ .ok (.defer d) w' := by
  rw [Sem.run_bind]
  cases s.run P W <;> simp
theorem Kp.put {D : Tmp → Bool} {a0 a : Act} {dst : Option Tmp} {v : Value} (h : Kp D a0 a) (hd : ∀ d, dst = some d → D d = true) : Kp D a0 (a.put dst v) := by
  refine ⟨fun i hi => ?_, ?_, ?_⟩
  rotate_left
  · cases dst <;> exact h.2.1
  · cases dst with
    | none => exact h.2.2
    | some d => show (a.tmps.setIfInBounds d v).size = _; rw [Array.size_setIfInBounds]; exact h.2.2
  cases dst with
  | none => exact h.1 i hi
  | some d =>
    have hne : d ≠ i := fun e => by subst e; rw [hd d rfl] at hi; cases hi
    show (a.tmps.setIfInBounds d v)[i]? = _
    rw [Array.getElem?_setIfInBounds, if_neg hne]
    exact h.1 i hi
section
variable {P : Program} {ops : Array Oper} {Q : Exit → Act → World → Prop} {md : Region.Mode} {D : Tmp → Bool} {a0 : Act}
theorem oper_kp (hQ : ∀ a w, ¬ Q .outgrown a w) {o : Oper} (hn : NDf P o) {a : Act} {w : World} {K : Act → World → Prop} (hd : ∀ d, o.dst = some d → D d = true) (hk : Kp D a0 a) (hh : o.wp P a w K Q) : o.wp P a w (fun a' w' => K a' w' ∧ Kp D a0 a') (fun x a' w' => Q x a' w' ∧ Kp D a0 a') := by
  unfold Oper.wp at *
  have hn := hn a w
  generalize (execOp a.eval o).run P w = r at *
  cases r with
  | ok n w' =>
    cases n with
    | value v => exact ⟨hh, hk.put hd⟩
    | skip => exact ⟨hh, hk.put hd⟩
    | enter f args =>
      refine Calls.mono hh (fun e w'' he => ?_)
      cases e with
      | returned v => exact ⟨he, hk.put hd⟩
      | panicked c => exact ⟨he, hk⟩
      | outgrown => obtain ⟨a1, w1, h1⟩ := he; exact absurd h1 (hQ a1 w1)
    | row r args => exact Rows.mono hh (fun v w'' he => ⟨he, hk.put hd⟩)
    | «defer» d => exact absurd rfl (hn d w')
    | _ => exact hh.elim
  | halt x w' => cases x <;> simp only [Oper.upon] at hh ⊢ <;> exact ⟨hh, hk⟩
theorem wpOp_kp (hQ : ∀ a w, ¬ Q .outgrown a w) {i : Nat} {a : Act} {w : World} {K : Act → World → Prop} (hn : ∀ o : Oper, ops[i]? = some o → NDf P o) (hd : ∀ o : Oper, ops[i]? = some o → ∀ d, o.dst = some d → D d = true) (hk : Kp D a0 a) (hh : wpOp P ops Q i K a w) : wpOp P ops (fun x a' w' => Q x a' w' ∧ Kp D a0 a') i (fun a' w' => K a' w' ∧ Kp D a0 a') a w := by
  unfold wpOp at *
  split
  · exact ⟨by simpa [*] using hh, hk⟩
  · rename_i o ho
    simp only [ho] at hh
    split
    · rename_i hw
      simp only [hw, if_true] at hh
      rcases hh with hh | ⟨_, a1, w1, h1⟩
      · exact .inl (oper_kp hQ (hn o ho) (hd o ho) hk hh)
      · exact absurd h1 (hQ a1 w1)
    · rename_i hw
      simp only [hw] at hh
      exact ⟨hh, hk.put (hd o ho)⟩
theorem wpAny_kp (hQ : ∀ a w, ¬ Q .outgrown a w) (hn : ∀ (i : Nat) (o : Oper), ops[i]? = some o → NDf P o) (hd : ∀ (i : Nat) (o : Oper), ops[i]? = some o → ∀ d, o.dst = some d → D d = true) : ∀ (fuel : Nat) (listed : Array Bool) (a : Act) (w : World), Kp D a0 a → wpAny P md ops Q fuel listed a w → wpAny P md ops (fun x a' w' => Q x a' w' ∧ Kp D a0 a') fuel listed a w := by
  intro fuel
  induction fuel with
  | zero => intro listed a w hk h; exact ⟨h.1, h.2, hk⟩
  | succ fuel ih =>
    intro listed a w hk h
    refine ⟨fun hr => ⟨h.1 hr, hk⟩, fun i hi => ?_⟩
    exact wpOp_mono (fun a' w' hh => ih _ _ _ hh.2 hh.1) (wpOp_kp hQ (fun o ho => hn i o ho) (fun o ho => hd i o ho) hk (h.2 i hi))
end
def dstIn (D : Tmp → Bool) (ops : Array Oper) : Bool := ops.toList.all fun o => match o.dst with | some d => D d | none => true
theorem regK_ok {C : Cx} {id : Nat} {ops : Array Oper} {hs : Nat → Nat → Hint} {f : Fg} {st st' : St} {e : Ex} {ps : List Prop} (h : runF C hs f (.region id ops true) st = some (e, st', ps)) (hp : allP ps) (D : Tmp → Bool) (hD : dstIn D ops = true) (hn : ∀ (i : Nat) (o : Oper), ops[i]? = some o → NDf C.P o) :
    ∀ w0 ρ M a W, Rel C w0 ρ M st a W → (Code.region id ops true).wp C.P (fun x a' W' => After C w0 ρ M e st' x a' W' ∧ Kp D a a') a W := by
  have hd : ∀ (i : Nat) (o : Oper), ops[i]? = some o → ∀ d, o.dst = some d → D d = true := by
    intro i o ho d hod
    have hm : o ∈ ops.toList := by have := Array.mem_of_getElem? ho; simpa using this
    have := List.all_eq_true.1 hD o hm
    rw [hod] at this
    exact this
  unfold runF run at h
  split at h
  · rename_i e1 st1 ps1 hr
    cases h
    obtain ⟨hp1, hpf⟩ := allP_append hp
    unfold runH at hr
    cases hq : thAll (hs id frzKey).frz st with
    | mk st0 ps0 =>
    rw [hq] at hr
    dsimp only at hr
    split at hr
    · rename_i t A es ps' htr
      split at hr
      · rename_i hdr
        cases hr
        obtain ⟨hp0, hp⟩ := allP_append hp1
        intro w0 ρ M0 a W hR0
        obtain ⟨M, m1, m2, hR⟩ := thAll_ok _ hq hp0 hR0
        have hdd := hdr.resolve_left (by simp)
        have hm : C.P.follows .mixedOrders = true := by
          unfold drawOk at hdd
          simp only [Bool.and_eq_true] at hdd
          exact hdd.1.1.1.1.1
        have fin : ∀ ρ' M' a' W', M.le M' → ρ.le ρ' → Fresh M M' w0.heap.size → Rel C w0 ρ' M' ⟨t, A⟩ a' W' → After C w0 ρ M .normal ⟨t, A⟩ .normal a' W' := fun ρ' M' a' W' q1 q2 q3 q4 => ⟨rfl, ρ', M', q1, fun i _ x hx => q2 i x hx, q3, q4⟩
        refine Code.wp_mono (Q := fun x a' W' => After C w0 ρ M .normal ⟨t, A⟩ x a' W' ∧ Kp D a a') (fun x a' W' hx => ?_) (wp_region_any hm (wpAny_kp (fun a' w' hx => by cases hx.1) hn hd _ _ _ _ ⟨fun i _ => rfl, rfl, rfl⟩ (draw_any (Q := After C w0 ρ M .normal ⟨t, A⟩) htr hp hdd hR fin)))
        refine ⟨After.step m1 (fun _ _ _ h => h) m2 ?_, hx.2⟩
        obtain ⟨q0, ρ', M', q1, q2, q3, q4⟩ := hx.1
        obtain ⟨ρ1, hk, hR1⟩ := forget_ok q4 hpf
        exact ⟨q0, ρ1, M', q1, fun i hi x hx => hk i hi x (q2 i hi x hx), q3, hR1⟩
      · cases hr
    · cases hr
  · cases h
end Go.Pm
