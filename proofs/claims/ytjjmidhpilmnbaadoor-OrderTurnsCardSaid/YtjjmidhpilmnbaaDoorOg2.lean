/- A region that draws its order: each operation shown once, whatever has gone ahead of it. By the prover of this seat. -/
import Derived.Test.YtjjmidhpilmnbaaDoorPm21
set_option linter.unusedVariables false
namespace Go.Pm
open Go Go.RowKit
def mark (s : Nat → Bool) (i : Nat) : Nat → Bool := fun j => if j = i then true else s j
def setv (x : Nat → Value) (i : Nat) (v : Value) : Nat → Value := fun j => if j = i then v else x j
theorem mark_self (s : Nat → Bool) (i : Nat) : mark s i i = true := by simp [mark]
theorem mark_other {s : Nat → Bool} {i j : Nat} (h : j ≠ i) : mark s i j = s j := by simp [mark, h]
theorem setv_self (x : Nat → Value) (i : Nat) (v : Value) : setv x i v i = v := by simp [setv]
theorem setv_other {x : Nat → Value} {i j : Nat} {v : Value} (h : j ≠ i) : setv x i v j = x j := by simp [setv, h]
section
variable {P : Program} {ops : Array Oper} {Q : Exit → Act → World → Prop}
/-- how many are not yet listed -/
def unl (listed : Array Bool) : Nat := listed.toList.countP (fun b => !b)
theorem unl_set {listed : Array Bool} {i : Nat} (hi : i < listed.size) (h : listed.getD i true = false) : unl (listed.setIfInBounds i true) + 1 = unl listed := by
  have hb : listed.toList[i]? = some false := by
    have : listed[i]? = some listed[i] := by simp [hi]
    simp [Array.getD, hi] at h
    simp [hi, h]
  have key : ∀ (l : List Bool) (i : Nat), l[i]? = some false → (l.set i true).countP (fun b => !b) + 1 = l.countP (fun b => !b) := by
    intro l
    induction l with
    | nil => intro i h; simp at h
    | cons b r ih =>
      intro i h
      cases i with
      | zero => simp at h; subst h; simp
      | succ i =>
        have := ih i (by simpa using h)
        simp only [List.set_cons_succ, List.countP_cons]
        omega
  have := key listed.toList i hb
  simpa [unl, Array.toList_setIfInBounds] using this
theorem og_any (Φ : (Nat → Bool) → Act → World → Prop)
    (hac : ∀ (i : Nat) (o : Oper), ops[i]? = some o → ∀ e ∈ o.after.toList, Region.binds .any e = true → e.on < i)
    (hstep : ∀ i, i < ops.size → ∀ s a W, s i = false → (∀ o : Oper, ops[i]? = some o → ∀ e ∈ o.after.toList, Region.binds .any e = true → s e.on = true) → Φ s a W → wpOp P ops Q i (Φ (mark s i)) a W)
    (hend : ∀ s a W, (∀ i, i < ops.size → s i = true) → Φ s a W → Q .normal a W) :
    ∀ (fuel : Nat) (listed : Array Bool) (a : Act) (W : World), listed.size = ops.size → unl listed = fuel → Φ (fun i => listed.getD i true) a W → wpAny P .any ops Q fuel listed a W := by
  intro fuel
  induction fuel with
  | zero =>
    intro listed a W hsz hu hΦ
    have hall : ∀ i, i < ops.size → listed.getD i true = true := by
      intro i hi
      have h0 : ∀ b ∈ listed.toList, (!b) = false := by
        intro b hb
        have := List.countP_eq_zero.1 hu b hb
        simpa using this
      have : listed[i]'(by omega) ∈ listed.toList := by simp
      have := h0 _ this
      simp [Array.getD, show i < listed.size by omega]
      simpa using this
    refine ⟨?_, hend _ _ _ hall hΦ⟩
    unfold Region.ready
    rw [List.filter_eq_nil_iff]
    intro i hi
    have := hall i (List.mem_range.1 hi)
    simp [this]
  | succ fuel ih =>
    intro listed a W hsz hu hΦ
    refine ⟨fun hr => ?_, fun i hi => ?_⟩
    · refine hend _ _ _ ?_ hΦ
      intro i
      induction i using Nat.strongRecOn with
      | _ i ihi =>
        intro hi
        cases hli : listed.getD i true with
        | true => rfl
        | false =>
          exfalso
          have hmem : i ∈ Region.ready .any ops listed := by
            unfold Region.ready
            rw [List.mem_filter]
            refine ⟨List.mem_range.2 hi, ?_⟩
            have ho : ops[i]? = some ops[i] := by simp [hi]
            simp only [hli, Bool.not_false, ho, Option.map_some, Option.getD_some, Bool.true_and]
            rw [Array.all_eq_true']
            intro e he
            cases hbi : Region.binds .any e with
            | false => simp
            | true =>
              have hlt := hac i _ ho e (by simpa using he) hbi
              have := ihi e.on hlt (by omega)
              have h2 : listed.getD e.on false = true := by
                simp only [Array.getD, show e.on < listed.size by omega, dif_pos] at this ⊢
                exact this
              simp [h2]
          rw [hr] at hmem
          cases hmem
    · unfold Region.ready at hi
      rw [List.mem_filter] at hi
      obtain ⟨h1, h2⟩ := hi
      have hi' := List.mem_range.1 h1
      have ho : ops[i]? = some ops[i] := by simp [hi']
      simp only [ho, Option.map_some, Option.getD_some, Bool.and_eq_true, Bool.not_eq_true'] at h2
      obtain ⟨hli, hdep⟩ := h2
      rw [Array.all_eq_true'] at hdep
      refine wpOp_mono (fun a' W' h => ?_) (hstep i hi' _ a W hli (fun o ho' e he hb => ?_) hΦ)
      · refine ih _ _ _ (by simpa using hsz) (by have := unl_set (listed := listed) (i := i) (by omega) hli; omega) ?_
        have e : (fun j => (listed.setIfInBounds i true).getD j true) = mark (fun j => listed.getD j true) i := by
          funext j
          unfold mark
          by_cases hj : j = i
          · subst hj; simp [Array.getD, show j < listed.size by omega]
          · simp only [if_neg hj]
            by_cases hjs : j < listed.size
            · simp [Array.getD, hjs, Array.getElem_setIfInBounds, Ne.symm hj]
            · simp [Array.getD, hjs]
        rw [e]
        exact h
      · rw [ho] at ho'
        cases ho'
        have := hdep e (by simpa using he)
        simp [hb] at this
        have hlt := hac i _ ho e he hb
        have hb2 : e.on < listed.size := by omega
        simp [Array.getD, hb2] at this ⊢
        exact this
/-- the frame behind the operations of s, whose values are x -/
structure Puts (a0 : Act) (ops : Array Oper) (s : Nat → Bool) (x : Nat → Value) (a : Act) : Prop where
  defers : a.defers = a0.defers
  size : a.tmps.size = a0.tmps.size
  got : ∀ (i : Nat) (o : Oper) (d : Tmp), ops[i]? = some o → o.dst = some d → s i = true → d < a0.tmps.size → a.tmps[d]? = some (x i)
  rest : ∀ t, (∀ (i : Nat) (o : Oper), ops[i]? = some o → o.dst = some t → s i = false) → a.tmps[t]? = a0.tmps[t]?
theorem Puts.step {a0 : Act} {s : Nat → Bool} {x : Nat → Value} {a : Act} (h : Puts a0 ops s x a) {i : Nat} {o : Oper} (ho : ops[i]? = some o) (hs : s i = false)
    (hd : ∀ (i j : Nat) (oi oj : Oper) (d : Tmp), ops[i]? = some oi → ops[j]? = some oj → oi.dst = some d → oj.dst = some d → i = j) (v : Value) : Puts a0 ops (mark s i) (setv x i v) (a.put o.dst v) := by
  cases hdst : o.dst with
  | none =>
    refine ⟨h.defers, h.size, fun j oj d hj hjd hm hlt => ?_, fun t ht => ?_⟩
    · have hne : j ≠ i := fun e => by subst e; rw [ho] at hj; cases hj; rw [hdst] at hjd; cases hjd
      rw [mark_other hne] at hm
      rw [setv_other hne]
      exact h.got j oj d hj hjd hm hlt
    · refine h.rest t fun j oj hj hjd => ?_
      have := ht j oj hj hjd
      by_cases e : j = i
      · subst e; exact hs
      · rwa [mark_other e] at this
  | some d0 =>
    refine ⟨h.defers, by simpa [Act.put] using h.size, fun j oj d hj hjd hm hlt => ?_, fun t ht => ?_⟩
    · by_cases e : j = i
      · subst e
        rw [ho] at hj; cases hj
        rw [hdst] at hjd; cases hjd
        rw [setv_self]
        simp [Act.put, h.size, hlt]
      · rw [mark_other e] at hm
        rw [setv_other e]
        have hne : d0 ≠ d := fun e2 => e (by subst e2; exact (hd _ _ _ _ _ hj ho hjd hdst))
        simp only [Act.put, Array.getElem?_setIfInBounds_ne hne]
        exact h.got j oj d hj hjd hm hlt
    · have hne : d0 ≠ t := fun e => by
        have := ht i o ho (by rw [hdst, e])
        rw [mark_self] at this; cases this
      simp only [Act.put, Array.getElem?_setIfInBounds_ne hne]
      refine h.rest t fun j oj hj hjd => ?_
      have := ht j oj hj hjd
      by_cases e : j = i
      · subst e; exact hs
      · rwa [mark_other e] at this
/-- all values laid, in the order of the text -/
def putsAll (a0 : Act) (x : Nat → Value) (l : List Oper) (k : Nat) : Act := (l.zipIdx k).foldl (fun a p => a.put p.1.dst (x p.2)) a0
theorem puts_all {a0 a : Act} {s : Nat → Bool} {x : Nat → Value} (h : Puts a0 ops s x a) (hall : ∀ i, i < ops.size → s i = true)
    (hd : ∀ (i j : Nat) (oi oj : Oper) (d : Tmp), ops[i]? = some oi → ops[j]? = some oj → oi.dst = some d → oj.dst = some d → i = j) : a = putsAll a0 x ops.toList 0 := by
  have key : ∀ (k : Nat), k ≤ ops.size → Puts a0 ops (fun j => decide (j < k)) x (((ops.toList.take k).zipIdx 0).foldl (fun a p => a.put p.1.dst (x p.2)) a0) := by
    intro k
    induction k with
    | zero => intro _; exact ⟨rfl, rfl, fun i o d _ _ h => by simp at h, fun t _ => rfl⟩
    | succ k ih =>
      intro hk
      have hlt : k < ops.size := by omega
      have ho : ops[k]? = some ops[k] := by simp [hlt]
      have h1 := (ih (by omega)).step ho (by simp) hd (x k)
      have e1 : mark (fun j => decide (j < k)) k = fun j => decide (j < k + 1) := by
        funext j
        unfold mark
        by_cases e : j = k
        · subst e; simp
        · simp [e]; omega
      have e2 : setv x k (x k) = x := by funext j; unfold setv; split <;> simp_all
      rw [e1, e2] at h1
      rw [List.take_succ_eq_append_getElem (by simpa using hlt), List.zipIdx_append, List.foldl_append]
      simpa [show min k ops.size = k by omega] using h1
  have hk := key ops.size (Nat.le_refl _)
  have hl : ops.toList.take ops.size = ops.toList := List.take_of_length_le (by simp)
  rw [hl] at hk
  have ht : a.tmps = (putsAll a0 x ops.toList 0).tmps := by
    apply Array.ext_getElem?
    intro t
    by_cases hex : ∃ (i : Nat) (o : Oper), ops[i]? = some o ∧ o.dst = some t
    · obtain ⟨i, o, ho, hdst⟩ := hex
      have hi : i < ops.size := by
        rcases Nat.lt_or_ge i ops.size with h | h
        · exact h
        · simp [Array.getElem?_eq_none h] at ho
      by_cases hlt : t < a0.tmps.size
      · rw [h.got i o t ho hdst (hall i hi) hlt]
        exact (hk.got i o t ho hdst (by simpa using hi) hlt).symm
      · rw [Array.getElem?_eq_none (by rw [h.size]; omega)]
        exact (Array.getElem?_eq_none (by have := hk.size; unfold putsAll; rw [this]; omega)).symm
    · have hno : ∀ (s' : Nat → Bool) (i : Nat) (o : Oper), ops[i]? = some o → o.dst = some t → s' i = false := fun _ i o h1 h2 => absurd ⟨i, o, h1, h2⟩ hex
      rw [h.rest t (hno s)]
      exact (hk.rest t (hno _)).symm
  have hdf : a.defers = (putsAll a0 x ops.toList 0).defers := h.defers.trans hk.defers.symm
  cases a
  cases h2 : putsAll a0 x ops.toList 0
  rw [h2] at ht hdf
  simp_all
/-- one operation, as a list of one -/
theorem wpOp_list {i : Nat} {o : Oper} {K : Act → World → Prop} {a : Act} {W : World} (ho : ops[i]? = some o)
    (h : wpList P ops (fun e a w => match e with | .normal => K a w | e => Q e a w) [o] a W) : wpOp P ops Q i K a W := by
  unfold wpOp
  rw [ho]
  simp only [wpList] at h
  show if Region.wanted o (yielded ops a.tmps) = true then _ else _
  split
  · rename_i hw
    rw [if_pos hw] at h
    rcases h with h | ⟨h1, h2⟩
    · left
      unfold Oper.wp at h ⊢
      generalize (execOp a.eval o).run P W = r at h ⊢
      cases r with
      | ok n w' => cases n <;> simp only [Oper.upon] at h ⊢ <;> exact h
      | halt x w' => cases x <;> simp only [Oper.upon] at h ⊢ <;> exact h
    · exact .inr ⟨h1, h2⟩
  · rename_i hw
    rw [if_neg hw] at h
    exact h
/-- A REGION THAT DRAWS ITS ORDER: Ψ s x W is what is known when the operations of s have run and have yielded x -/
theorem wp_region_og {id : Nat} {a0 : Act} {W0 : World} (hm : P.follows .mixedOrders = true) (Ψ : (Nat → Bool) → (Nat → Value) → World → Prop)
    (hac : (ops.toList.zipIdx.all fun p => p.1.after.toList.all fun e => (!Region.binds .any e || decide (e.on < p.2))) = true) (hd : decide ((ops.toList.filterMap (·.dst)).Nodup) = true)
    (h0 : ∀ x, Ψ (fun i => !decide (i < ops.size)) x W0.drew)
    (hstep : ∀ (i : Nat) (o : Oper), ops[i]? = some o → ∀ s x a W, s i = false → (∀ e ∈ o.after.toList, Region.binds .any e = true → s e.on = true) → Puts a0 ops s x a → Ψ s x W →
      wpList P ops (fun e a' W' => match e with | .normal => ∃ v, a' = a.put o.dst v ∧ Ψ (mark s i) (setv x i v) W' | e => Q e a' W') [o] a W)
    (hend : ∀ s x W, (∀ i, i < ops.size → s i = true) → Ψ s x W → Q .normal (putsAll a0 x ops.toList 0) W) : (Code.region id ops true).wp P Q a0 W0 := by
  have hac' : ∀ (i : Nat) (o : Oper), ops[i]? = some o → ∀ e ∈ o.after.toList, Region.binds .any e = true → e.on < i := by
    intro i o ho e he hb
    have hi : (o, i) ∈ ops.toList.zipIdx := by
      rw [List.mem_zipIdx_iff_getElem?]
      simpa using ho
    have h1 := List.all_eq_true.1 hac (o, i) hi
    have h2 := List.all_eq_true.1 h1 e he
    simpa [hb] using h2
  have hd' : ∀ (i j : Nat) (oi oj : Oper) (d : Tmp), ops[i]? = some oi → ops[j]? = some oj → oi.dst = some d → oj.dst = some d → i = j := by
    have hn := of_decide_eq_true hd
    have key : ∀ (l : List Oper), (l.filterMap (·.dst)).Nodup → ∀ (i j : Nat) (oi oj : Oper) (d : Tmp), l[i]? = some oi → l[j]? = some oj → oi.dst = some d → oj.dst = some d → i = j := by
      intro l
      induction l with
      | nil => intro _ i j oi oj d h; simp at h
      | cons o r ih =>
        intro hn i j oi oj d hi hj hdi hdj
        have hr : (r.filterMap (·.dst)).Nodup := by
          rw [List.filterMap_cons] at hn
          split at hn
          · exact hn
          · exact (List.nodup_cons.1 hn).2
        have hno : ∀ (k : Nat) (ok : Oper), o.dst = some d → r[k]? = some ok → ok.dst = some d → False := by
          intro k ok h1 h2 h3
          rw [List.filterMap_cons, h1] at hn
          exact (List.nodup_cons.1 hn).1 (List.mem_filterMap.2 ⟨ok, List.mem_of_getElem? h2, h3⟩)
        cases i with
        | zero =>
          cases j with
          | zero => rfl
          | succ j => simp at hi hj; subst hi; exact (hno j oj hdi hj hdj).elim
        | succ i =>
          cases j with
          | zero => simp at hi hj; subst hj; exact (hno i oi hdj hi hdi).elim
          | succ j => simp at hi hj; rw [ih hr i j oi oj d hi hj hdi hdj]
    intro i j oi oj d hi hj
    exact key ops.toList hn i j oi oj d (by simpa using hi) (by simpa using hj)
  refine wp_region_any hm ?_
  refine og_any (fun s a W => ∃ x, Puts a0 ops s x a ∧ Ψ s x W) hac' ?_ ?_ ops.size _ _ _ (by simp) (by simp [unl, List.countP_replicate]) ?_
  · rintro i hi s a W hs hdep ⟨x, hp, hΨ⟩
    have ho : ops[i]? = some ops[i] := by simp [hi]
    refine wpOp_list ho ?_
    have := hstep i _ ho s x a W hs (hdep _ ho) hp hΨ
    have mono : ∀ {R R' : Exit → Act → World → Prop} {l : List Oper} {a : Act} {W : World}, (∀ e a w, R e a w → R' e a w) → wpList P ops R l a W → wpList P ops R' l a W := by
      intro R R' l
      induction l with
      | nil => intro a W hr h; exact hr _ _ _ h
      | cons o l ih =>
        intro a W hr h
        simp only [wpList] at h ⊢
        split
        · rename_i hw
          rw [if_pos hw] at h
          rcases h with h | ⟨h1, a1, w1, h2⟩
          · left
            have h := Oper.wp_mono (fun a w => ih hr) h
            unfold Oper.wp at h ⊢
            generalize (execOp a.eval o).run P W = r at h ⊢
            cases r with
            | ok n w' =>
              cases n <;> simp only [Oper.upon] at h ⊢ <;> first
                | exact h
                | exact h.mono fun e w' he => by cases e <;> first | exact he | exact hr _ _ _ he | (obtain ⟨a1, w1, he⟩ := he; exact ⟨a1, w1, hr _ _ _ he⟩)
            | halt x w' => cases x <;> simp only [Oper.upon] at h ⊢ <;> first | exact hr _ _ _ h | exact h
          · exact .inr ⟨h1, a1, w1, hr _ _ _ h2⟩
        · rename_i hw
          rw [if_neg hw] at h
          exact ih hr h
    refine mono ?_ this
    intro e a' W' h
    cases e with
    | normal =>
      obtain ⟨v, rfl, hv⟩ := h
      exact ⟨_, hp.step ho hs hd' v, hv⟩
    | _ => exact h
  · rintro s a W hall ⟨x, hp, hΨ⟩
    rw [puts_all hp hall hd']
    exact hend s x W hall hΨ
  · refine ⟨fun _ => undef, ⟨rfl, rfl, fun i o d ho _ hs _ => ?_, fun _ _ => rfl⟩, ?_⟩
    · have hi : i < ops.size := by
        rcases Nat.lt_or_ge i ops.size with h | h
        · exact h
        · simp [Array.getElem?_eq_none h] at ho
      simp [Array.getD, hi] at hs
    · have e : (fun i => (Array.replicate ops.size false).getD i true) = fun i => !decide (i < ops.size) := by
        funext i
        by_cases h : i < ops.size <;> simp [Array.getD, h]
      rw [e]
      exact h0 _
end
end Go.Pm
