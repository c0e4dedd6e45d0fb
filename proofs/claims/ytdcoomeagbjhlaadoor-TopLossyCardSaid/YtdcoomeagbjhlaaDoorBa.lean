/- others, the iterator: the walk. By the prover of this seat. -/
import Derived.RangeFuncNested
import Derived.RangeFuncBound
import Derived.RangeFuncCalls
import Derived.RangeFuncLeaves
import Derived.Shelf.Abstract
import Derived.Shelf.RegionOpen
import Derived.WalkKit
import Derived.OwnWalkIn
import Derived.TacticsInMore
import Derived.LoopNIn
import Derived.LoopIn
import Derived.Test.YtdcoomeagbjhlaaDoorAh
set_option linter.unusedVariables false
set_option linter.unusedSimpArgs false
namespace Go.Proofs.YtdcoomeagbjhlaaDoor.Ca
open Go.RowKit Go.Shelf Go.Pm
open Go.Proofs.YtdcoomeagbjhlaaDoor.Or (G1 C1 Pu)
attribute [local go_sem] Oper.semAt_some
section
variable {F : Fence} {n : Nat} {P : Program} {ops : Array Oper} {Q : Exit → Act → World → Prop}
theorem og_anyIn (Φ : (Nat → Bool) → Act → World → Prop)
    (hac : ∀ (i : Nat) (o : Oper), ops[i]? = some o → ∀ e ∈ o.after.toList, Region.binds .any e = true → e.on < i)
    (hstep : ∀ i, i < ops.size → ∀ s a W, s i = false → (∀ o : Oper, ops[i]? = some o → ∀ e ∈ o.after.toList, Region.binds .any e = true → s e.on = true) → Φ s a W → wpOpIn F n P ops Q i (Φ (Go.Pm.mark s i)) a W)
    (hend : ∀ s a W, (∀ i, i < ops.size → s i = true) → Φ s a W → Q .normal a W) :
    ∀ (fuel : Nat) (listed : Array Bool) (a : Act) (W : World), listed.size = ops.size → unl listed = fuel → Φ (fun i => listed.getD i true) a W → wpAnyIn F n P .any ops Q fuel listed a W := by
  intro fuel
  induction fuel with
  | zero =>
    intro listed a W hsz hu hΦ
    have hall : ∀ i, i < ops.size → listed.getD i true = true := by
      intro i hi
      have h0 : ∀ b ∈ listed.toList, (!b) = false := by
        intro b hb
        have := List.countP_eq_zero.1 hu b hb
        simpa using this
      have : listed[i]'(by omega) ∈ listed.toList := by simp
      have := h0 _ this
      simp [Array.getD, show i < listed.size by omega]
      simpa using this
    refine ⟨?_, hend _ _ _ hall hΦ⟩
    unfold Region.ready
    rw [List.filter_eq_nil_iff]
    intro i hi
    have := hall i (List.mem_range.1 hi)
    simp [this]
  | succ fuel ih =>
    intro listed a W hsz hu hΦ
    refine ⟨fun hr => ?_, fun i hi => ?_⟩
    · refine hend _ _ _ ?_ hΦ
      intro i
      induction i using Nat.strongRecOn with
      | _ i ihi =>
        intro hi
        cases hli : listed.getD i true with
        | true => rfl
        | false =>
          exfalso
          have hmem : i ∈ Region.ready .any ops listed := by
            unfold Region.ready
            rw [List.mem_filter]
            refine ⟨List.mem_range.2 hi, ?_⟩
            have ho : ops[i]? = some ops[i] := by simp [hi]
            simp only [hli, Bool.not_false, ho, Option.map_some, Option.getD_some, Bool.true_and]
            rw [Array.all_eq_true']
            intro e he
            cases hbi : Region.binds .any e with
            | false => simp
            | true =>
              have hlt := hac i _ ho e (by simpa using he) hbi
              have := ihi e.on hlt (by omega)
              have h2 : listed.getD e.on false = true := by
                simp only [Array.getD, show e.on < listed.size by omega, dif_pos] at this ⊢
                exact this
              simp [h2]
          rw [hr] at hmem
          cases hmem
    · unfold Region.ready at hi
      rw [List.mem_filter] at hi
      obtain ⟨h1, h2⟩ := hi
      have hi' := List.mem_range.1 h1
      have ho : ops[i]? = some ops[i] := by simp [hi']
      simp only [ho, Option.map_some, Option.getD_some, Bool.and_eq_true, Bool.not_eq_true'] at h2
      obtain ⟨hli, hdep⟩ := h2
      rw [Array.all_eq_true'] at hdep
      refine wpOpIn_mono (fun a' W' h => ?_) (hstep i hi' _ a W hli (fun o ho' e he hb => ?_) hΦ)
      · refine ih _ _ _ (by simpa using hsz) (by have := unl_set (listed := listed) (i := i) (by omega) hli; omega) ?_
        have e : (fun j => (listed.setIfInBounds i true).getD j true) = Go.Pm.mark (fun j => listed.getD j true) i := by
          funext j
          unfold Go.Pm.mark
          by_cases hj : j = i
          · subst hj; simp [Array.getD, show j < listed.size by omega]
          · simp only [if_neg hj]
            by_cases hjs : j < listed.size
            · simp [Array.getD, hjs, Array.getElem_setIfInBounds, Ne.symm hj]
            · simp [Array.getD, hjs]
        rw [e]
        exact h
      · rw [ho] at ho'
        cases ho'
        have := hdep e (by simpa using he)
        simp [hb] at this
        have hlt := hac i _ ho e he hb
        have hb2 : e.on < listed.size := by omega
        simp [Array.getD, hb2] at this ⊢
        exact this
end
/-- the places at which two texts differ -/
def difB (a b : ByteArray) (i : Nat) : Bool := decide ((a[i]!).toNat ≠ (b[i]!).toNat)
def cntB (a b : ByteArray) (i : Nat) : Nat := ((List.range i).filter (difB a b)).length
theorem cnt_zero (a b : ByteArray) : cntB a b 0 = 0 := rfl
theorem cnt_succ (a b : ByteArray) (i : Nat) : cntB a b (i + 1) = cntB a b i + if difB a b i = true then 1 else 0 := by
  unfold cntB
  rw [List.range_succ, List.filter_append, List.length_append, List.filter_cons]
  split <;> rfl
def depO : Nat → List Nat
  | 2 => [0, 1]
  | 5 => [3, 4]
  | 6 => [2, 5]
  | 7 => [6]
  | 8 => [7]
  | 9 => [7]
  | 10 => [7]
  | 11 => [7]
  | 12 => [10, 11, 7]
  | 13 => [8, 9, 12, 7]
  | 14 => [13, 7]
  | 15 => [7, 14]
  | _ => []
def ClO (s : Nat → Bool) : Prop := ∀ j, j < 16 → s j = true → ∀ d ∈ depO j, s d = true
theorem ClO.mark {s : Nat → Bool} (h : ClO s) (i : Nat) (hd : ∀ d ∈ depO i, s d = true) : ClO (Go.Pm.mark s i) := by
  intro j hj hs d hdj
  unfold Go.Pm.mark at hs ⊢
  split
  · rfl
  · split at hs
    · rename_i e; subst e; exact hd d hdj
    · exact h j hj hs d hdj
theorem ClO.all {s : Nat → Bool} (h : ClO s) (h13 : s 13 = true) : ∀ j, j < 13 → s j = true := by
  have k8 := h 13 (by omega) h13 8 (by simp [depO])
  have k9 := h 13 (by omega) h13 9 (by simp [depO])
  have k12 := h 13 (by omega) h13 12 (by simp [depO])
  have k7 := h 13 (by omega) h13 7 (by simp [depO])
  have k10 := h 12 (by omega) k12 10 (by simp [depO])
  have k11 := h 12 (by omega) k12 11 (by simp [depO])
  have k6 := h 7 (by omega) k7 6 (by simp [depO])
  have k2 := h 6 (by omega) k6 2 (by simp [depO])
  have k5 := h 6 (by omega) k6 5 (by simp [depO])
  have k0 := h 2 (by omega) k2 0 (by simp [depO])
  have k1 := h 2 (by omega) k2 1 (by simp [depO])
  have k3 := h 5 (by omega) k5 3 (by simp [depO])
  have k4 := h 5 (by omega) k5 4 (by simp [depO])
  intro j hj
  match j, hj with
  | 0, _ => exact k0
  | 1, _ => exact k1
  | 2, _ => exact k2
  | 3, _ => exact k3
  | 4, _ => exact k4
  | 5, _ => exact k5
  | 6, _ => exact k6
  | 7, _ => exact k7
  | 8, _ => exact k8
  | 9, _ => exact k9
  | 10, _ => exact k10
  | 11, _ => exact k11
  | 12, _ => exact k12
def actO (l ba oa bb ob k : Nat) (a b : ByteArray) (t10 t11 t12 t13 t14 t15 t16 t17 t18 t19 t20 t21 t22 t23 t24 t25 u26 : Value) : Act := { tmps := #[Value.func (Fn.yield l) #[] #[], Value.pointer (some { block := ba, off := oa }), Value.pointer (some { block := bb, off := ob }), undef, Value.int IntKind.i64 k, Value.string a, Value.int IntKind.i64 b.size, Value.int IntKind.i64 k, Value.bool true, Value.int IntKind.i64 k, t10, t11, t12, t13, t14, t15, t16, t17, t18, t19, t20, t21, t22, t23, t24, t25, u26], defers := [] }
def PhiO (l ba oa bb ob k : Nat) (a b : ByteArray) (J Jx : Nat → World → Prop) (u26 : Value) (s : Nat → Bool) (A : Act) (W : World) : Prop := ∃ t10 t11 t12 t13 t14 t15 t16 t17 t18 t19 t20 t21 t22 t23 t24 t25, A = actO l ba oa bb ob k a b t10 t11 t12 t13 t14 t15 t16 t17 t18 t19 t20 t21 t22 t23 t24 t25 u26 ∧ ClO s ∧ ((s 0 = true → t10 = Value.string a) ∧ (s 1 = true → t11 = Value.int .i64 k) ∧ (s 2 = true → t12 = Value.int .u8 ((a[k]!).toNat : Int)) ∧ (s 3 = true → t13 = Value.string b) ∧ (s 4 = true → t14 = Value.int .i64 k) ∧ (s 5 = true → t15 = Value.int .u8 ((b[k]!).toNat : Int)) ∧ (s 6 = true → t16 = Value.bool true) ∧ (s 7 = true → t17 = Value.bool true) ∧ (s 8 = true → t18 = Value.func (.yield l) #[] #[]) ∧ (s 9 = true → t19 = Value.int .i64 k) ∧ (s 10 = true → t20 = Value.string b) ∧ (s 11 = true → t21 = Value.int .i64 k) ∧ (s 12 = true → t22 = Value.int .u8 ((b[k]!).toNat : Int))) ∧ (s 13 = false → J (cntB a b k) W) ∧ (s 13 = true → (t23 = .bool true ∧ J (cntB a b k + 1) W) ∨ (t23 = .bool false ∧ Jx (cntB a b k) W)) ∧ (s 14 = true → ∃ t, t23 = .bool t ∧ t24 = .bool (!t)) ∧ (s 15 = true → ∃ t, t23 = .bool t ∧ t25 = .bool (!t))
theorem drewN_ok {J : World → Prop} (hJ : ∀ W, J W → J W.drew) : ∀ (n : Nat) {W : World}, J W → J (W.drewN n) := by
  intro n
  induction n with
  | zero => intro W h; exact h
  | succ n ih => intro W h; exact hJ _ (ih h)
set_option maxRecDepth 100000 in
set_option maxHeartbeats 4000000 in
theorem others1 (l ba oa bb ob : Nat) (a b : ByteArray) (hs0 : a.size = b.size) (hn : a.size ≤ 1000000) (J Jx : Nat → World → Prop)
    (hJ : ∀ k W, J k W → W.cell? ⟨ba, oa, none⟩ = some (.string a) ∧ W.cell? ⟨bb, ob, none⟩ = some (.string b) ∧ J k W.drew)
    (hY : ∀ i W, i < a.size → difB a b i = true → J (cntB a b i) W → YieldAt Fence.wide 0 Tryd.prog l #[.int .i64 i, .int .u8 ((b[i]!).toNat : Int)] W fun e W' => (e = .returned (.bool true) ∧ J (cntB a b i + 1) W') ∨ (e = .returned (.bool false) ∧ Jx (cntB a b i) W'))
    (W : World) (h0 : J 0 W) : CallsIn Fence.wide 0 Tryd.prog 41 #[.func (.yield l) #[] #[], .pointer (some ⟨ba, oa, none⟩), .pointer (some ⟨bb, ob, none⟩)] W fun e W' => (∃ v, e = .returned v) ∧ (J (cntB a b a.size) W' ∨ ∃ i, i < a.size ∧ difB a b i = true ∧ Jx (cntB a b i) W') := by
  have hmix : Tryd.prog.follows .mixedOrders = true := by kernel_rfl
  refine callsIn_of_wp Tryd.func41 rfl trivial ?_ rfl
  simp only [Tryd.ntmps41, List.size_toArray, List.length_cons, List.length_nil, Nat.reduceAdd, Nat.reduceSub, Array.replicate_succ, Array.replicate_zero, List.push_toArray, List.append_toArray, List.nil_append, List.cons_append]
  obtain ⟨c1, c2, c3⟩ := hJ 0 W h0
  gi_wp2
  gi_loopw [7] (fun i wr => ∃ k : Nat, k ≤ a.size ∧ i = .int .i64 k ∧ J (cntB a b k) wr)
    (fun i _ => a.size - (intOf i).toNat)
  case atStart => exact ⟨0, Nat.zero_le _, rfl, h0⟩
  case round =>
    obtain ⟨k, hk, rfl, hJs⟩ := hrel
    obtain ⟨c1, c2, c3⟩ := hJ _ wr hJs
    by_cases hlt : k < a.size
    · have hltb : k < b.size := by omega
      have ea : a[k]! = a[k] := getElem!_pos a k hlt
      have eb : b[k]! = b[k] := getElem!_pos b k hltb
      by_cases hd : difB a b k = true
      · have hd1 : ¬ (a[k]!).toNat = (b[k]!).toNat := by simpa [difB] using hd
        gi_wp2
        clear c1 c2 c3
        have hJd := (hJ _ wr hJs).2.2
        refine wpIn_region_any hmix ?_
        change wpAnyIn _ _ _ _ _ _ _ _ _ (World.drew _)
        refine og_anyIn (PhiO l ba oa bb ob k a b J Jx u26) ?hac ?hstep ?hend 16 _ _ _ rfl (by decide) ?h0
        case hac =>
          intro i o ho e he hb
          match i, ho with
          | 0, ho => cases ho; simp at he
          | 1, ho => cases ho; simp at he
          | 2, ho => cases ho; simp at he; rcases he with rfl | rfl <;> simp at hb ⊢
          | 3, ho => cases ho; simp at he
          | 4, ho => cases ho; simp at he
          | 5, ho => cases ho; simp at he; rcases he with rfl | rfl <;> simp at hb ⊢
          | 6, ho => cases ho; simp at he; rcases he with rfl | rfl <;> simp at hb ⊢
          | 7, ho => cases ho; simp at he; rcases he with rfl <;> simp at hb ⊢
          | 8, ho => cases ho; simp at he; rcases he with rfl <;> simp at hb ⊢
          | 9, ho => cases ho; simp at he; rcases he with rfl <;> simp at hb ⊢
          | 10, ho => cases ho; simp at he; rcases he with rfl <;> simp at hb ⊢
          | 11, ho => cases ho; simp at he; rcases he with rfl <;> simp at hb ⊢
          | 12, ho => cases ho; simp at he; rcases he with rfl | rfl | rfl <;> simp at hb ⊢
          | 13, ho => cases ho; simp at he; rcases he with rfl | rfl | rfl | rfl | rfl <;> simp at hb ⊢
          | 14, ho => cases ho; simp at he; rcases he with rfl | rfl <;> simp at hb ⊢
          | 15, ho => cases ho; simp at he; rcases he with rfl | rfl <;> simp at hb ⊢
          | i + 16, ho => simp at ho
        case hstep =>
          intro i hi s A V hsi hdep hΦ
          match i, hi with
          | 0, _ =>
            obtain ⟨t10, t11, t12, t13, t14, t15, t16, t17, t18, t19, t20, t21, t22, t23, t24, t25, rfl, hcl, ⟨f0, f1, f2, f3, f4, f5, f6, f7, f8, f9, f10, f11, f12⟩, w1, w2, w3, w4⟩ := hΦ
            have hs13 : s 13 = false := by
              cases h : s 13 with
              | false => rfl
              | true => have := hcl.all h 0 (by omega); rw [hsi] at this; cases this
            obtain ⟨c1, c2, c3⟩ := hJ _ _ (w1 hs13)
            unfold actO
            simp only [wpOpIn]
            go_simp
            exact ⟨_, _, _, _, _, _, _, _, _, _, _, _, _, _, _, _, rfl, hcl.mark 0 (by intro d hdm; simp [depO] at hdm), ⟨fun _ => (by first | rfl | rw [ea] | rw [eb] | rw [hsab]), f1, f2, f3, f4, f5, f6, f7, f8, f9, f10, f11, f12⟩, w1, w2, w3, w4⟩
          | 1, _ =>
            obtain ⟨t10, t11, t12, t13, t14, t15, t16, t17, t18, t19, t20, t21, t22, t23, t24, t25, rfl, hcl, ⟨f0, f1, f2, f3, f4, f5, f6, f7, f8, f9, f10, f11, f12⟩, w1, w2, w3, w4⟩ := hΦ
            have hs13 : s 13 = false := by
              cases h : s 13 with
              | false => rfl
              | true => have := hcl.all h 1 (by omega); rw [hsi] at this; cases this
            obtain ⟨c1, c2, c3⟩ := hJ _ _ (w1 hs13)
            unfold actO
            simp only [wpOpIn]
            go_simp
            exact ⟨_, _, _, _, _, _, _, _, _, _, _, _, _, _, _, _, rfl, hcl.mark 1 (by intro d hdm; simp [depO] at hdm), ⟨f0, fun _ => (by first | rfl | rw [ea] | rw [eb] | rw [hsab]), f2, f3, f4, f5, f6, f7, f8, f9, f10, f11, f12⟩, w1, w2, w3, w4⟩
          | 2, _ =>
            obtain ⟨t10, t11, t12, t13, t14, t15, t16, t17, t18, t19, t20, t21, t22, t23, t24, t25, rfl, hcl, ⟨f0, f1, f2, f3, f4, f5, f6, f7, f8, f9, f10, f11, f12⟩, w1, w2, w3, w4⟩ := hΦ
            have hs13 : s 13 = false := by
              cases h : s 13 with
              | false => rfl
              | true => have := hcl.all h 2 (by omega); rw [hsi] at this; cases this
            obtain ⟨c1, c2, c3⟩ := hJ _ _ (w1 hs13)
            have e0 : s 0 = true := hdep _ rfl { on := 0, ground := .data } (by simp) rfl
            have e1 : s 1 = true := hdep _ rfl { on := 1, ground := .data } (by simp) rfl
            have q0 := f0 e0
            subst q0
            have q1 := f1 e1
            subst q1
            unfold actO
            simp only [wpOpIn]
            go_simp
            exact ⟨_, _, _, _, _, _, _, _, _, _, _, _, _, _, _, _, rfl, hcl.mark 2 (by intro d hdm; simp [depO] at hdm; rcases hdm with rfl | rfl <;> assumption), ⟨fun _ => (by first | rfl | rw [ea] | rw [eb] | rw [hsab]), fun _ => (by first | rfl | rw [ea] | rw [eb] | rw [hsab]), fun _ => (by first | rfl | rw [ea] | rw [eb] | rw [hsab]), f3, f4, f5, f6, f7, f8, f9, f10, f11, f12⟩, w1, w2, w3, w4⟩
          | 3, _ =>
            obtain ⟨t10, t11, t12, t13, t14, t15, t16, t17, t18, t19, t20, t21, t22, t23, t24, t25, rfl, hcl, ⟨f0, f1, f2, f3, f4, f5, f6, f7, f8, f9, f10, f11, f12⟩, w1, w2, w3, w4⟩ := hΦ
            have hs13 : s 13 = false := by
              cases h : s 13 with
              | false => rfl
              | true => have := hcl.all h 3 (by omega); rw [hsi] at this; cases this
            obtain ⟨c1, c2, c3⟩ := hJ _ _ (w1 hs13)
            unfold actO
            simp only [wpOpIn]
            go_simp
            exact ⟨_, _, _, _, _, _, _, _, _, _, _, _, _, _, _, _, rfl, hcl.mark 3 (by intro d hdm; simp [depO] at hdm), ⟨f0, f1, f2, fun _ => (by first | rfl | rw [ea] | rw [eb] | rw [hsab]), f4, f5, f6, f7, f8, f9, f10, f11, f12⟩, w1, w2, w3, w4⟩
          | 4, _ =>
            obtain ⟨t10, t11, t12, t13, t14, t15, t16, t17, t18, t19, t20, t21, t22, t23, t24, t25, rfl, hcl, ⟨f0, f1, f2, f3, f4, f5, f6, f7, f8, f9, f10, f11, f12⟩, w1, w2, w3, w4⟩ := hΦ
            have hs13 : s 13 = false := by
              cases h : s 13 with
              | false => rfl
              | true => have := hcl.all h 4 (by omega); rw [hsi] at this; cases this
            obtain ⟨c1, c2, c3⟩ := hJ _ _ (w1 hs13)
            unfold actO
            simp only [wpOpIn]
            go_simp
            exact ⟨_, _, _, _, _, _, _, _, _, _, _, _, _, _, _, _, rfl, hcl.mark 4 (by intro d hdm; simp [depO] at hdm), ⟨f0, f1, f2, f3, fun _ => (by first | rfl | rw [ea] | rw [eb] | rw [hsab]), f5, f6, f7, f8, f9, f10, f11, f12⟩, w1, w2, w3, w4⟩
          | 5, _ =>
            obtain ⟨t10, t11, t12, t13, t14, t15, t16, t17, t18, t19, t20, t21, t22, t23, t24, t25, rfl, hcl, ⟨f0, f1, f2, f3, f4, f5, f6, f7, f8, f9, f10, f11, f12⟩, w1, w2, w3, w4⟩ := hΦ
            have hs13 : s 13 = false := by
              cases h : s 13 with
              | false => rfl
              | true => have := hcl.all h 5 (by omega); rw [hsi] at this; cases this
            obtain ⟨c1, c2, c3⟩ := hJ _ _ (w1 hs13)
            have e3 : s 3 = true := hdep _ rfl { on := 3, ground := .data } (by simp) rfl
            have e4 : s 4 = true := hdep _ rfl { on := 4, ground := .data } (by simp) rfl
            have q3 := f3 e3
            subst q3
            have q4 := f4 e4
            subst q4
            unfold actO
            simp only [wpOpIn]
            go_simp
            exact ⟨_, _, _, _, _, _, _, _, _, _, _, _, _, _, _, _, rfl, hcl.mark 5 (by intro d hdm; simp [depO] at hdm; rcases hdm with rfl | rfl <;> assumption), ⟨f0, f1, f2, fun _ => (by first | rfl | rw [ea] | rw [eb] | rw [hsab]), fun _ => (by first | rfl | rw [ea] | rw [eb] | rw [hsab]), fun _ => (by first | rfl | rw [ea] | rw [eb] | rw [hsab]), f6, f7, f8, f9, f10, f11, f12⟩, w1, w2, w3, w4⟩
          | 6, _ =>
            obtain ⟨t10, t11, t12, t13, t14, t15, t16, t17, t18, t19, t20, t21, t22, t23, t24, t25, rfl, hcl, ⟨f0, f1, f2, f3, f4, f5, f6, f7, f8, f9, f10, f11, f12⟩, w1, w2, w3, w4⟩ := hΦ
            have hs13 : s 13 = false := by
              cases h : s 13 with
              | false => rfl
              | true => have := hcl.all h 6 (by omega); rw [hsi] at this; cases this
            obtain ⟨c1, c2, c3⟩ := hJ _ _ (w1 hs13)
            have e2 : s 2 = true := hdep _ rfl { on := 2, ground := .data } (by simp) rfl
            have e5 : s 5 = true := hdep _ rfl { on := 5, ground := .data } (by simp) rfl
            have q2 := f2 e2
            subst q2
            have q5 := f5 e5
            subst q5
            unfold actO
            simp only [wpOpIn]
            go_simp
            exact ⟨_, _, _, _, _, _, _, _, _, _, _, _, _, _, _, _, rfl, hcl.mark 6 (by intro d hdm; simp [depO] at hdm; rcases hdm with rfl | rfl <;> assumption), ⟨f0, f1, fun _ => (by first | rfl | rw [ea] | rw [eb] | rw [hsab]), f3, f4, fun _ => (by first | rfl | rw [ea] | rw [eb] | rw [hsab]), fun _ => congrArg Value.bool (bne_iff_ne.2 (by rw [ea, eb] at hd1; omega)), f7, f8, f9, f10, f11, f12⟩, w1, w2, w3, w4⟩
          | 7, _ =>
            obtain ⟨t10, t11, t12, t13, t14, t15, t16, t17, t18, t19, t20, t21, t22, t23, t24, t25, rfl, hcl, ⟨f0, f1, f2, f3, f4, f5, f6, f7, f8, f9, f10, f11, f12⟩, w1, w2, w3, w4⟩ := hΦ
            have hs13 : s 13 = false := by
              cases h : s 13 with
              | false => rfl
              | true => have := hcl.all h 7 (by omega); rw [hsi] at this; cases this
            obtain ⟨c1, c2, c3⟩ := hJ _ _ (w1 hs13)
            have e6 : s 6 = true := hdep _ rfl { on := 6, ground := .data } (by simp) rfl
            have q6 := f6 e6
            subst q6
            unfold actO
            simp only [wpOpIn]
            go_simp
            exact ⟨_, _, _, _, _, _, _, _, _, _, _, _, _, _, _, _, rfl, hcl.mark 7 (by intro d hdm; simp [depO] at hdm; rcases hdm with rfl <;> assumption), ⟨f0, f1, f2, f3, f4, f5, fun _ => (by first | rfl | rw [ea] | rw [eb] | rw [hsab]), fun _ => (by first | rfl | rw [ea] | rw [eb] | rw [hsab]), f8, f9, f10, f11, f12⟩, w1, w2, w3, w4⟩
          | 8, _ =>
            obtain ⟨t10, t11, t12, t13, t14, t15, t16, t17, t18, t19, t20, t21, t22, t23, t24, t25, rfl, hcl, ⟨f0, f1, f2, f3, f4, f5, f6, f7, f8, f9, f10, f11, f12⟩, w1, w2, w3, w4⟩ := hΦ
            have hs13 : s 13 = false := by
              cases h : s 13 with
              | false => rfl
              | true => have := hcl.all h 8 (by omega); rw [hsi] at this; cases this
            obtain ⟨c1, c2, c3⟩ := hJ _ _ (w1 hs13)
            have e7 : s 7 = true := hdep _ rfl { on := 7, ground := .guard } (by simp) rfl
            have q7 := f7 e7
            subst q7
            unfold actO
            simp only [wpOpIn]
            go_simp
            exact ⟨_, _, _, _, _, _, _, _, _, _, _, _, _, _, _, _, rfl, hcl.mark 8 (by intro d hdm; simp [depO] at hdm; rcases hdm with rfl <;> assumption), ⟨f0, f1, f2, f3, f4, f5, f6, fun _ => (by first | rfl | rw [ea] | rw [eb] | rw [hsab]), fun _ => (by first | rfl | rw [ea] | rw [eb] | rw [hsab]), f9, f10, f11, f12⟩, w1, w2, w3, w4⟩
          | 9, _ =>
            obtain ⟨t10, t11, t12, t13, t14, t15, t16, t17, t18, t19, t20, t21, t22, t23, t24, t25, rfl, hcl, ⟨f0, f1, f2, f3, f4, f5, f6, f7, f8, f9, f10, f11, f12⟩, w1, w2, w3, w4⟩ := hΦ
            have hs13 : s 13 = false := by
              cases h : s 13 with
              | false => rfl
              | true => have := hcl.all h 9 (by omega); rw [hsi] at this; cases this
            obtain ⟨c1, c2, c3⟩ := hJ _ _ (w1 hs13)
            have e7 : s 7 = true := hdep _ rfl { on := 7, ground := .guard } (by simp) rfl
            have q7 := f7 e7
            subst q7
            unfold actO
            simp only [wpOpIn]
            go_simp
            exact ⟨_, _, _, _, _, _, _, _, _, _, _, _, _, _, _, _, rfl, hcl.mark 9 (by intro d hdm; simp [depO] at hdm; rcases hdm with rfl <;> assumption), ⟨f0, f1, f2, f3, f4, f5, f6, fun _ => (by first | rfl | rw [ea] | rw [eb] | rw [hsab]), f8, fun _ => (by first | rfl | rw [ea] | rw [eb] | rw [hsab]), f10, f11, f12⟩, w1, w2, w3, w4⟩
          | 10, _ =>
            obtain ⟨t10, t11, t12, t13, t14, t15, t16, t17, t18, t19, t20, t21, t22, t23, t24, t25, rfl, hcl, ⟨f0, f1, f2, f3, f4, f5, f6, f7, f8, f9, f10, f11, f12⟩, w1, w2, w3, w4⟩ := hΦ
            have hs13 : s 13 = false := by
              cases h : s 13 with
              | false => rfl
              | true => have := hcl.all h 10 (by omega); rw [hsi] at this; cases this
            obtain ⟨c1, c2, c3⟩ := hJ _ _ (w1 hs13)
            have e7 : s 7 = true := hdep _ rfl { on := 7, ground := .guard } (by simp) rfl
            have q7 := f7 e7
            subst q7
            unfold actO
            simp only [wpOpIn]
            go_simp
            exact ⟨_, _, _, _, _, _, _, _, _, _, _, _, _, _, _, _, rfl, hcl.mark 10 (by intro d hdm; simp [depO] at hdm; rcases hdm with rfl <;> assumption), ⟨f0, f1, f2, f3, f4, f5, f6, fun _ => (by first | rfl | rw [ea] | rw [eb] | rw [hsab]), f8, f9, fun _ => (by first | rfl | rw [ea] | rw [eb] | rw [hsab]), f11, f12⟩, w1, w2, w3, w4⟩
          | 11, _ =>
            obtain ⟨t10, t11, t12, t13, t14, t15, t16, t17, t18, t19, t20, t21, t22, t23, t24, t25, rfl, hcl, ⟨f0, f1, f2, f3, f4, f5, f6, f7, f8, f9, f10, f11, f12⟩, w1, w2, w3, w4⟩ := hΦ
            have hs13 : s 13 = false := by
              cases h : s 13 with
              | false => rfl
              | true => have := hcl.all h 11 (by omega); rw [hsi] at this; cases this
            obtain ⟨c1, c2, c3⟩ := hJ _ _ (w1 hs13)
            have e7 : s 7 = true := hdep _ rfl { on := 7, ground := .guard } (by simp) rfl
            have q7 := f7 e7
            subst q7
            unfold actO
            simp only [wpOpIn]
            go_simp
            exact ⟨_, _, _, _, _, _, _, _, _, _, _, _, _, _, _, _, rfl, hcl.mark 11 (by intro d hdm; simp [depO] at hdm; rcases hdm with rfl <;> assumption), ⟨f0, f1, f2, f3, f4, f5, f6, fun _ => (by first | rfl | rw [ea] | rw [eb] | rw [hsab]), f8, f9, f10, fun _ => (by first | rfl | rw [ea] | rw [eb] | rw [hsab]), f12⟩, w1, w2, w3, w4⟩
          | 12, _ =>
            obtain ⟨t10, t11, t12, t13, t14, t15, t16, t17, t18, t19, t20, t21, t22, t23, t24, t25, rfl, hcl, ⟨f0, f1, f2, f3, f4, f5, f6, f7, f8, f9, f10, f11, f12⟩, w1, w2, w3, w4⟩ := hΦ
            have hs13 : s 13 = false := by
              cases h : s 13 with
              | false => rfl
              | true => have := hcl.all h 12 (by omega); rw [hsi] at this; cases this
            obtain ⟨c1, c2, c3⟩ := hJ _ _ (w1 hs13)
            have e10 : s 10 = true := hdep _ rfl { on := 10, ground := .data } (by simp) rfl
            have e11 : s 11 = true := hdep _ rfl { on := 11, ground := .data } (by simp) rfl
            have e7 : s 7 = true := hdep _ rfl { on := 7, ground := .guard } (by simp) rfl
            have q10 := f10 e10
            subst q10
            have q11 := f11 e11
            subst q11
            have q7 := f7 e7
            subst q7
            unfold actO
            simp only [wpOpIn]
            go_simp
            exact ⟨_, _, _, _, _, _, _, _, _, _, _, _, _, _, _, _, rfl, hcl.mark 12 (by intro d hdm; simp [depO] at hdm; rcases hdm with rfl | rfl | rfl <;> assumption), ⟨f0, f1, f2, f3, f4, f5, f6, fun _ => (by first | rfl | rw [ea] | rw [eb] | rw [hsab]), f8, f9, fun _ => (by first | rfl | rw [ea] | rw [eb] | rw [hsab]), fun _ => (by first | rfl | rw [ea] | rw [eb] | rw [hsab]), fun _ => (by first | rfl | rw [ea] | rw [eb] | rw [hsab])⟩, w1, w2, w3, w4⟩
          | 13, _ =>
            obtain ⟨t10, t11, t12, t13, t14, t15, t16, t17, t18, t19, t20, t21, t22, t23, t24, t25, rfl, hcl, ⟨f0, f1, f2, f3, f4, f5, f6, f7, f8, f9, f10, f11, f12⟩, w1, w2, w3, w4⟩ := hΦ
            have hs13 : s 13 = false := hsi
            obtain ⟨c1, c2, c3⟩ := hJ _ _ (w1 hs13)
            have e8 : s 8 = true := hdep _ rfl { on := 8, ground := .data } (by simp) rfl
            have e9 : s 9 = true := hdep _ rfl { on := 9, ground := .data } (by simp) rfl
            have e12 : s 12 = true := hdep _ rfl { on := 12, ground := .data } (by simp) rfl
            have e7 : s 7 = true := hdep _ rfl { on := 7, ground := .guard } (by simp) rfl
            have q8 := f8 e8
            subst q8
            have q9 := f9 e9
            subst q9
            have q12 := f12 e12
            subst q12
            have q7 := f7 e7
            subst q7
            obtain ⟨fn, tmps, assign, body, hy, hR⟩ := hY k _ hlt hd (w1 hs13)
            unfold actO
            simp only [wpOpIn]
            go_simp
            rw [eb] at hy
            rw [hy]
            refine ⟨fun h => (by simp [Fence.wide] at h), hR.mono ?_⟩
            have n14 : s 14 = true → False := fun h => by have := hcl 14 (by omega) h 13 (by simp [depO]); rw [hs13] at this; cases this
            have n15 : s 15 = true → False := fun h => n14 (hcl 15 (by omega) h 14 (by simp [depO]))
            rintro e V' (⟨rfl, hJ3⟩ | ⟨rfl, hJx3⟩)
            · go_simp
              exact ⟨_, _, _, _, _, _, _, _, _, _, _, _, _, _, _, _, rfl, hcl.mark 13 (by intro d hdm; simp [depO] at hdm; rcases hdm with rfl | rfl | rfl | rfl <;> assumption), ⟨f0, f1, f2, f3, f4, f5, f6, fun _ => (by first | rfl | rw [ea] | rw [eb] | rw [hsab]), fun _ => (by first | rfl | rw [ea] | rw [eb] | rw [hsab]), fun _ => (by first | rfl | rw [ea] | rw [eb] | rw [hsab]), f10, f11, fun _ => (by first | rfl | rw [ea] | rw [eb] | rw [hsab])⟩, fun h => absurd h (by simp [Go.Pm.mark]), fun _ => .inl ⟨rfl, hJ3⟩, fun h => (n14 h).elim, fun h => (n15 h).elim⟩
            · go_simp
              exact ⟨_, _, _, _, _, _, _, _, _, _, _, _, _, _, _, _, rfl, hcl.mark 13 (by intro d hdm; simp [depO] at hdm; rcases hdm with rfl | rfl | rfl | rfl <;> assumption), ⟨f0, f1, f2, f3, f4, f5, f6, fun _ => (by first | rfl | rw [ea] | rw [eb] | rw [hsab]), fun _ => (by first | rfl | rw [ea] | rw [eb] | rw [hsab]), fun _ => (by first | rfl | rw [ea] | rw [eb] | rw [hsab]), f10, f11, fun _ => (by first | rfl | rw [ea] | rw [eb] | rw [hsab])⟩, fun h => absurd h (by simp [Go.Pm.mark]), fun _ => .inr ⟨rfl, hJx3⟩, fun h => (n14 h).elim, fun h => (n15 h).elim⟩
          | 14, _ =>
            obtain ⟨t10, t11, t12, t13, t14, t15, t16, t17, t18, t19, t20, t21, t22, t23, t24, t25, rfl, hcl, ⟨f0, f1, f2, f3, f4, f5, f6, f7, f8, f9, f10, f11, f12⟩, w1, w2, w3, w4⟩ := hΦ
            have e13 : s 13 = true := hdep _ rfl { on := 13, ground := .data } (by simp) rfl
            have e7 : s 7 = true := hdep _ rfl { on := 7, ground := .guard } (by simp) rfl
            have q7 := f7 e7
            subst q7
            obtain ⟨t, ht⟩ : ∃ t, t23 = .bool t := by
              rcases w2 e13 with h | h
              · exact ⟨_, h.1⟩
              · exact ⟨_, h.1⟩
            subst ht
            unfold actO
            simp only [wpOpIn]
            go_simp
            exact ⟨_, _, _, _, _, _, _, _, _, _, _, _, _, _, _, _, rfl, hcl.mark 14 (by intro d hdm; simp [depO] at hdm; rcases hdm with rfl | rfl <;> assumption), ⟨f0, f1, f2, f3, f4, f5, f6, fun _ => (by first | rfl | rw [ea] | rw [eb] | rw [hsab]), f8, f9, f10, f11, f12⟩, w1, w2, fun _ => ⟨t, rfl, rfl⟩, w4⟩
          | 15, _ =>
            obtain ⟨t10, t11, t12, t13, t14, t15, t16, t17, t18, t19, t20, t21, t22, t23, t24, t25, rfl, hcl, ⟨f0, f1, f2, f3, f4, f5, f6, f7, f8, f9, f10, f11, f12⟩, w1, w2, w3, w4⟩ := hΦ
            have e7 : s 7 = true := hdep _ rfl { on := 7, ground := .data } (by simp) rfl
            have e14 : s 14 = true := hdep _ rfl { on := 14, ground := .data } (by simp) rfl
            have q7 := f7 e7
            subst q7
            obtain ⟨t, ht1, ht2⟩ := w3 e14
            subst ht1
            subst ht2
            unfold actO
            simp only [wpOpIn]
            go_simp
            exact ⟨_, _, _, _, _, _, _, _, _, _, _, _, _, _, _, _, rfl, hcl.mark 15 (by intro d hdm; simp [depO] at hdm; rcases hdm with rfl | rfl <;> assumption), ⟨f0, f1, f2, f3, f4, f5, f6, fun _ => (by first | rfl | rw [ea] | rw [eb] | rw [hsab]), f8, f9, f10, f11, f12⟩, w1, w2, w3, fun _ => ⟨t, rfl, rfl⟩⟩
          | j + 16, hj => exact absurd hj (by simp)
        case hend =>
          rintro s A V hall ⟨t10, t11, t12, t13, t14, t15, t16, t17, t18, t19, t20, t21, t22, t23, t24, t25, rfl, hcl, hf, w1, w2, w3, w4⟩
          unfold actO
          obtain ⟨t, ht1, ht2⟩ := w4 (hall 15 (by simp))
          subst ht1
          subst ht2
          rcases w2 (hall 13 (by simp)) with ⟨hb, hJ3⟩ | ⟨hb, hJx3⟩
          · cases hb
            gi_wp2
            go_roundw
            case rel => exact ⟨k + 1, by omega, by simp, by rw [cnt_succ, if_pos hd]; exact hJ3⟩
            case measure => simp [intOf]; omega
          · cases hb
            gi_wp2
            refine bodyPost_ret (results_none rfl _ _ _) rfl ?_
            exact ⟨⟨_, rfl⟩, .inr ⟨k, by omega, hd, hJx3⟩⟩
        case h0 =>
          have hfl : ∀ j, j < 16 → (Array.replicate 16 false).getD j true = false := fun j hj => by simp [Array.getD, hj]
          refine ⟨u10, u11, u12, u13, u14, u15, u16, u17, u18, u19, u20, u21, u22, u23, u24, u25, ?_, ?_, ⟨fun h => absurd h (by simp), fun h => absurd h (by simp), fun h => absurd h (by simp), fun h => absurd h (by simp), fun h => absurd h (by simp), fun h => absurd h (by simp), fun h => absurd h (by simp), fun h => absurd h (by simp), fun h => absurd h (by simp), fun h => absurd h (by simp), fun h => absurd h (by simp), fun h => absurd h (by simp), fun h => absurd h (by simp)⟩, fun _ => hJd, fun h => absurd h (by simp), fun h => absurd h (by simp), fun h => absurd h (by simp)⟩
          · first | rfl | (unfold actO; rw [decide_eq_true hltb])
          · intro j hj hs; exact absurd (hs.symm.trans (hfl j hj)) (by simp)
      · have hd1 : (a[k]!).toNat = (b[k]!).toNat := by simpa [difB] using hd
        gi_wp2
        have hd2 : ((a[k].toNat : Int) != (b[k].toNat : Int)) = false := by rw [ea, eb] at hd1; simp [hd1]
        refine wpIn_region_quiet_lit rfl (by assumption) (by kernel_rfl) ?_
        repeat (gi_big_quiet_step (skip))
        refine ⟨fun _ _ _ _ => trivial, ?_⟩
        rw [if_neg (by simp [Region.wanted, yielded])]
        go_simp
        repeat (gi_big_quiet_step (skip))
        refine wpQuietIn_nil ?_
        intro nq
        have hJq : J (cntB a b k) (wr.drewN nq) := drewN_ok (hJ := fun W h => (hJ _ W h).2.2) nq hJs
        gi_wp2
        go_roundw
        case rel => exact ⟨k + 1, by omega, by simp, by rw [cnt_succ, if_neg hd]; exact hJq⟩
        case measure => simp [intOf]; omega
    · obtain rfl : k = a.size := by omega
      gi_wp2
      go_end0
      exact ⟨⟨_, rfl⟩, .inl hJs⟩
end Go.Proofs.YtdcoomeagbjhlaaDoor.Ca
