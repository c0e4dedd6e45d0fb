/- The machine of plain values: loops that walk over a map. By the prover of this seat. The machine of plain values: a map's entries in another order; keys in their bounds. By the prover of this seat. The machine of plain values: maps as lists of rows; walks over them. By the prover of this seat. The machine of plain values: rows of elements as slices, for short. By the prover of this seat. -/
import Derived.Test.YtcnlgdbmcdlknaaPmD
set_option linter.unusedVariables false
namespace Go.Pm
open Go Go.RowKit
/-- a body without the first operation of its first region -/
def cutN : Code → Code
  | .seq a b => .seq (cutN a) b
  | .region id ops false => .region id (ops.toList.drop 1).toArray false
  | c => c
/-- that operation, where none of the region is guarded -/
def headN : Code → Option Oper
  | .seq a _ => headN a
  | .region _ ops false => if ops.toList.all (fun o => o.guard.isNone) then ops.toList.head? else none
  | _ => none
/-- from st1, behind the step, the rest of the round comes to st' -/
def TriN (C : Cx) (c : Code) (st1 : St) (e : Ex) (st' : St) : Prop := ∃ hs f ps, runF C hs f (cutN c) st1 = some (e, st', ps) ∧ allP ps
theorem runN_ok {C : Cx} {hs : Nat → Nat → Hint} {f : Fg} {c : Code} {st1 st' : St} {e : Ex} {ps : List Prop} (h : runF C hs f (cutN c) st1 = some (e, st', ps)) (hp : allP ps) : TriN C c st1 e st' := ⟨hs, f, ps, h, hp⟩
section
variable {w0 : World}
theorem wpList_any {P : Program} {ops1 ops2 : Array Oper} {Q : Exit → Act → World → Prop} : ∀ rest : List Oper, (∀ o ∈ rest, o.guard = none) → wpList P ops1 Q rest = wpList P ops2 Q rest
  | [], _ => rfl
  | o :: rest, h => by
    have ih := wpList_any (P := P) (ops1 := ops1) (ops2 := ops2) (Q := Q) rest fun o ho => h o (List.mem_cons_of_mem _ ho)
    have hg := h o (List.mem_cons_self ..)
    funext a w
    simp only [wpList, Region.wanted, hg, ih]
theorem next_spine {C : Cx} {hs : Nat → Nat → Hint} : ∀ (c : Code) (n : Oper) (st1 st' : St) (e : Ex) (ps : List Prop), headN c = some n → runH C (cutN c) hs st1 = some (e, st', ps) → allP ps → ∀ (ρ : Nm) (M : Mem) (a : Act) (W : World),
    (∀ (next : Act → World → Prop) (Q : Exit → Act → World → Prop), (∀ a' W', Rel C w0 ρ M st1 a' W' → next a' W') → n.wp C.P a W next Q) → c.wp C.P (After C w0 ρ M e st') a W := by
  intro c
  induction c with
  | seq x y ihx ihy =>
    intro n st1 st' e ps hn h hp ρ M a W hN
    simp only [headN] at hn
    simp only [cutN, runH] at h
    split at h
    · rename_i st2 p1 hr1
      split at h
      · rename_i e2 st3 p2 hr2
        cases h
        obtain ⟨hp1, hp2⟩ := allP_append hp
        refine wp_seq (Code.wp_mono (fun e' a' W' h => ?_) (ihx n st1 st2 .normal p1 hn hr1 hp1 ρ M a W hN))
        obtain ⟨rfl, ρ1, M1, q1, q2, q3, q4⟩ := h
        show y.wp C.P _ a' W'
        refine Code.wp_mono (fun e2 a2 W2 h => ?_) (run_ok y _ _ _ _ hr2 hp2 w0 ρ1 M1 a' W' q4)
        exact After.step (C := C) q1 q2 q3 h
      · cases h
    · rename_i hne
      refine wp_seq (Code.wp_mono (fun e' a' W' hh => ?_) (ihx n st1 st' e ps hn h hp ρ M a W hN))
      have he := hh.1
      subst he
      cases e with
      | normal => exact absurd h (by intro q; exact hne _ _ q)
      | exit n => exact hh
      | ret => exact hh
  | region id ops draw =>
    intro n st1 st' e ps hn h hp ρ M a W hN
    cases draw with
    | true => simp [headN] at hn
    | false =>
      simp only [headN] at hn
      split at hn
      · rename_i hg
        obtain ⟨rest, hops⟩ : ∃ rest, ops.toList = n :: rest := by
          cases hl : ops.toList with
          | nil => rw [hl] at hn; simp at hn
          | cons o r => rw [hl] at hn; simp at hn; subst hn; exact ⟨r, rfl⟩
        have hgs : ∀ o ∈ ops.toList, o.guard = none := fun o ho => by
          have := List.all_eq_true.1 hg o ho
          simpa using this
        simp only [cutN, hops, List.drop_succ_cons, List.drop_zero] at h
        unfold runH at h
        cases hq : thAll (hs id frzKey).frz st1 with
        | mk st0 ps0 =>
        rw [hq] at h
        dsimp only at h
        split at h
        · rename_i t A es ps' htr
          split at h
          · cases h
            obtain ⟨hp0, hp1⟩ := allP_append hp
            refine wp_region_list ?_
            rw [hops]
            unfold wpList
            have hn0 : n.guard = none := hgs n (by rw [hops]; simp)
            rw [if_pos (by simp [Region.wanted, hn0])]
            refine .inl (hN _ _ fun a' W' hR1 => ?_)
            obtain ⟨M1, m1, m2, hR⟩ := thAll_ok _ hq hp0 hR1
            have fin : ∀ ρ' M' a' W', M1.le M' → ρ.le ρ' → Fresh M1 M' w0.heap.size → Rel C w0 ρ' M' ⟨t, A⟩ a' W' → After C w0 ρ M .normal ⟨t, A⟩ .normal a' W' := fun ρ' M' a' W' q1 q2 q3 q4 => ⟨rfl, ρ', M', m1.trans q1, fun i _ x hx => q2 i x hx, m2.trans q3, q4⟩
            have := tr_ok (Q := After C w0 ρ M .normal ⟨t, A⟩) rest 0 st0.t st0.h t A es _ (by simpa using htr) hp1 ρ M1 a' W' hR fin
            rw [wpList_any rest (fun o ho => hgs o (by rw [hops]; simp [ho]))]
            exact this
          · cases h
        · cases h
      · cases hn
  | _ => intro n st1 st' e ps hn; simp [headN] at hn
theorem next_round {C : Cx} {c : Code} {n : Oper} {st1 st' : St} {e : Ex} (hn : headN c = some n) (h : TriN C c st1 e st') {ρ : Nm} {M : Mem} {a : Act} {W : World}
    (hN : ∀ (next : Act → World → Prop) (Q : Exit → Act → World → Prop), (∀ ρ' : Nm, ρ' = ρ → ∀ a' W', Rel C w0 ρ' M st1 a' W' → next a' W') → n.wp C.P a W next Q) : c.wp C.P (After C w0 ρ M e st') a W := by
  obtain ⟨hs, f, ps, hr, hp⟩ := h
  unfold runF at hr
  split at hr
  · rename_i e1 st2 ps1 hr1
    cases hr
    obtain ⟨h1, h2⟩ := allP_append hp
    refine Code.wp_mono (fun x a' W' hx => ?_) (next_spine c n st1 st2 _ ps1 hn hr1 h1 ρ M a W fun next Q hq => hN next Q fun ρ' e => by subst e; exact hq)
    obtain ⟨q0, ρ', M', q1, q2, q3, q4⟩ := hx
    obtain ⟨ρ1, hk, hR1⟩ := forget_ok q4 h2
    exact ⟨q0, ρ1, M', q1, fun i hi x hx => hk i hi x (q2 i hi x hx), q3, hR1⟩
  · cases hr
theorem next_op {C : Cx} {n : Oper} {it : Tmp} {t : List AV} {A : List Bk} {b : Nat} {cur left : List (AV × AV)} (hop : n.op = .next (.tmp it) false) (hit : t[it]? = some (.ptr b 0)) (hb : A[b]? = some (.iter cur left)) {ρ : Nm} {M : Mem} {a : Act} {W : World} (hR : Rel C w0 ρ M ⟨t, A⟩ a W) :
    (left = [] ∧ ∀ (next : Act → World → Prop) (Q : Exit → Act → World → Prop), (∀ a' W', Rel C w0 ρ M ⟨putT t n.dst (.tup [.s (.bool false)]), A⟩ a' W' → next a' W') → n.wp C.P a W next Q) ∨
    ∃ (k v : AV) (rest : List (AV × AV)), left.Perm ((k, v) :: rest) ∧ ∀ (next : Act → World → Prop) (Q : Exit → Act → World → Prop), (∀ a' W', Rel C w0 ρ M ⟨putT t n.dst (.tup [.s (.bool true), k, v]), putB A (b, .iter [(k, v)] rest)⟩ a' W' → next a' W') → n.wp C.P a W next Q := by
  obtain ⟨xv, hxv, hv⟩ := hR.slots.get hit
  have hev : a.eval (.tmp it) = xv := by
    have : a.tmps[it]? = some xv := by simpa using hxv
    simp [Act.eval, Array.getD_eq_getD_getElem?, this]
  have hex : execOp a.eval n = (do pure (.value (← Instr.next xv false n.type))) := by
    unfold execOp
    rw [hop]
    simp only [hev]
  rcases next_ok (P := C.P) hR.wr hb hv n.type with ⟨h1, h2⟩ | ⟨k, v, rest, kv, vv, W', h1, h2, h3, h4, h5⟩
  · refine .inl ⟨h1, fun next Q hq => ?_⟩
    unfold Oper.wp
    rw [hex]
    simp only [Sem.run_bind, h2, Result.andThen_ok, Sem.run_pure]
    rw [Oper.upon_value]
    refine hq _ _ ⟨put_slots hR.slots n.dst (.mkTup (vs := [.bool false]) (L2.cons (.s _ _) L2.nil)), hR.wr, hR.glob, hR.keep, by rw [put_defers]; exact hR.defers⟩
  · refine .inr ⟨k, v, rest, h1, fun next Q hq => ?_⟩
    unfold Oper.wp
    rw [hex]
    simp only [Sem.run_bind, h2, Result.andThen_ok, Sem.run_pure]
    rw [Oper.upon_value]
    refine hq _ _ ⟨put_slots hR.slots n.dst (.mkTup (vs := [.bool true, kv, vv]) (L2.cons (.s _ _) (L2.cons (h3.mono (Mem.le.refl M) (Nm.none_le ρ)) (L2.cons (h4.mono (Mem.le.refl M) (Nm.none_le ρ)) L2.nil)))), h5, hR.glob, Nat.le_trans hR.keep (by rw [len_putB]; simp only; omega), by rw [put_defers]; exact hR.defers⟩
theorem putB_putB {A : List Bk} {b : Nat} (hb : b < A.length) (x y : Bk) : putB (putB A (b, x)) (b, y) = putB A (b, y) := by
  refine List.ext_getElem? fun i => ?_
  have hl : (putB A (b, x)).length = A.length := by rw [len_putB]; simp only; omega
  rw [get_putB (putB A (b, x)) b y, get_putB A b y, get_putB A b x, hl]
  by_cases hi : i = b
  · simp [hi]
  · simp only [if_neg hi]
    by_cases h2 : i < A.length
    · simp [h2]
    · simp only [if_neg h2]
/-- a loop that walks over a map, in whatever order -/
theorem LoopT.range {C : Cx} {c : Code} {n : Oper} {it : Tmp} {b : Nat} (hn : headN c = some n) (hop : n.op = .next (.tmp it) false) (es : List (AV × AV)) (T : List (AV × AV) → List AV) (A : List (AV × AV) → List Bk) {e : Ex} (hne : e ≠ .normal) {st' : St} (E : List (AV × AV) → St)
    (hit : ∀ done, (T done)[it]? = some (.ptr b 0)) (hb : ∀ done, b < (A done).length)
    (hstep : ∀ (done : List (AV × AV)) (k v : AV) (rest : List (AV × AV)), (done ++ (k, v) :: rest).Perm es → TriN C c ⟨putT (T done) n.dst (.tup [.s (.bool true), k, v]), putB (A done) (b, .iter [(k, v)] rest)⟩ .normal ⟨T (done ++ [(k, v)]), putB (A (done ++ [(k, v)])) (b, .iter [(k, v)] rest)⟩)
    (hfin : ∀ (done cur : List (AV × AV)), done.Perm es → TriN C c ⟨putT (T done) n.dst (.tup [.s (.bool false)]), putB (A done) (b, .iter cur [])⟩ e (E done))
    (hE : ∀ (done : List (AV × AV)), done.Perm es → ∀ (w0 : World) ρ M a W, Rel C w0 ρ M (E done) a W → Rel C w0 ρ M st' a W) :
    ∀ (m : Nat) (done cur left : List (AV × AV)), left.length = m → (done ++ left).Perm es → LoopT C c ⟨T done, putB (A done) (b, .iter cur left)⟩ e st' := by
  intro m
  induction m with
  | zero =>
    intro done cur left hm hp w0 ρ M a W hR fr k cs
    obtain rfl := List.length_eq_zero_iff.1 hm
    rw [List.append_nil] at hp
    rcases next_op hop (hit done) (by rw [get_putB, if_pos rfl]) hR with ⟨_, h2⟩ | ⟨_, _, _, h1, _⟩
    · obtain ⟨x, a1, W1, hq, harr⟩ := next_round hn (hfin done cur hp) (fun next Q hq => h2 next Q (hq ρ rfl)) fr (.inLoop c :: k) cs
      obtain ⟨rfl, ρ', M', q1, q2, q3, q4⟩ := hq
      refine ⟨_, a1, W1, ⟨rfl, ρ', M', q1, q2, q3, hE done hp _ _ _ _ _ q4⟩, ?_⟩
      cases e with
      | normal => exact absurd rfl hne
      | exit n => exact .pass (x := .inLoop c) rfl (fun _ _ => .inl (by simp [Ex.to])) harr
      | ret => exact .pass (x := .inLoop c) rfl (fun _ _ => .inl (by simp [Ex.to])) harr
    · have := h1.length_eq; simp at this
  | succ m ih =>
    intro done cur left hm hp w0 ρ M a W hR fr k cs
    rcases next_op hop (hit done) (by rw [get_putB, if_pos rfl]) hR with ⟨h1, _⟩ | ⟨kk, vv, rest, h1, h2⟩
    · rw [h1] at hm; simp at hm
    · have hlen : rest.length = m := by have := h1.length_eq; simp at this; omega
      have hp2 : (done ++ (kk, vv) :: rest).Perm es := (h1.symm.append_left done).trans hp
      obtain ⟨x, a1, W1, hq, harr⟩ := next_round hn (hstep done kk vv rest hp2) (fun next Q hq => h2 next Q (by rw [putB_putB (hb done)]; exact hq ρ rfl)) fr (.inLoop c :: k) cs
      obtain ⟨rfl, ρ1, M1, q1, q2, q3, q4⟩ := hq
      obtain ⟨x2, a2, W2, hq2, harr2⟩ := ih (done ++ [(kk, vv)]) [(kk, vv)] rest hlen (by rw [List.append_assoc]; exact hp2) w0 ρ1 M1 a1 W1 q4 fr k cs
      exact ⟨x2, a2, W2, After.step (C := C) q1 q2 q3 hq2, .of_steps (Steps.trans harr (.one step_inLoop)) harr2⟩
end
end Go.Pm

set_option linter.unusedVariables false
namespace Go.Pm
open Go Go.RowKit
section
variable {w0 W : World} {ρ : Nm} {M : Mem} {H : List Bk}
/-- a state with a map's entries in another order -/
theorem Rel.perm {C : Cx} {t : List AV} {A : List Bk} {a : Act} {i : Nat} {es es' : List (AV × AV)} {fz : Bool} (h : Rel C w0 ρ M ⟨t, A⟩ a W) (hA : A[i]? = some (.map es fz)) (hp : es.Perm es') : Rel C w0 ρ M ⟨t, A.set i (.map es' fz)⟩ a W :=
  ⟨h.slots, h.wr.perm hA hp, h.glob, by rw [List.length_set]; exact h.keep, h.defers⟩
theorem kwf_int {P : Program} {k : TypeId} {q : IntKind} (hk : P.underlying k = some (.int q)) {n : Int} (h : (Lit.int q n).wf = true) : kwf P k (.s (.int q n)) = true := by
  simp [kwf, plainK, valOf, Go.Maps.keyOf_int_mk hk h]
end
end Go.Pm

set_option linter.unusedVariables false
namespace Go.Pm
open Go Go.RowKit
theorem perm_map_inv {α β : Type} {f : α → β} {a b : List β} (h : a.Perm b) : ∀ {S : List α}, a = S.map f → ∃ S', S.Perm S' ∧ b = S'.map f := by
  induction h with
  | nil => intro S e; exact ⟨S, List.Perm.refl _, e⟩
  | cons x _ ih =>
    intro S e
    cases S with
    | nil => cases e
    | cons s S =>
      rw [List.map_cons] at e
      injection e with e1 e2
      obtain ⟨S', p, q⟩ := ih e2
      exact ⟨s :: S', p.cons s, by rw [List.map_cons, e1, q]⟩
  | swap x y l =>
    intro S e
    match S, e with
    | s :: t :: S, e =>
      rw [List.map_cons, List.map_cons] at e
      injection e with e1 e2
      injection e2 with e2 e3
      exact ⟨t :: s :: S, List.Perm.swap _ _ _, by rw [List.map_cons, List.map_cons, e1, e2, e3]⟩
  | trans _ _ ih1 ih2 =>
    intro S e
    obtain ⟨S1, p1, q1⟩ := ih1 e
    obtain ⟨S2, p2, q2⟩ := ih2 q1
    exact ⟨S2, p1.trans p2, q2⟩
/-- a loop that walks over a map, in whatever order -/
theorem LoopT.rangeM {C : Cx} {c : Code} {n : Oper} {it : Tmp} {b : Nat} {α : Type} (row : α → AV × AV) (hn : headN c = some n) (hop : n.op = .next (.tmp it) false) (S : List α) (T : List α → List AV) (A : List α → List Bk) {e : Ex} (hne : e ≠ .normal) {st' : St} (E : List α → St)
    (hit : ∀ D, (T D)[it]? = some (.ptr b 0)) (hb : ∀ D, b < (A D).length)
    (hstep : ∀ (D : List α) (x : α) (R : List α), (D ++ x :: R).Perm S → TriN C c ⟨putT (T D) n.dst (.tup [.s (.bool true), (row x).1, (row x).2]), putB (A D) (b, .iter [((row x).1, (row x).2)] (R.map row))⟩ .normal ⟨T (D ++ [x]), putB (A (D ++ [x])) (b, .iter [((row x).1, (row x).2)] (R.map row))⟩)
    (hfin : ∀ (D : List α) (cur : List (AV × AV)), D.Perm S → TriN C c ⟨putT (T D) n.dst (.tup [.s (.bool false)]), putB (A D) (b, .iter cur [])⟩ e (E D))
    (hE : ∀ D, D.Perm S → ∀ (w0 : World) ρ M a W, Rel C w0 ρ M (E D) a W → Rel C w0 ρ M st' a W) :
    ∀ (m : Nat) (D L : List α) (cur : List (AV × AV)), L.length = m → (D ++ L).Perm S → LoopT C c ⟨T D, putB (A D) (b, .iter cur (L.map row))⟩ e st' := by
  intro m
  induction m with
  | zero =>
    intro D L cur hm hp w0 ρ M a W hR fr k cs
    obtain rfl := List.length_eq_zero_iff.1 hm
    rw [List.append_nil] at hp
    rcases next_op hop (hit D) (by rw [get_putB, if_pos rfl]) hR with ⟨_, h2⟩ | ⟨_, _, _, h1, _⟩
    · obtain ⟨x, a1, W1, hq, harr⟩ := next_round hn (hfin D cur hp) (fun next Q hq => h2 next Q (hq ρ rfl)) fr (.inLoop c :: k) cs
      obtain ⟨rfl, ρ', M', q1, q2, q3, q4⟩ := hq
      refine ⟨_, a1, W1, ⟨rfl, ρ', M', q1, q2, q3, hE D hp _ _ _ _ _ q4⟩, ?_⟩
      cases e with
      | normal => exact absurd rfl hne
      | exit n => exact .pass (x := .inLoop c) rfl (fun _ _ => .inl (by simp [Ex.to])) harr
      | ret => exact .pass (x := .inLoop c) rfl (fun _ _ => .inl (by simp [Ex.to])) harr
    · have := h1.length_eq; simp at this
  | succ m ih =>
    intro D L cur hm hp w0 ρ M a W hR fr k cs
    rcases next_op hop (hit D) (by rw [get_putB, if_pos rfl]) hR with ⟨h1, _⟩ | ⟨kk, vv, rest, h1, h2⟩
    · have := congrArg List.length h1; rw [List.length_map, hm] at this; simp at this
    · obtain ⟨L', p1, p2⟩ := perm_map_inv h1 rfl
      cases L' with
      | nil => cases p2
      | cons x R =>
        rw [List.map_cons] at p2
        injection p2 with e1 e2
        subst e2
        have ek : kk = (row x).1 := by rw [← e1]
        have ev : vv = (row x).2 := by rw [← e1]
        subst ek ev
        have hlen : R.length = m := by have := p1.length_eq; simp at this; omega
        have hp2 : (D ++ x :: R).Perm S := (p1.symm.append_left D).trans hp
        obtain ⟨y, a1, W1, hq, harr⟩ := next_round hn (hstep D x R hp2) (fun next Q hq => h2 next Q (by rw [putB_putB (hb D)]; exact hq ρ rfl)) fr (.inLoop c :: k) cs
        obtain ⟨rfl, ρ1, M1, q1, q2, q3, q4⟩ := hq
        obtain ⟨x2, a2, W2, hq2, harr2⟩ := ih (D ++ [x]) R [((row x).1, (row x).2)] hlen (by rw [List.append_assoc]; exact hp2) w0 ρ1 M1 a1 W1 q4 fr k cs
        exact ⟨x2, a2, W2, After.step (C := C) q1 q2 q3 hq2, .of_steps (Steps.trans harr (.one step_inLoop)) harr2⟩
/-! rows with keys -/
def KeyEq {K : Type} [DecidableEq K] (ek : K → AV) : Prop := ∀ a b, keyB (ek a) (ek b) = decide (a = b)
theorem keyEq_int (q : IntKind) : KeyEq fun n : Int => AV.s (.int q n) := by
  intro a b
  show (eqS (.int q a) (.int q b)).getD false = _
  simp only [eqS, if_pos, Option.getD_some]
  exact Bool.beq_eq_decide_eq ..
theorem keyEq_str : KeyEq fun n : ByteArray => AV.s (.string n) := by
  intro a b
  show (eqS (.string a) (.string b)).getD false = _
  simp only [eqS, Option.getD_some]
  by_cases h : a = b
  · rw [h, beq_self_eq_true, decide_eq_true rfl]
  · rw [decide_eq_false h, beq_eq_false_iff_ne.2 fun e => h (toList_inj.1 e)]
theorem keyEq_two (q q' : IntKind) : KeyEq fun n : Int × Int => AV.agg [AV.s (.int q n.1), AV.s (.int q' n.2)] := by
  intro a b
  show (eqL [AV.s (.int q a.1), AV.s (.int q' a.2)] [AV.s (.int q b.1), AV.s (.int q' b.2)]).getD false = _
  obtain ⟨a1, a2⟩ := a
  obtain ⟨b1, b2⟩ := b
  by_cases h1 : a1 = b1 <;> by_cases h2 : a2 = b2 <;> simp [eqL, eqS, h1, h2]
section
variable {α K : Type} [DecidableEq K] (key : α → K) (ek : K → AV) (ev : α → AV)
/-- an entry -/
def rowM (x : α) : AV × AV := (ek (key x), ev x)
def keysApart (l : List α) : Prop := l.Pairwise fun x y => key x ≠ key y
def findM (l : List α) (k : K) : Option α := l.find? fun x => decide (key x = k)
/-- all but the one of a key -/
def dropM (l : List α) (k : K) : List α := l.filter fun y => !decide (key y = k)
def putM (l : List α) (x : α) : List α := dropM key l (key x) ++ [x]
variable {key ek ev}
theorem mfind_row (h : KeyEq ek) (l : List α) (k : K) : mfind (l.map (rowM key ek ev)) (ek k) = (findM key l k).map ev := by
  unfold mfind findM
  induction l with
  | nil => rfl
  | cons x l ih =>
    rw [List.map_cons, List.find?_cons, List.find?_cons]
    show Option.map _ (match keyB (ek (key x)) (ek k) with | true => _ | false => _) = _
    rw [h (key x) k]
    by_cases hx : key x = k
    · simp [hx, rowM]
    · simp only [hx, decide_false]
      exact ih
theorem mdel_row (h : KeyEq ek) {l : List α} (hl : keysApart key l) (k : K) : mdel (l.map (rowM key ek ev)) (ek k) = (dropM key l k).map (rowM key ek ev) := by
  unfold mdel dropM
  induction l with
  | nil => rfl
  | cons x l ih =>
    obtain ⟨h1, h2⟩ := List.pairwise_cons.1 hl
    have hk : keyB (rowM key ek ev x).1 (ek k) = decide (key x = k) := h (key x) k
    rw [List.map_cons, List.eraseP_cons, hk, List.filter_cons]
    by_cases hx : key x = k
    · subst hx
      have : l.filter (fun y => !decide (key y = key x)) = l := List.filter_eq_self.2 fun y hy => by simp [Ne.symm (h1 y hy)]
      simp [this]
    · simp only [hx, decide_false, Bool.not_false, if_true, cond_false, List.map_cons]
      rw [ih h2]
theorem mput_fresh (h : KeyEq ek) {l : List α} {x : α} (hx : ∀ y ∈ l, key y ≠ key x) : mput (l.map (rowM key ek ev)) (ek (key x)) (ev x) = (l ++ [x]).map (rowM key ek ev) := by
  rw [mput_none fun i p hp => ?_, List.map_append]
  · rfl
  · rw [List.getElem?_map, Option.map_eq_some_iff] at hp
    obtain ⟨y, hy, rfl⟩ := hp
    show keyB (ek (key y)) (ek (key x)) = false
    rw [h, decide_eq_false (hx y (List.mem_of_getElem? hy))]
theorem dropM_none {l : List α} {k : K} (hx : ∀ y ∈ l, key y ≠ k) : dropM key l k = l := List.filter_eq_self.2 fun y hy => by simp [hx y hy]
theorem mput_row (h : KeyEq ek) {l : List α} (hl : keysApart key l) (x : α) : (mput (l.map (rowM key ek ev)) (ek (key x)) (ev x)).Perm ((putM key l x).map (rowM key ek ev)) := by
  induction l with
  | nil => exact List.Perm.refl _
  | cons y l ih =>
    obtain ⟨h1, h2⟩ := List.pairwise_cons.1 hl
    have hk : keyB (rowM key ek ev y).1 (ek (key x)) = decide (key y = key x) := h (key y) (key x)
    rw [List.map_cons, mput, hk]
    by_cases hx : key y = key x
    · rw [if_pos (decide_eq_true hx), putM, dropM, List.filter_cons, if_neg (by simp [hx])]
      have : l.filter (fun z => !decide (key z = key x)) = l := List.filter_eq_self.2 fun z hz => by
        have := h1 z hz
        rw [hx] at this
        simp [Ne.symm this]
      rw [this, List.map_append]
      exact (List.perm_append_comm (l₁ := [rowM key ek ev x]) (l₂ := l.map (rowM key ek ev)))
    · rw [if_neg (by simp [hx]), putM, dropM, List.filter_cons, if_pos (by simp [hx]), List.cons_append, List.map_cons]
      exact (ih h2).cons _
theorem apart_drop {l : List α} (hl : keysApart key l) (k : K) : keysApart key (dropM key l k) := hl.sublist List.filter_sublist
theorem mem_dropM {l : List α} {k : K} {y : α} : y ∈ dropM key l k ↔ y ∈ l ∧ key y ≠ k := by simp [dropM]
theorem apart_put {l : List α} (hl : keysApart key l) (x : α) : keysApart key (putM key l x) := by
  refine List.pairwise_append.2 ⟨apart_drop hl _, List.pairwise_singleton .., fun a ha b hb => ?_⟩
  rw [List.mem_singleton] at hb
  subst hb
  exact (mem_dropM.1 ha).2
theorem find_put {l : List α} (x : α) (k : K) : findM key (putM key l x) k = if key x = k then some x else findM key l k := by
  unfold findM putM
  rw [List.find?_append]
  by_cases h : key x = k
  · subst h
    have : (dropM key l (key x)).find? (fun y => decide (key y = key x)) = none := List.find?_eq_none.2 fun y hy => by simp [(mem_dropM.1 hy).2]
    simp [this]
  · have e : (dropM key l (key x)).find? (fun y => decide (key y = k)) = l.find? (fun y => decide (key y = k)) := by
      induction l with
      | nil => rfl
      | cons y l ih =>
        unfold dropM at ih ⊢
        rw [List.filter_cons]
        by_cases hy : key y = key x
        · rw [if_neg (by simp [hy]), ih, List.find?_cons]
          have : decide (key y = k) = false := decide_eq_false (by rw [hy]; exact h)
          rw [this]
        · rw [if_pos (by simp [hy]), List.find?_cons, List.find?_cons, ih]
    rw [e]
    simp [h]
theorem find_mem {l : List α} {k : K} {x : α} (h : findM key l k = some x) : x ∈ l ∧ key x = k := ⟨List.mem_of_find?_eq_some h, by simpa using List.find?_some h⟩
theorem find_none {l : List α} {k : K} (h : findM key l k = none) : ∀ y ∈ l, key y ≠ k := fun y hy => by simpa using List.find?_eq_none.1 h y hy
theorem find_of_mem {l : List α} (hl : keysApart key l) {x : α} (hx : x ∈ l) : findM key l (key x) = some x := by
  cases h : findM key l (key x) with
  | none => exact absurd rfl (find_none h x hx)
  | some y =>
    obtain ⟨h1, h2⟩ := find_mem h
    by_cases e : y = x
    · rw [e]
    · exfalso
      induction l with
      | nil => cases hx
      | cons z l ih =>
        obtain ⟨p1, p2⟩ := List.pairwise_cons.1 hl
        rcases List.mem_cons.1 hx with rfl | hx'
        · rcases List.mem_cons.1 h1 with rfl | h1'
          · exact e rfl
          · exact p1 y h1' h2.symm
        · rcases List.mem_cons.1 h1 with rfl | h1'
          · exact p1 x hx' h2
          · refine ih p2 hx' ?_ h1'
            unfold findM at h ⊢
            rw [List.find?_cons] at h
            have : decide (key z = key x) = false := decide_eq_false (p1 x hx')
            rwa [this] at h
end
section
variable {α K : Type} {key : α → K} {ek : K → AV} {ev : α → AV}
theorem allK_row {P : Program} {kt : TypeId} {l : List α} (h : ∀ x ∈ l, kwf P kt (ek (key x)) = true) : allK P kt (l.map (rowM key ek ev)) = true := by
  unfold allK
  rw [List.all_map]
  exact List.all_eq_true.2 fun x hx => h x hx
theorem pureB_row {l : List α} {fz : Bool} (h : ∀ x ∈ l, pureB (.map [rowM key ek ev x] fz) = true) : pureB (.map (l.map (rowM key ek ev)) fz) = true := by
  induction l with
  | nil => rfl
  | cons x l ih =>
    have h1 := h x (by simp)
    have h2 := ih fun y hy => h y (by simp [hy])
    simp only [pureB, List.all_cons, List.all_nil, List.map_cons, Bool.and_true] at h1 h2 ⊢
    rw [h1, h2]; rfl
theorem apart_perm {l l' : List α} (h : l.Perm l') (hl : keysApart key l) : keysApart key l' := (h.pairwise_iff fun {a b} q => Ne.symm q).1 hl
theorem apart_mid {D R : List α} {x : α} (h : keysApart key (D ++ x :: R)) : ∀ y ∈ D, key y ≠ key x := fun y hy => (List.pairwise_append.1 h).2.2 y hy x (by simp)
end
end Go.Pm

set_option linter.unusedVariables false
namespace Go.Pm
open Go Go.RowKit
section
variable {α : Type} {enc : α → List AV} {sz : Nat}
def slE (enc : α → List AV) (l : List α) : AV := .sl l.length (l.flatMap enc)
theorem row_pureB (hp : ∀ x, (enc x).all pureC = true) (l : List α) (n : Nat) (fz : Fz) : pureB (.arr n (l.flatMap enc) fz) = true := flat_pure hp l
theorem row_ids (hp : ∀ x, (enc x).all pureC = true) (H : List Bk) (i : Nat) (l : List α) (n : Nat) (fz : Fz) (h : H[i]? = some (.arr n (l.flatMap enc) fz)) : ([i].all fun i => (Option.map pureB H[i]?).getD false) = true := ids_one H i _ h (row_pureB hp l n fz)
theorem row_sl (he : ∀ x, (enc x).length = sz) (l : List α) (n m : Nat) (h : n = l.length) (hm : l.length * sz ≤ m) : AV.sl n (((l.flatMap enc).drop 0).take m) = slE enc l := by
  rw [List.drop_zero, flat_take1 he l m hm, h]; rfl
theorem row_snoc (l : List α) (x : α) : (l ++ [x]).flatMap enc = l.flatMap enc ++ enc x := (flat_snoc l x).symm
theorem row_take (he : ∀ x, (enc x).length = sz) (l : List α) (n : Nat) (h : l.length * sz ≤ n) : (l.flatMap enc).take n = l.flatMap enc := flat_take1 he l n h
theorem row_len (he : ∀ x, (enc x).length = sz) (l : List α) : (l.flatMap enc).length = l.length * sz := len_flat he l
theorem row_cut (he : ∀ x, (enc x).length = sz) (l : List α) (a b : Int) (h0 : 0 ≤ a) (h1 : a ≤ b) (h2 : b ≤ l.length) : AV.sl (b - a).toNat (pieceA sz a b (l.flatMap enc)) = slE enc ((l.drop a.toNat).take (b - a).toNat) := by
  have e : (b - a).toNat = ((l.drop a.toNat).take (b - a).toNat).length := by rw [List.length_take, List.length_drop]; omega
  unfold slE pieceA
  rw [← e, flat_piece he]
theorem row_from (he : ∀ x, (enc x).length = sz) (l : List α) (a : Int) (h0 : 0 ≤ a) (h1 : a ≤ l.length) : AV.sl ((l.length : Int) - a).toNat (pieceA sz a l.length (l.flatMap enc)) = slE enc (l.drop a.toNat) := by
  rw [row_cut he l a l.length h0 h1 (Int.le_refl _), List.take_of_length_le (by rw [List.length_drop]; omega)]
theorem row_to (he : ∀ x, (enc x).length = sz) (l : List α) (b : Int) (h0 : 0 ≤ b) (h1 : b ≤ l.length) : AV.sl (b - 0).toNat (pieceA sz 0 b (l.flatMap enc)) = slE enc (l.take b.toNat) := by
  rw [row_cut he l 0 b (Int.le_refl _) h0 h1]
  simp
theorem len_replZ (n : Nat) (z : List AV) : (replZ n z).length = n * z.length := by
  unfold replZ
  induction n with
  | zero => simp
  | succ n ih => rw [List.replicate_succ, List.flatten_cons, List.length_append, ih, Nat.add_mul]; omega
theorem splice_all (cs xs : List AV) (h : cs.length = xs.length) : splice cs 0 xs = xs := by
  unfold splice
  rw [List.take_zero, Nat.zero_add, List.drop_of_length_le (by omega)]
  simp
theorem row_copy (he : ∀ x, (enc x).length = sz) (l : List α) (z : List AV) (hz : z.length = sz) (n m : Nat) (hn : n = l.length) (hm : l.length * sz ≤ m) : splice (replZ n z) 0 ((l.flatMap enc).take m) = l.flatMap enc := by
  rw [row_take he l m hm]
  exact splice_all _ _ (by rw [len_replZ, hz, row_len he, hn])
end
/-- a loop that gathers: what a prefix yields -/
def gath {α β : Type} (f : α → List β) (l : List α) (k : Nat) : List β := (l.take k).flatMap f
theorem gath_zero {α β : Type} (f : α → List β) (l : List α) : gath f l 0 = [] := by simp [gath]
theorem gath_succ {α β : Type} [Inhabited α] (f : α → List β) (l : List α) (k : Nat) (hk : k < l.length) : gath f l (k + 1) = gath f l k ++ f (nth l k) := by
  unfold gath
  rw [take_nth hk, List.flatMap_append]
  simp
theorem gath_all {α β : Type} (f : α → List β) (l : List α) : gath f l l.length = l.flatMap f := by simp [gath]
/-- a loop that gathers, at most one element a round -/
theorem LoopT.gather {C : Cx} {c : Code} {e : Ex} {st' : St} {α β : Type} [Inhabited α] (S : Nat → Nat → List β → St) (f : α → List β) (l : List α) (hf : ∀ x, (f x).length ≤ 1)
    (h1 : ∀ (k m : Nat) (ks : List β), k < l.length → m = ks.length → m ≤ k → Tri C c (S k m ks) .normal (S (k + 1) (m + (f (nth l k)).length) (ks ++ f (nth l k)))) (h2 : LoopT C c (S l.length (l.flatMap f).length (l.flatMap f)) e st') : LoopT C c (S 0 0 []) e st' := by
  have hle : ∀ k, k ≤ l.length → (gath f l k).length ≤ k := by
    intro k
    induction k with
    | zero => intro _; simp [gath]
    | succ k ih =>
      intro hk
      rw [gath_succ f l k (by omega), List.length_append]
      have := ih (by omega)
      have := hf (nth l k)
      omega
  have L := LoopT.count (fun k => S k (gath f l k).length (gath f l k)) l.length (fun k hk => by
    have h := h1 k _ (gath f l k) hk rfl (hle k (by omega))
    have e := gath_succ f l k hk
    show Tri C c (S k (gath f l k).length (gath f l k)) .normal (S (k + 1) (gath f l (k + 1)).length (gath f l (k + 1)))
    rw [e, List.length_append]
    exact h) (by rw [gath_all]; exact h2) 0 (by omega)
  simp only [gath_zero, List.length_nil] at L
  exact L
/-- a loop that gathers into two rows -/
theorem LoopT.gather2 {C : Cx} {c : Code} {e : Ex} {st' : St} {α β γ : Type} [Inhabited α] (S : Nat → List β → List γ → St) (f : α → List β) (g : α → List γ) (l : List α) (hf : ∀ x, (f x).length ≤ 1) (hg : ∀ x, (g x).length ≤ 1)
    (h1 : ∀ (k : Nat) (ks : List β) (ss : List γ), k < l.length → ks.length ≤ k → ss.length ≤ k → Tri C c (S k ks ss) .normal (S (k + 1) (ks ++ f (nth l k)) (ss ++ g (nth l k)))) (h2 : LoopT C c (S l.length (l.flatMap f) (l.flatMap g)) e st') : LoopT C c (S 0 [] []) e st' := by
  have hle : ∀ {δ : Type} (f : α → List δ), (∀ x, (f x).length ≤ 1) → ∀ k, k ≤ l.length → (gath f l k).length ≤ k := by
    intro δ f hf k
    induction k with
    | zero => intro _; simp [gath]
    | succ k ih =>
      intro hk
      rw [gath_succ f l k (by omega), List.length_append]
      have := ih (by omega)
      have := hf (nth l k)
      omega
  have L := LoopT.count (fun k => S k (gath f l k) (gath g l k)) l.length (fun k hk => by
    have h := h1 k (gath f l k) (gath g l k) hk (hle f hf k (by omega)) (hle g hg k (by omega))
    show Tri C c (S k (gath f l k) (gath g l k)) .normal (S (k + 1) (gath f l (k + 1)) (gath g l (k + 1)))
    rw [gath_succ f l k hk, gath_succ g l k hk]
    exact h) (by rw [gath_all, gath_all]; exact h2) 0 (by omega)
  simp only [gath_zero] at L
  exact L
theorem nth_mem {α : Type} [Inhabited α] {l : List α} {k : Nat} (h : k < l.length) : nth l k ∈ l := by rw [nth_eq h]; exact List.getElem_mem h
/-- a function's own blocks, fewer, in another order -/
theorem Pure.forget {P : Program} {G : Nat → Option (List AV)} {f : FuncId} {args : List AV} {r r' : AV} {news news' : List Bk} (h : Pure P G f args r news) (fg : Fg) (ha : allP (fgAsk fg 0 news)) (hs : Pm.forget fg ⟨[r], news⟩ = ⟨[r'], news'⟩) : Pure P G f args r' news' := by
  refine ⟨h.1, fun w0 ρ M W vals hw hg hargs => (h.2 w0 ρ M W vals hw hg hargs).mono fun e W' hh => ?_⟩
  obtain ⟨v, ρ', M', he, q1, q2, q3, q4, q5⟩ := hh
  have hR : Rel ⟨P, G, 0⟩ w0 ρ' M' ⟨[r], news⟩ { tmps := #[v], defers := [] } W' := ⟨L2.cons q4 L2.nil, q3, fun g cs hgc => (hg g cs hgc).mono q1 (Nm.le.refl _), Nat.zero_le _, Marks.nil _⟩
  obtain ⟨ρ2, _, hR2⟩ := forget_ok hR ha
  rw [hs] at hR2
  exact ⟨v, ρ2, M', he, q1, fun i x hi => absurd (hw.dom i x hi) (by simp), hR2.wr, hR2.slots.at_ 0 r' v rfl rfl, q5⟩
end Go.Pm
