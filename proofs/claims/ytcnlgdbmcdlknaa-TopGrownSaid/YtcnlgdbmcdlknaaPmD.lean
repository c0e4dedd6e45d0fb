/- The machine of plain values: a state seen more weakly. By the prover of this seat. The machine of plain values: a walk that is reckoned is a walk; loops; a function from its body. By the prover of this seat. The machine of plain values: functions. By the prover of this seat. The machine of plain values: what a function hands back; a state seen more weakly; functions without own blocks. By the prover of this seat. The machine of plain values: a slice is nil or not. By the prover of this seat. The machine of plain values: what comes in from outside, as plain values; a law from its reckoning. By the prover of this seat. The machine of plain values: loops, for use. By the prover of this seat. The machine of plain values: a table of literals fixes its cells. By the prover of this seat. The machine of plain values: small laws that the printed walks name; rows of elements. By the prover of this seat. The machine of plain values: the first of a row; conditions said as propositions. By the prover of this seat. -/
import Derived.Test.YtcnlgdbmcdlknaaPmC
import Derived.Scope
import Derived.RangeFuncRecord
import Derived.Deep.Slices
import Derived.ChangeArms
import Derived.OpenShut
import Derived.WideShapes
import Derived.Below
import Derived.Lib.LaidTab
set_option linter.unusedVariables false
namespace Go.Pm
open Go Go.RowKit
section
variable {w0 W : World} {ρ : Nm} {M : Mem} {H : List Bk}
theorem posOf_spec : ∀ (l : List Nat) (j i : Nat), posOf l j = some i → l[i]? = some j := by
  intro l
  induction l with
  | nil => intro j i h; simp [posOf] at h
  | cons a l ih =>
    intro j i h
    unfold posOf at h
    split at h
    · rename_i e; cases h; simp [e]
    · simp only [Option.map_eq_some_iff] at h
      obtain ⟨i', h1, rfl⟩ := h
      simpa using ih j i' h1
def renN (ρ : Nm) (l : List Nat) : Nm := fun i => (l[i]?).bind ρ
theorem renN_pos {l : List Nat} {j i : Nat} (h : posOf l j = some i) : renN ρ l i = ρ j := by simp [renN, posOf_spec l j i h]
theorem reC_ok {l : List Nat} {c : AV} {v : Value} (h : VR M ρ c v) : VR M (renN ρ l) (reC l c) v := by
  cases h with
  | any => exact .any _ _
  | s => exact .s _ _
  | agg => exact .any _ _
  | tup => exact .any _ _
  | sl_e a b => exact .sl_e a b
  | sl f a b d => exact .sl f a b d
  | sx_e a => exact .sx_e a
  | sx f a b d => exact .sx f a b d
  | nsl => exact .sl_e (Nat.le_refl _) (fun _ => rfl)
  | osl_e =>
    simp only [reC]
    split
    · exact .osl_e
    · exact .any _ _
  | osl a b d =>
    simp only [reC]
    split
    · rename_i i hi; exact .osl (by rw [renN_pos hi]; exact a) b d
    · exact .any _ _
  | ptr a =>
    simp only [reC]
    split
    · rename_i i hi; exact .ptr (by rw [renN_pos hi]; exact a)
    · exact .any _ _
  | fptr_e => exact .fptr_e
  | fptr f a b => exact .fptr f a b
  | mp_e => exact .mp_e
  | mp kv pq a b c d e f => exact .mp kv pq a b c d e f
  | omp a =>
    simp only [reC]
    split
    · rename_i i hi; exact .omp (by rw [renN_pos hi]; exact a)
    · exact .any _ _
  | fn a b c d =>
    simp only [reC]
    split
    · rename_i hc
      exact VR.pure (c := .fn _ _ _) (.fn a b c d) hc _
    · exact .any _ _
theorem map_ok {l : List Nat} {f : AV → AV} (hf : ∀ c v, VR M ρ c v → VR M (renN ρ l) (f c) v) {cs : List AV} {vs : List Value} (h : L2 (VR M ρ) cs vs) : L2 (VR M (renN ρ l)) (cs.map f) vs := by
  refine ⟨by simpa using h.len, fun i c v hc hv => ?_⟩
  simp only [List.getElem?_map, Option.map_eq_some_iff] at hc
  obtain ⟨c0, hc0, rfl⟩ := hc
  exact hf _ _ (h.at_ i c0 v hc0 hv)
theorem reF_ok {l : List Nat} {c : AV} {v : Value} (h : VR M ρ c v) : VR M (renN ρ l) (reF l c) v := by
  by_cases ha : ∃ cs, c = .agg cs
  · obtain ⟨cs, rfl⟩ := ha
    obtain ⟨vs, rfl, h1, h2⟩ := h.inv_agg
    exact .mkAgg (map_ok (fun _ _ => reC_ok) h1) h2
  · have e : reF l c = reC l c := by cases c <;> first | rfl | exact absurd ⟨_, rfl⟩ ha
    rw [e]; exact reC_ok h
theorem reA_ok {l : List Nat} {c : AV} {v : Value} (h : VR M ρ c v) : VR M (renN ρ l) (reA l c) v := by
  cases h with
  | fn a b c d =>
    have h1 := map_ok (l := l) (fun _ _ => reF_ok) ⟨a, b⟩
    have h2 := map_ok (l := l) (fun _ _ => reF_ok) ⟨c, d⟩
    exact .fn h1.len h1.at_ h2.len h2.at_
  | tup a b => exact .mkTup (map_ok (fun _ _ => reF_ok) ⟨a, b⟩)
  | any => exact .any _ _
  | s => exact .s _ _
  | agg a b d => exact reF_ok (.agg a b d)
  | sl_e a b => exact .sl_e a b
  | sl f a b d => exact .sl f a b d
  | sx_e a => exact .sx_e a
  | sx f a b d => exact .sx f a b d
  | nsl => exact reF_ok .nsl
  | osl_e => exact reF_ok .osl_e
  | osl a b d => exact reF_ok (.osl a b d)
  | ptr a => exact reF_ok (.ptr a)
  | fptr_e => exact .fptr_e
  | fptr f a b => exact .fptr f a b
  | mp_e => exact .mp_e
  | mp kv pq a b c d e f => exact .mp kv pq a b c d e f
  | omp a => exact reF_ok (.omp a)
theorem slots_at (f : Fg) : ∀ (t : List AV) (i : Nat), (fgSlots f i t).length = t.length ∧ ∀ (k : Nat) c', (fgSlots f i t)[k]? = some c' → ∃ c, t[k]? = some c ∧ c' = fgSlot f (i + k) c := by
  intro t
  induction t with
  | nil => intro i; exact ⟨rfl, fun k c' h => by simp [fgSlots] at h⟩
  | cons c t ih =>
    intro i
    obtain ⟨h1, h2⟩ := ih (i + 1)
    refine ⟨by simp [fgSlots, h1], fun k c' h => ?_⟩
    cases k with
    | zero => simp [fgSlots] at h; exact ⟨c, rfl, by rw [Nat.add_zero]; exact h.symm⟩
    | succ k =>
      obtain ⟨d, d1, d2⟩ := h2 k c' (by simpa [fgSlots] using h)
      exact ⟨d, by simpa using d1, by rw [show i + (k + 1) = i + 1 + k by omega]; exact d2⟩
theorem preOk_spec : ∀ (n i : Nat) (l : List Nat), preOk i l n = true → ∀ k, k < n → l[k]? = some (i + k) := by
  intro n
  induction n with
  | zero => intro i l _ k hk; omega
  | succ n ih =>
    intro i l h k hk
    cases l with
    | nil => simp [preOk] at h
    | cons j l =>
      simp only [preOk, Bool.and_eq_true, beq_iff_eq] at h
      cases k with
      | zero => simp [h.1]
      | succ k =>
        have := ih (i + 1) l h.2 k (by omega)
        simp only [List.getElem?_cons_succ]
        rw [this]; congr 1; omega
theorem allP_mem {ps : List Prop} (h : allP ps) : ∀ p ∈ ps, p := by
  induction ps with
  | nil => intro p hp; cases hp
  | cons q ps ih =>
    intro p hp
    rcases List.mem_cons.1 hp with rfl | hp
    · exact h.1
    · exact ih h.2 p hp
theorem reCs_at (f : Fg) (j : Nat) (cs : List AV) : ∀ i, (reCs f j i cs).length = cs.length ∧ ∀ k c', (reCs f j i cs)[k]? = some c' → ∃ c, cs[k]? = some c ∧ reCg f j (i + k) c = c' := by
  induction cs with
  | nil => intro i; exact ⟨rfl, fun k c' h => by simp [reCs] at h⟩
  | cons c t ih =>
    intro i
    obtain ⟨h1, h2⟩ := ih (i + 1)
    refine ⟨by simp [reCs, h1], fun k c' h => ?_⟩
    cases k with
    | zero => simp [reCs] at h; exact ⟨c, rfl, by rw [Nat.add_zero]; exact h⟩
    | succ k =>
      obtain ⟨d, d1, d2⟩ := h2 k c' (by simpa [reCs] using h)
      exact ⟨d, by simpa using d1, by rw [show i + (k + 1) = i + 1 + k by omega]; exact d2⟩
theorem reCg_ok {f : Fg} {j i : Nat} {c : AV} {v : Value} (h : VR M ρ c v) : VR M (renN ρ f.l) (reCg f j i c) v := by
  unfold reCg
  split
  · split
    · cases h with
      | nsl => exact .osl_e
    · exact .any _ _
  · exact reC_ok h
theorem reB_ok {f : Fg} {j : Nat} {b : Nat} {s : Sz} {B : Bk} (h : BR ρ M W b s B) : BR (renN ρ f.l) M W b s (reB f j B) := by
  cases B with
  | dead => trivial
  | arr L cs fz =>
    obtain ⟨h1, h2, ⟨cur, e, fr, h3, h4, h5, h6⟩, h7⟩ := h
    obtain ⟨r1, r2⟩ := reCs_at f j cs 0
    refine ⟨by rw [r1]; exact h1, h2, ⟨cur, e, fr, h3, h4, h5, fun i c hc => ?_⟩, h7⟩
    obtain ⟨c0, hc0, rfl⟩ := r2 i c hc
    obtain ⟨u, a, b, d⟩ := h6 i c0 hc0
    exact ⟨u, a, b, reCg_ok d⟩
  | map es fz => trivial
  | iter c l => trivial
theorem keepM_ok {l : List Nat} {b : Nat} {s : Sz} {es : List (AV × AV)} {fz : Bool} (h : BR ρ M W b s (.map es fz)) (hk : es.map (fun p => (reF l p.1, reF l p.2)) = es) : BR (renN ρ l) M W b s (.map es fz) := by
  obtain ⟨⟨ents, clock, b1, bt, pq, b2, b3, b4, b5, b6⟩, b7⟩ := h
  have hat : ∀ (i : Nat) c, es[i]? = some c → reF l c.1 = c.1 ∧ reF l c.2 = c.2 := by
    intro i c hc
    have e : (es.map (fun p => (reF l p.1, reF l p.2)))[i]? = some c := by rw [hk]; exact hc
    rw [List.getElem?_map, hc] at e
    simp only [Option.map_some, Option.some.injEq] at e
    exact ⟨congrArg Prod.fst e, congrArg Prod.snd e⟩
  refine ⟨⟨ents, clock, b1, bt, pq, b2, b3, b4, fun i c v x y => ?_, fun i c v x y => ?_⟩, b7⟩
  · have := reF_ok (l := l) (b5 i c v x y); rwa [(hat i c x).1] at this
  · have := reF_ok (l := l) (b6 i c v x y); rwa [(hat i c x).2] at this
theorem forget_ok {C : Cx} {f : Fg} {st : St} {a : Act} (hR : Rel C w0 ρ M st a W) (ha : allP (fgAsk f C.keep st.h)) :
    ∃ ρ', (∀ i, i < C.keep → ∀ x, ρ i = some x → ρ' i = some x) ∧ Rel C w0 ρ' M (forget f st) a W := by
  obtain ⟨h0, hask⟩ := allP_append ha
  obtain ⟨h0, _⟩ := h0
  simp only [Bool.and_eq_true, decide_eq_true_eq] at h0
  obtain ⟨hnd, hpre⟩ := h0
  have hpre' := preOk_spec _ _ _ hpre
  have hpure : ∀ j B, j ∈ f.l → st.h[j]? = some B → f.mx.contains j = false → B.live → ∀ b s, BR ρ M W b s B → BR (renN ρ f.l) M W b s B := by
    intro j B hj hB hc hl b s hbr
    have hm := allP_mem hask
    cases B with
    | dead => exact hl.elim
    | arr L cs fz => exact hbr.pure (hm _ (List.mem_filterMap.2 ⟨j, hj, by simp only [hc, hB]; rfl⟩)) _
    | map es fz =>
      cases hk : f.km.contains j with
      | true => exact keepM_ok hbr (hm _ (List.mem_filterMap.2 ⟨j, hj, by simp only [hc, hB, hk]; rfl⟩))
      | false => exact hbr.pure (hm _ (List.mem_filterMap.2 ⟨j, hj, by simp only [hc, hB, hk]; rfl⟩)) _
    | iter c l => exact hbr.pure rfl _
  have hw := hR.wr
  have hat : ∀ i x, renN ρ f.l i = some x → ∃ j B, f.l[i]? = some j ∧ ρ j = some x ∧ st.h[j]? = some B ∧ (forget f st).h[i]? = some (if f.mx.contains j then reB f j B else B) := by
    intro i x hi
    unfold renN at hi
    cases hl : f.l[i]? with
    | none => simp [hl] at hi
    | some j =>
      simp only [hl, Option.bind_some] at hi
      have hj := hw.dom j x hi
      have hil : i < f.l.length := (List.getElem?_eq_some_iff.1 hl).1
      refine ⟨j, st.h[j], rfl, hi, List.getElem?_eq_getElem hj, ?_⟩
      simp only [forget]
      rw [List.getElem?_append_left (by simpa using hil), List.getElem?_map, hl]
      simp only [Option.map_some, fgBlock, List.getElem?_eq_getElem hj]
  have hlive : ∀ {j : Nat} {B B' : Bk}, (if f.mx.contains j then reB f j B else B) = B' → B'.live → B.live := by
    intro j B B' h hl
    split at h
    · cases B with
      | arr => trivial
      | map => subst h; exact hl.elim
      | iter => subst h; exact hl.elim
      | dead => subst h; exact hl.elim
    · subst h; exact hl
  have hinj : ∀ (i i' j : Nat), f.l[i]? = some j → f.l[i']? = some j → i = i' := by
    intro i i' j h1 h2
    have l1 := (List.getElem?_eq_some_iff.1 h1)
    have l2 := (List.getElem?_eq_some_iff.1 h2)
    obtain ⟨p1, e1⟩ := l1
    obtain ⟨p2, e2⟩ := l2
    exact (List.getElem_inj hnd).1 (e1.trans e2.symm)
  refine ⟨renN ρ f.l, fun i hi x hx => by simp only [renN, hpre' i hi, Option.bind_some, Nat.zero_add]; exact hx, ?_, ⟨hw.bel, hw.fro, ?_, ?_, ?_, ?_, ?_⟩, hR.glob, ?_, hR.defers⟩
  · obtain ⟨s1, s2⟩ := slots_at f st.t 0
    refine ⟨by simp only [forget]; rw [s1]; exact hR.slots.len, fun i c' v hc hv => ?_⟩
    obtain ⟨c, hc0, rfl⟩ := s2 i c' hc
    have hr := hR.slots.at_ i c v hc0 hv
    rw [Nat.zero_add]
    unfold fgSlot
    split
    · split
      · cases hr with
        | nsl => exact .osl_e
      · exact .any _ _
    · split
      · exact reA_ok hr
      · exact .any _ _
  · intro i x hi
    obtain ⟨j, B, h1, h2, h3, h4⟩ := hat i x hi
    exact (List.getElem?_eq_some_iff.1 h4).1
  · intro i i' b s t B1 B2 hi hi' g1 l1 g2 l2
    obtain ⟨j, B, h1, h2, h3, h4⟩ := hat i _ hi
    obtain ⟨j', B', h1', h2', h3', h4'⟩ := hat i' _ hi'
    rw [h4] at g1
    rw [h4'] at g2
    cases g1
    cases g2
    have := hw.inj j j' b s t B B' h2 h2' h3 (hlive rfl l1) h3' (hlive rfl l2)
    subst this
    exact hinj i i' j h1 h1'
  · intro i b s B1 hi g1 l1
    obtain ⟨j, B, h1, h2, h3, h4⟩ := hat i _ hi
    rw [h4] at g1
    cases g1
    exact hw.new j b s B h2 h3 (hlive rfl l1)
  · intro i b s B1 hi g1
    obtain ⟨j, B, h1, h2, h3, h4⟩ := hat i _ hi
    rw [h4] at g1
    cases g1
    have hbr := hw.blk j b s B h2 h3
    split
    · exact reB_ok hbr
    · rename_i hc
      by_cases hl : B.live
      · exact hpure j B (List.mem_of_getElem? h1) h3 (by simpa using hc) hl _ _ hbr
      · cases B with
        | dead => trivial
        | arr => exact absurd trivial hl
        | map => exact absurd trivial hl
        | iter => exact absurd trivial hl
  · intro i b s B1 hi g1 l1
    obtain ⟨j, B, h1, h2, h3, h4⟩ := hat i _ hi
    rw [h4] at g1
    cases g1
    exact hw.apart j b s B h2 h3 (hlive rfl l1)
  · simp only [forget, List.length_append, List.length_map]
    rcases Nat.eq_zero_or_pos C.keep with h | h
    · omega
    · have := (List.getElem?_eq_some_iff.1 (hpre' (C.keep - 1) (by omega))).1
      omega
end
end Go.Pm

set_option linter.unusedVariables false
namespace Go.Pm
open Go Go.RowKit
section
variable {w0 : World}
/-- what a piece of code hands on -/
def After (C : Cx) (w0 : World) (ρ : Nm) (M : Mem) (e : Ex) (st' : St) : Exit → Act → World → Prop := fun x a' W' => x = e.to ∧ ∃ ρ' M', M.le M' ∧ (∀ i, i < C.keep → ∀ x, ρ i = some x → ρ' i = some x) ∧ Fresh M M' w0.heap.size ∧ Rel C w0 ρ' M' st' a' W'
theorem After.step {C : Cx} {ρ ρ1 : Nm} {M M1 : Mem} {e : Ex} {st' : St} {x : Exit} {a : Act} {W : World} (hM : M.le M1) (hr : ∀ i, i < C.keep → ∀ x, ρ i = some x → ρ1 i = some x) (hf : Fresh M M1 w0.heap.size) (h : After C w0 ρ1 M1 e st' x a W) : After C w0 ρ M e st' x a W := by
  obtain ⟨h1, ρ', M', h2, h3, h4, h5⟩ := h
  exact ⟨h1, ρ', M', hM.trans h2, fun i hi x hx => h3 i hi x (hr i hi x hx), hf.trans h4, h5⟩
theorem Tri.here (C : Cx) {c : Code} {st : St} {e : Ex} (h : ∀ (Q : Exit → Act → World → Prop) a W, Q e.to a W → c.wp C.P Q a W) : Tri C c st e st :=
  fun w0 ρ M a W hR => h _ a W ⟨rfl, ρ, M, Mem.le.refl M, fun _ _ _ h => h, Fresh.refl _ _, hR⟩
theorem Tri.seq {C : Cx} {x y : Code} {st st1 st2 : St} {e : Ex} (h1 : Tri C x st .normal st1) (h2 : Tri C y st1 e st2) : Tri C (.seq x y) st e st2 := by
  intro w0 ρ M a W hR
  refine wp_seq (Code.wp_mono (fun e' a' W' h => ?_) (h1 w0 ρ M a W hR))
  obtain ⟨rfl, ρ1, M1, q1, q2, q3, q4⟩ := h
  show y.wp C.P _ a' W'
  refine Code.wp_mono (fun e2 a2 W2 h => ?_) (h2 w0 ρ1 M1 a' W' q4)
  exact After.step (C := C) q1 q2 q3 h
theorem Tri.seq_exit {C : Cx} {x y : Code} {st st1 : St} {e : Ex} (h1 : Tri C x st e st1) (hne : e ≠ .normal) : Tri C (.seq x y) st e st1 := by
  intro w0 ρ M a W hR
  refine wp_seq (Code.wp_mono (fun e' a' W' h => ?_) (h1 w0 ρ M a W hR))
  have he := h.1
  subst he
  cases e with
  | normal => exact absurd rfl hne
  | exit n => exact h
  | ret => exact h
theorem Tri.cond {C : Cx} {c : Operand} {x y : Code} {st st1 : St} {e : Ex} {b : Bool} (hc : evalA C st.t c = .s (.bool b)) (h : Tri C (if b then x else y) st e st1) : Tri C (.cond c x y) st e st1 := by
  intro w0 ρ M a W hR
  have hv := eval_ok hR.slots hR.glob c
  rw [hc] at hv
  exact wp_cond hv.inv_s (h w0 ρ M a W hR)
theorem Tri.scope {C : Cx} {x : Code} {st st1 : St} {e : Ex} (h : Tri C x st e st1) : Tri C (.scope x) st e st1 := by
  intro w0 ρ M a W hR
  refine wp_scope_straight (Code.wp_mono (fun e' a' W' hh => ?_) (h w0 ρ M a W hR))
  obtain ⟨rfl, hh⟩ := hh
  cases e <;> exact ⟨rfl, hh⟩
theorem Tri.block {C : Cx} {id : Nat} {x : Code} {st st1 : St} {e : Ex} (h : Tri C x st e st1) : Tri C (.block id x) st (match e with | .exit j => if j = id then .normal else .exit j | e => e) st1 := by
  intro w0 ρ M a W hR
  refine wp_block (Code.wp_mono (fun e' a' W' h => ?_) (h w0 ρ M a W hR))
  obtain ⟨rfl, hh⟩ := h
  cases e with
  | normal => exact ⟨rfl, hh⟩
  | ret => exact ⟨rfl, hh⟩
  | exit j =>
    show (if j = id then _ else _)
    split
    · rename_i hj
      subst hj
      simp only [if_true]
      exact ⟨rfl, hh⟩
    · rename_i hj
      simp only [if_neg hj]
      exact ⟨rfl, hh⟩
theorem LoopT.forget {C : Cx} {c : Code} {f : Fg} {st st' : St} {e : Ex} (h : LoopT C c (forget f st) e st') (ha : allP (fgAsk f C.keep st.h)) : LoopT C c st e st' := by
  intro w0 ρ M a W hR b k cs
  obtain ⟨ρ1, hk, hR1⟩ := forget_ok hR ha
  obtain ⟨x, a', W', ⟨q0, ρ', M', q1, q2, q3, q4⟩, harr⟩ := h w0 ρ1 M a W hR1 b k cs
  exact ⟨x, a', W', ⟨q0, ρ', M', q1, fun i hi x hx => q2 i hi x (hk i hi x hx), q3, q4⟩, harr⟩
theorem Tri.forget {C : Cx} {c : Code} {f : Fg} {st st1 : St} {e : Ex} (h : Tri C c st e st1) (ha : allP (fgAsk f C.keep st1.h)) : Tri C c st e (Pm.forget f st1) := by
  intro w0 ρ M a W hR
  refine Code.wp_mono (fun x a' W' hx => ?_) (h w0 ρ M a W hR)
  obtain ⟨q0, ρ', M', q1, q2, q3, q4⟩ := hx
  obtain ⟨ρ1, hk, hR1⟩ := forget_ok q4 ha
  exact ⟨q0, ρ1, M', q1, fun i hi x hx => hk i hi x (q2 i hi x hx), q3, hR1⟩
theorem Tri.before {C : Cx} {c : Code} {f : Fg} {st st' : St} {e : Ex} (h : Tri C c (Pm.forget f st) e st') (ha : allP (fgAsk f C.keep st.h)) : Tri C c st e st' := by
  intro w0 ρ M a W hR
  obtain ⟨ρ1, hk, hR1⟩ := forget_ok hR ha
  refine Code.wp_mono (fun x a' W' hx => ?_) (h w0 ρ1 M a W hR1)
  obtain ⟨q0, ρ', M', q1, q2, q3, q4⟩ := hx
  exact ⟨q0, ρ', M', q1, fun i hi x hx => q2 i hi x (hk i hi x hx), q3, q4⟩
theorem LoopT.tri {C : Cx} {c : Code} {st st' : St} {e : Ex} (h : LoopT C c st e st') : Tri C (.loop c) st e st' := by
  intro w0 ρ M a W hR b k cs
  obtain ⟨x, a', W', hq, harr⟩ := h w0 ρ M a W hR b k cs
  exact ⟨x, a', W', hq, .of_steps (.one step_loop) harr⟩
theorem LoopT.next {C : Cx} {c : Code} {st st1 st' : St} {e : Ex} (h1 : Tri C c st .normal st1) (h2 : LoopT C c st1 e st') : LoopT C c st e st' := by
  intro w0 ρ M a W hR b k cs
  obtain ⟨x, a1, W1, hq, harr⟩ := h1 w0 ρ M a W hR b (.inLoop c :: k) cs
  obtain ⟨rfl, ρ1, M1, q1, q2, q3, q4⟩ := hq
  obtain ⟨x2, a2, W2, hq2, harr2⟩ := h2 w0 ρ1 M1 a1 W1 q4 b k cs
  exact ⟨x2, a2, W2, After.step (C := C) q1 q2 q3 hq2, .of_steps (Steps.trans harr (.one step_inLoop)) harr2⟩
theorem LoopT.exit {C : Cx} {c : Code} {st st' : St} {e : Ex} (h1 : Tri C c st e st') (hne : e ≠ .normal) : LoopT C c st e st' := by
  intro w0 ρ M a W hR b k cs
  obtain ⟨x, a1, W1, hq, harr⟩ := h1 w0 ρ M a W hR b (.inLoop c :: k) cs
  refine ⟨x, a1, W1, hq, ?_⟩
  have he := hq.1
  subst he
  cases e with
  | normal => exact absurd rfl hne
  | exit n => exact .pass (x := .inLoop c) rfl (fun _ _ => .inl (by simp [Ex.to])) harr
  | ret => exact .pass (x := .inLoop c) rfl (fun _ _ => .inl (by simp [Ex.to])) harr
theorem thC0_ok {W : World} {ρ : Nm} {M M' : Mem} {H : List Bk} {i : Nat} {B : Bk} (hw : WR w0 ρ M H W) (hB : H[i]? = some B) (hM : M.le M') (hp : pureB B = true) (hf : ∀ b s o, ρ i = some (b, s) → ∀ L cs fz, B = .arr L cs fz → o < L → ∃ u, M'.cell b (o + s.base) = some u) (hg : ∀ b s, ρ i = some (b, s) → ∀ es fz, B = .map es fz → ∃ kv, M'.map b = some kv) (hfro : Fro M' W)
    {c : AV} {v : Value} (hv : VR M' ρ c v) : VR M' ρ (thC0 i B c) v := by
  cases hv with
  | any => exact .any _ _
  | s => exact .s _ _
  | agg => exact .any _ _
  | tup => exact .any _ _
  | sl_e a b => exact .sl_e a b
  | sl f a b d => exact .sl f a b d
  | sx_e a => exact .sx_e a
  | sx f a b d => exact .sx f a b d
  | nsl => exact .nsl
  | fptr_e => exact .fptr_e
  | fptr f a b => exact .fptr f a b
  | mp_e => exact .mp_e
  | mp kv pq a b c d e f => exact .mp kv pq a b c d e f
  | fn a b c d => exact .fn a b c d
  | osl_e =>
    simp only [thC0]
    split
    · split
      · rw [Nat.zero_mul, List.take_zero]; exact .sl_e (Nat.le_refl _) (fun _ => rfl)
      · exact .any _ _
    · exact .osl_e
  | osl h1 h2 h3 =>
    rename_i id off n k b sz cap
    simp only [thC0]
    split
    · rename_i e
      subst e
      split
      · rename_i L cs fz
        obtain ⟨b1, b2, ⟨cur, e, fr, b3, b4, b5, b6⟩, b7, b8⟩ := hw.blk _ _ _ _ h1 hB
        have key : ∀ (i : Nat) c, ((cs.drop off).take (n * k))[i]? = some c → cs[off + i]? = some c := by
          intro i c hc
          rw [List.getElem?_take] at hc
          split at hc
          · rwa [List.getElem?_drop] at hc
          · cases hc
        have cell : ∀ (i : Nat) c, ((cs.drop off).take (n * k))[i]? = some c → M'.cell b (off + sz.base + i) = some (cur.getD (off + sz.base + i) undef) ∧ VR M' Nm.none c (cur.getD (off + sz.base + i) undef) := by
          intro i c hc
          obtain ⟨u, u1, u2, u3⟩ := b6 _ _ (key i c hc)
          have hol : off + i < L := by rw [b1]; exact (List.getElem?_eq_some_iff.1 (key i c hc)).1
          rw [show off + i + sz.base = off + sz.base + i by omega] at u1
          have hg' : cur.getD (off + sz.base + i) undef = u := by simp [Array.getD_eq_getD_getElem?, u1]
          obtain ⟨u', hu'⟩ := hf b sz (off + i) h1 L cs fz rfl hol
          rw [show off + i + sz.base = off + sz.base + i by omega] at hu'
          have h4 := (hfro.cell _ _ _ hu').1
          have hcell : W.cell? ⟨b, off + sz.base + i, none⟩ = some u := by simp [World.cell?, b3, u1]
          rw [hcell] at h4
          cases h4
          rw [hg']
          exact ⟨hu', (u3.pure (List.all_eq_true.1 hp c (List.mem_of_getElem? (key i c hc))) Nm.none).mono hM (Nm.le.refl _)⟩
        exact .sl (fun i => cur.getD (off + sz.base + i) undef) h2 (fun i c hc => (cell i c hc).1) (fun i c hc => (cell i c hc).2)
      · exact .any _ _
    · exact .osl h1 h2 h3
  | ptr h1 =>
    rename_i id off b sz
    simp only [thC0]
    split
    · rename_i e
      subst e
      split
      · rename_i L cs fz
        obtain ⟨b1, b2, ⟨cur, e, fr, b3, b4, b5, b6⟩, b7, b8⟩ := hw.blk _ _ _ _ h1 hB
        have cell : ∀ (i : Nat) c, (cs.drop off)[i]? = some c → M'.cell b (off + sz.base + i) = some (cur.getD (off + sz.base + i) undef) ∧ VR M' Nm.none c (cur.getD (off + sz.base + i) undef) := by
          intro i c hc
          rw [List.getElem?_drop] at hc
          obtain ⟨u, u1, u2, u3⟩ := b6 _ _ hc
          have hol : off + i < L := by rw [b1]; exact (List.getElem?_eq_some_iff.1 hc).1
          rw [show off + i + sz.base = off + sz.base + i by omega] at u1
          have hg' : cur.getD (off + sz.base + i) undef = u := by simp [Array.getD_eq_getD_getElem?, u1]
          obtain ⟨u', hu'⟩ := hf b sz (off + i) h1 L cs fz rfl hol
          rw [show off + i + sz.base = off + sz.base + i by omega] at hu'
          have h4 := (hfro.cell _ _ _ hu').1
          have hcell : W.cell? ⟨b, off + sz.base + i, none⟩ = some u := by simp [World.cell?, b3, u1]
          rw [hcell] at h4
          cases h4
          rw [hg']
          exact ⟨hu', (u3.pure (List.all_eq_true.1 hp c (List.mem_of_getElem? hc)) Nm.none).mono hM (Nm.le.refl _)⟩
        exact .fptr (fun i => cur.getD (off + sz.base + i) undef) (fun i c hc => (cell i c hc).1) (fun i c hc => (cell i c hc).2)
      · exact .any _ _
    · exact .ptr h1
  | omp h1 =>
    rename_i id b sz
    simp only [thC0]
    split
    · rename_i e
      subst e
      split
      · rename_i es fz
        have hbr := BR.pure (hw.blk _ _ _ _ h1 hB) hp Nm.none
        obtain ⟨⟨ents, clock, b1, bt, pq, b2, b3, b4, b5, b6⟩, b7⟩ := hbr
        obtain ⟨kv, hkv⟩ := hg b sz h1 es fz rfl
        obtain ⟨e1, e2⟩ := hfro.map _ _ hkv
        obtain ⟨ke, kc⟩ := kv
        rw [b1] at e1
        cases e1
        exact .mp _ pq hkv b2 b3 b4 (fun i c v x y => (b5 i c v x y).mono hM (Nm.le.refl _)) (fun i c v x y => (b6 i c v x y).mono hM (Nm.le.refl _))
      · exact .any _ _
    · exact .omp h1
/-- a block is written no more -/
theorem freeze_ok {W : World} {ρ : Nm} {M : Mem} {C : Cx} {st : St} {a : Act} {i : Nat} {B : Bk} (ms : List Nat) (hR : Rel C w0 ρ M st a W) (hB : st.h[i]? = some B) (hl : B.live) (hp : pureB B = true) : ∃ M', M.le M' ∧ Fresh M M' w0.heap.size ∧ Rel C w0 ρ M' (thSt ms i B st) a W := by
  obtain ⟨hwk, hfr⟩ := hR.wr.mark [i]
  have hle := frzM_le M ρ st.h W [i]
  obtain ⟨hlen, hget⟩ := get_mark st.h [i] st.h rfl (fun j => .inl rfl)
  have key : ∀ c v, VR (frzM M ρ st.h W [i]) ρ c v → VR (frzM M ρ st.h W [i]) ρ (thC0 i B c) v := fun c v hv => by
    refine thC0_ok hR.wr hB hle hp (fun b s o hi L cs fz e ho => ?_) (fun b s hi es fz e => ?_) hwk.fro hv
    · subst e
      simp only [frzM]
      cases hm : M.cell b (o + s.base) with
      | some u => exact ⟨u, rfl⟩
      | none =>
        simp only []
        rw [if_pos ⟨i, s, L, cs, fz, List.mem_singleton.2 rfl, hi, hB, by omega, by omega⟩]
        obtain ⟨b1, b2, ⟨cur, e, fr, b3, b4, b5, b6⟩, b7, b8⟩ := hR.wr.blk _ _ _ _ hi hB
        obtain ⟨u, u1, u2, u3⟩ := b6 o cs[o] (by simp [show o < cs.length by omega])
        exact ⟨u, by simp [World.cell?, b3, u1]⟩
    · subst e
      simp only [frzM]
      cases hm : M.map b with
      | some u => exact ⟨u, rfl⟩
      | none =>
        simp only []
        rw [if_pos ⟨i, s, es, fz, List.mem_singleton.2 rfl, hi, hB⟩]
        obtain ⟨⟨ents, clock, b1, _⟩, _⟩ := hR.wr.blk _ _ _ _ hi hB
        exact ⟨_, by rw [b1]⟩
  have keyL : ∀ (f : AV → AV), (∀ c v, VR (frzM M ρ st.h W [i]) ρ c v → VR (frzM M ρ st.h W [i]) ρ (f c) v) → ∀ {cs : List AV} {vs : List Value}, L2 (VR (frzM M ρ st.h W [i]) ρ) cs vs → L2 (VR (frzM M ρ st.h W [i]) ρ) (cs.map f) vs := by
    intro f hf cs vs h
    refine ⟨by simpa using h.len, fun j c v hc hv => ?_⟩
    simp only [List.getElem?_map, Option.map_eq_some_iff] at hc
    obtain ⟨c0, hc0, rfl⟩ := hc
    exact hf _ _ (h.at_ j c0 v hc0 hv)
  have keyG : ∀ (f g : AV → AV), (∀ c v, VR (frzM M ρ st.h W [i]) ρ c v → VR (frzM M ρ st.h W [i]) ρ (f c) v) → (∀ c v, (∀ cs, c ≠ .agg cs) → VR (frzM M ρ st.h W [i]) ρ c v → VR (frzM M ρ st.h W [i]) ρ (g c) v) → (∀ cs, g (.agg cs) = .agg (cs.map f)) → ∀ c v, VR (frzM M ρ st.h W [i]) ρ c v → VR (frzM M ρ st.h W [i]) ρ (g c) v := by
    intro f g hf hg ha c v h
    by_cases hc : ∃ cs, c = .agg cs
    · obtain ⟨cs, rfl⟩ := hc
      obtain ⟨vs, rfl, k1, k2⟩ := h.inv_agg
      rw [ha]
      exact .mkAgg (keyL f hf k1) k2
    · exact hg c v (fun cs e => hc ⟨cs, e⟩) h
  have keyP : ∀ c v, VR (frzM M ρ st.h W [i]) ρ c v → VR (frzM M ρ st.h W [i]) ρ (thP i B c) v := keyG (thC0 i B) (thP i B) key (fun c v hn h => by
    have e : thP i B c = thC0 i B c := by cases c <;> first | rfl | exact absurd rfl (hn _)
    rw [e]; exact key c v h) (fun cs => rfl)
  have keyC : ∀ c v, VR (frzM M ρ st.h W [i]) ρ c v → VR (frzM M ρ st.h W [i]) ρ (thC i B c) v := by
    intro c v h
    by_cases hc : ∃ f p q, c = .fn f p q
    · obtain ⟨f, p, q, rfl⟩ := hc
      cases h with
      | fn a b c d =>
        have h1 := keyL (thP i B) keyP ⟨a, b⟩
        have h2 := keyL (thP i B) keyP ⟨c, d⟩
        exact .fn h1.len h1.at_ h2.len h2.at_
    · have e : thC i B c = thC0 i B c := by cases c <;> first | rfl | exact absurd ⟨_, _, _, rfl⟩ hc
      rw [e]; exact key c v h
  have keyF : ∀ c v, VR (frzM M ρ st.h W [i]) ρ c v → VR (frzM M ρ st.h W [i]) ρ (thF i B c) v := keyG (thC i B) (thF i B) keyC (fun c v hn h => by
    have e : thF i B c = thC i B c := by cases c <;> first | rfl | exact absurd rfl (hn _)
    rw [e]; exact keyC c v h) (fun cs => rfl)
  have keyA : ∀ c v, VR (frzM M ρ st.h W [i]) ρ c v → VR (frzM M ρ st.h W [i]) ρ (thA i B c) v := by
    intro c v h
    by_cases hc : ∃ cs, c = .tup cs
    · obtain ⟨cs, rfl⟩ := hc
      obtain ⟨vs, rfl, k1⟩ := h.inv_tup
      exact .mkTup (keyL _ keyF k1)
    · have e : thA i B c = thF i B c := by cases c <;> first | rfl | exact absurd ⟨_, rfl⟩ hc
      rw [e]; exact keyF c v h
  have hil : i < st.h.length := (List.getElem?_eq_some_iff.1 hB).1
  have hbk : ∀ j, ((List.range st.h.length).map (thBk ms i B st.h))[j]? = if j < st.h.length then some (thBk ms i B st.h j) else none := by
    intro j
    rw [List.getElem?_map]
    by_cases hj : j < st.h.length
    · simp [hj]
    · rw [List.getElem?_eq_none (by simpa using hj), if_neg hj]; rfl
  -- the blocks, seen so
  have back : ∀ (j : Nat) (D : Bk), ((List.range st.h.length).map (thBk ms i B st.h))[j]? = some D → ∃ D0, (putW st.h (markW (fun j => st.h[j]?) [i]))[j]? = some D0 ∧ (D.live ↔ D0.live) ∧ ∀ b s, BR ρ (frzM M ρ st.h W [i]) W b s D0 → BR ρ (frzM M ρ st.h W [i]) W b s D := by
    intro j D hD
    rw [hbk] at hD
    split at hD
    · rename_i hj
      cases hD
      rw [hget]
      by_cases hji : j = i
      · subst hji
        rw [if_pos (List.mem_singleton.2 rfl), hB]
        exact ⟨_, rfl, by simp [thBk], fun b s h => by simpa [thBk] using h⟩
      · rw [if_neg (by simpa using hji)]
        obtain ⟨D0, h0⟩ : ∃ D0, st.h[j]? = some D0 := ⟨_, List.getElem?_eq_getElem hj⟩
        by_cases hms : ms.contains j = true
        · have e : thBk ms i B st.h j = thM i B D0 := by simp only [thBk, hji, h0, hms]; rfl
          rw [e]
          refine ⟨D0, h0, by cases D0 <;> exact Iff.rfl, fun b s h => ?_⟩
          cases D0 with
          | dead => trivial
          | iter c l => exact h
          | map es fz =>
            obtain ⟨⟨ents, clock, b1, bt, pq, b2, b3, b4, b5, b6⟩, b7⟩ := h
            have hat : ∀ (k : Nat) c, (es.map fun p => (p.1, thF i B p.2))[k]? = some c → ∃ d, es[k]? = some d ∧ c = (d.1, thF i B d.2) := by
              intro k c hc
              simp only [List.getElem?_map, Option.map_eq_some_iff] at hc
              obtain ⟨d, hd, rfl⟩ := hc
              exact ⟨d, hd, rfl⟩
            refine ⟨⟨ents, clock, b1, bt, pq, b2, by simpa using b3, ?_, fun k c v x y => ?_, fun k c v x y => ?_⟩, b7⟩
            · rw [List.pairwise_map]; exact b4
            · obtain ⟨d, hd, rfl⟩ := hat k c x
              exact b5 k d v hd y
            · obtain ⟨d, hd, rfl⟩ := hat k c x
              exact keyF _ _ (b6 k d v hd y)
          | arr L cs fz =>
            obtain ⟨b1, b2, ⟨cur, e, fr, b3, b4, b5, b6⟩, b7, b8⟩ := h
            refine ⟨by simpa using b1, b2, ⟨cur, e, fr, b3, b4, b5, fun k c hc => ?_⟩, b7, b8⟩
            simp only [List.getElem?_map, Option.map_eq_some_iff] at hc
            obtain ⟨c0, hc0, rfl⟩ := hc
            obtain ⟨u, u1, u2, u3⟩ := b6 k c0 hc0
            exact ⟨u, u1, u2, keyC _ _ u3⟩
        have e : thBk ms i B st.h j = thB i B D0 := by simp only [thBk, hji, h0, hms]; rfl
        rw [e]
        refine ⟨D0, h0, by cases D0 <;> exact Iff.rfl, fun b s h => ?_⟩
        cases D0 with
        | dead => trivial
        | map es fz => exact h
        | iter c l => exact h
        | arr L cs fz =>
          obtain ⟨b1, b2, ⟨cur, e, fr, b3, b4, b5, b6⟩, b7, b8⟩ := h
          refine ⟨by simpa using b1, b2, ⟨cur, e, fr, b3, b4, b5, fun k c hc => ?_⟩, b7, b8⟩
          simp only [List.getElem?_map, Option.map_eq_some_iff] at hc
          obtain ⟨c0, hc0, rfl⟩ := hc
          obtain ⟨u, u1, u2, u3⟩ := b6 k c0 hc0
          exact ⟨u, u1, u2, keyC _ _ u3⟩
    · cases hD
  refine ⟨_, hle, hfr, ⟨keyL _ keyA (hR.slots.imp fun c v h => h.mono hle (Nm.le.refl _)), ⟨hwk.bel, hwk.fro, fun j x hj => ?_, ?_, ?_, ?_, ?_⟩, fun g cs hg => (hR.glob g cs hg).mono hle (Nm.le.refl _), ?_, hR.defers.mono hle⟩⟩
  · simp [thSt]; exact hR.wr.dom j x hj
  · intro j k b s t D D' hj hk h1 l1 h2 l2
    obtain ⟨D0, p1, p2, _⟩ := back j D h1
    obtain ⟨D1, q1, q2, _⟩ := back k D' h2
    exact hwk.inj j k b s t D0 D1 hj hk p1 (p2.1 l1) q1 (q2.1 l2)
  · intro j b s D hj h1 l1
    obtain ⟨D0, p1, p2, _⟩ := back j D h1
    exact hwk.new j b s D0 hj p1 (p2.1 l1)
  · intro j b s D hj h1
    obtain ⟨D0, p1, p2, p3⟩ := back j D h1
    exact p3 b s (hwk.blk j b s D0 hj p1)
  · intro j b s D hj h1 l1
    obtain ⟨D0, p1, p2, _⟩ := back j D h1
    exact hwk.apart j b s D0 hj p1 (p2.1 l1)
  · simp [thSt]; exact hR.keep
theorem thAll_ok {W : World} {ρ : Nm} {C : Cx} : ∀ (l : List Nat) {st st' : St} {ps : List Prop} {M : Mem} {a : Act}, thAll l st = (st', ps) → allP ps → Rel C w0 ρ M st a W → ∃ M', M.le M' ∧ Fresh M M' w0.heap.size ∧ Rel C w0 ρ M' st' a W := by
  intro l
  induction l with
  | nil => intro st st' ps M a h _ hR; simp [thAll] at h; obtain ⟨rfl, rfl⟩ := h; exact ⟨M, Mem.le.refl _, Fresh.refl _ _, hR⟩
  | cons i r ih =>
    intro st st' ps M a h hp hR
    simp only [thAll] at h
    split at h
    · rename_i L cs fz hB
      cases hq : thAll r (thSt (frzMs i) (i % 1000) (.arr L cs fz) st) with
      | mk st1 ps1 =>
        rw [hq] at h
        cases h
        obtain ⟨M1, h1, h2, h3⟩ := freeze_ok (frzMs i) hR hB trivial hp.1
        obtain ⟨M2, k1, k2, k3⟩ := ih hq hp.2 h3
        exact ⟨M2, h1.trans k1, h2.trans k2, k3⟩
    · rename_i es fz hB
      cases hq : thAll r (thSt (frzMs i) (i % 1000) (.map es fz) st) with
      | mk st1 ps1 =>
        rw [hq] at h
        cases h
        obtain ⟨M1, h1, h2, h3⟩ := freeze_ok (frzMs i) hR hB trivial hp.1
        obtain ⟨M2, k1, k2, k3⟩ := ih hq hp.2 h3
        exact ⟨M2, h1.trans k1, h2.trans k2, k3⟩
    · exact ih h hp hR
theorem loopGo_ok {C : Cx} {b : Code} {f : Nat → St → Option (Ex × St × List Prop)} (hf : ∀ k st e st' ps, f k st = some (e, st', ps) → allP ps → Tri C b st e st') : ∀ (n k : Nat) (st : St) (e : Ex) (st' : St) (ps : List Prop), loopGo f n k st = some (e, st', ps) → allP ps → LoopT C b st e st' := by
  intro n
  induction n with
  | zero => intro k st e st' ps h; cases h
  | succ n ih =>
    intro k st e st' ps h hp
    unfold loopGo at h
    split at h
    · rename_i st1 p1 h1
      split at h
      · rename_i e2 st2 p2 h2
        cases h
        obtain ⟨q1, q2⟩ := allP_append hp
        exact LoopT.next (hf _ _ _ _ _ h1 q1) (ih _ _ _ _ _ h2 q2)
      · cases h
    · rename_i hne
      refine LoopT.exit (hf _ _ _ _ _ h hp) fun he => ?_
      subst he
      exact hne st' ps h
theorem runH_ok {C : Cx} : ∀ (c : Code) (hs : Nat → Nat → Hint) (st : St) (e : Ex) (st' : St) (ps : List Prop), runH C c hs st = some (e, st', ps) → allP ps → Tri C c st e st' := by
  intro c
  induction c with
  | skip => intro hs st e st' ps h _; simp [runH] at h; obtain ⟨rfl, rfl, _⟩ := h; exact Tri.here C fun Q a W h => wp_skip h
  | label l => intro hs st e st' ps h _; simp [runH] at h; obtain ⟨rfl, rfl, _⟩ := h; exact Tri.here C fun Q a W h => wp_label h
  | exit id => intro hs st e st' ps h _; simp [runH] at h; obtain ⟨rfl, rfl, _⟩ := h; exact Tri.here C fun Q a W h => wp_exit h
  | ret => intro hs st e st' ps h _; simp [runH] at h; obtain ⟨rfl, rfl, _⟩ := h; exact Tri.here C fun Q a W h => wp_ret h
  | region id ops draw =>
    intro hs st e st' ps h hp
    unfold runH at h
    cases hq : thAll (hs id frzKey).frz st with
    | mk st0 ps0 =>
    rw [hq] at h
    dsimp only at h
    split at h
    · rename_i t A es ps' htr
      split at h
      · rename_i hd
        cases h
        obtain ⟨hp0, hp⟩ := allP_append hp
        intro w0 ρ M0 a W hR0
        obtain ⟨M, m1, m2, hR⟩ := thAll_ok _ hq hp0 hR0
        refine Code.wp_mono (Q := After C w0 ρ M .normal ⟨t, A⟩) (fun x a' W' h => After.step m1 (fun _ _ _ h => h) m2 h) ?_
        have fin : ∀ ρ' M' a' W', M.le M' → ρ.le ρ' → Fresh M M' w0.heap.size → Rel C w0 ρ' M' ⟨t, A⟩ a' W' → After C w0 ρ M .normal ⟨t, A⟩ .normal a' W' := fun ρ' M' a' W' q1 q2 q3 q4 => ⟨rfl, ρ', M', q1, fun i _ x hx => q2 i x hx, q3, q4⟩
        cases draw with
        | false =>
          have := tr_ok (Q := After C w0 ρ M .normal ⟨t, A⟩) ops.toList 0 st0.t st0.h t A es _ htr hp ρ M a W hR fin
          simp only [Array.toArray_toList] at this
          exact wp_region_list this
        | true => exact draw_ok (Q := After C w0 ρ M .normal ⟨t, A⟩) htr hp (hd.resolve_left (by simp)) hR fin
      · cases h
    · cases h
  | seq x y ihx ihy =>
    intro hs st e st' ps h hp
    unfold runH at h
    split at h
    · rename_i st1 p1 h1
      split at h
      · rename_i e2 st2 p2 h2
        cases h
        obtain ⟨hp1, hp2⟩ := allP_append hp
        exact (ihx _ _ _ _ _ h1 hp1).seq (ihy _ _ _ _ _ h2 hp2)
      · cases h
    · rename_i hne
      refine (ihx _ _ _ _ _ h hp).seq_exit fun he => ?_
      subst he
      exact hne st' ps h
  | cond c x y ihx ihy =>
    intro hs st e st' ps h hp
    unfold runH at h
    split at h
    · rename_i hc
      exact Tri.cond hc (ihx _ _ _ _ _ h hp)
    · rename_i hc
      exact Tri.cond hc (ihy _ _ _ _ _ h hp)
    · cases h
  | block id x ih =>
    intro hs st e st' ps h hp
    unfold runH at h
    split at h
    · rename_i j st1 p1 h1
      split at h
      · rename_i hj
        cases h
        have := (ih _ _ _ _ _ h1 hp).block (id := id)
        simp only [hj, if_true] at this
        subst hj
        exact this
      · rename_i hj
        cases h
        have := (ih _ _ _ _ _ h1 hp).block (id := id)
        simp only [if_neg hj] at this
        exact this
    · rename_i hne
      have := (ih _ _ _ _ _ h hp).block (id := id)
      cases e with
      | normal => exact this
      | ret => exact this
      | exit j => exact absurd h (hne j st' ps)
  | loop x ih =>
    intro hs st e st' ps h hp
    unfold runH at h
    split at h
    · cases h
      obtain ⟨h1, h2, h3⟩ := hp
      subst h1
      exact (LoopT.tri (h2.forget h3))
    · exact LoopT.tri (loopGo_ok (fun k st e st' ps h hp => ih _ _ _ _ _ h hp) _ _ _ _ _ _ h hp)
  | scope x ih =>
    intro hs st e st' ps h hp
    unfold runH at h
    exact (ih _ _ _ _ _ h hp).scope
  | goto l => intro hs st e st' ps h _; simp [runH] at h
  | rangeFunc g params a b =>
    intro hs st e st' ps h hp
    unfold runH at h
    split at h
    · cases h
      obtain ⟨h1, h2, h3⟩ := hp
      subst h1
      exact h2.before h3
    · cases h
  | refuse why => intro hs st e st' ps h _; simp [runH] at h
theorem run_ok {C : Cx} {hs : Nat → Nat → Hint} (c : Code) (st : St) (e : Ex) (st' : St) (ps : List Prop) (h : run C hs c st = some (e, st', ps)) (hp : allP ps) : Tri C c st e st' := runH_ok c hs st e st' ps h hp
end
end Go.Pm

set_option linter.unusedVariables false
namespace Go.Pm
open Go Go.RowKit
def resA (C : Cx) (st : St) : ResultVar → Option AV
  | .tmp t => st.t[t]?
  | .cell a T => match rdLoad C (fun j => st.h[j]?) {} T (st.t.getD a .any) with
    | some (v, _, _, _) => some v
    | none => none
def resL (C : Cx) (st : St) : List ResultVar → Option (List AV)
  | [] => some []
  | r :: rs => match resA C st r, resL C st rs with
    | some v, some vs => some (v :: vs)
    | _, _ => none
def oneOf : List AV → AV
  | [v] => v
  | vs => .tup vs
/-- a function's body, reckoned: what it yields, what it leaves, what is to be shown -/
def fnRun (P : Program) (G : Nat → Option (List AV)) (hs : Nat → Nat → Hint) (f : FuncId) (args : List AV) (H : List Bk) : Option (AV × List Bk × List Prop) :=
  match P.funcs[f]? with
  | some fn => match fn.body with
    | some c => match run ⟨P, G, H.length⟩ hs c ⟨args ++ List.replicate (fn.ntmps - args.length) (.tup []), H⟩ with
      | some (.exit _, _, _) => none
      | some (_, st, ps) => match resL ⟨P, G, H.length⟩ st fn.results.toList with
        | some vs => if H.length ≤ st.h.length ∧ (fn.name == "runtime.NumGoroutine") = false then some (oneOf vs, st.h, ps) else none
        | none => none
      | none => none
    | none => none
  | none => none
def rvGet (tmps : Array Value) : ResultVar → Sem Value
  | .tmp t => pure (tmps.getD t undef)
  | .cell a t => do loadVar t (← asAddr (tmps.getD a undef))
theorem results_get (fn : Func) (tmps : Array Value) : results fn tmps = (do let vs ← fn.results.mapM (rvGet tmps); pure (if h : vs.size = 1 then vs[0] else .tuple vs)) := by
  unfold results
  congr 1
section
variable {P : Program} {w0 W : World} {ρ : Nm} {M : Mem}
theorem rdLoad_allP {C : Cx} {g : Nat → Option Bk} {t : TypeId} {x v : AV} {news : List Bk} {bs : List Bool} {ps : List Prop} (h : rdLoad C g {} t x = some (v, news, bs, ps)) : ps = [] := by
  unfold rdLoad at h
  split at h
  · rename_i sz ag cs _ _ _
    cases ag
    · simp only [loadV] at h
      cases cs <;> simp at h
      first | exact h.2.2.2 | exact h.2.2.2.symm
    · simp only [loadV] at h
      split at h
      · cases h; rfl
      · cases h
  · cases h
theorem res_ok {C : Cx} {st : St} {a : Act} (hR : Rel C w0 ρ M st a W) : ∀ (rs : List ResultVar) (vs : List AV), resL C st rs = some vs → ∃ us : List Value, L2 (VR M ρ) vs us ∧
    (rs.mapM (rvGet a.tmps)).run C.P W = .ok us W := by
  intro rs
  induction rs with
  | nil => intro vs h; simp [resL] at h; subst h; exact ⟨[], L2.nil, by simp⟩
  | cons r rs ih =>
    intro vs h
    unfold resL at h
    split at h
    · rename_i v vs' hv hvs
      cases h
      obtain ⟨us, h1, h2⟩ := ih vs' hvs
      have one : ∃ u, VR M ρ v u ∧ (rvGet a.tmps r).run C.P W = .ok u W := by
        cases r with
        | tmp t =>
          simp only [resA] at hv
          obtain ⟨u, hu, hr⟩ := hR.slots.get hv
          refine ⟨u, hr, ?_⟩
          have : a.tmps[t]? = some u := by simpa using hu
          simp [rvGet, Array.getD_eq_getD_getElem?, this]
        | cell x T =>
          simp only [resA] at hv
          split at hv
          · rename_i v' news bs ps hl
            cases hv
            have hx : VR M ρ (st.t.getD x .any) (a.tmps.getD x undef) := eval_ok (C := C) hR.slots hR.glob (.tmp x)
            obtain ⟨_, u, hu, hr⟩ := ok_load hR.wr hl (by rw [rdLoad_allP hl]; trivial) hx
            refine ⟨u, hr, ?_⟩
            have hp : ∃ A, a.tmps.getD x undef = .pointer (some A) := by
              unfold rdLoad at hl
              split at hl
              · rename_i sz ag cs _ _ hcs
                obtain ⟨A, hA, _⟩ := cells_at hR.wr hx hcs
                exact ⟨A, hA⟩
              · cases hl
            obtain ⟨A, hd⟩ := hp
            rw [hd] at hu
            simp only [rvGet, hd, asAddr]
            simpa [Instr.loadAt, Instr.sureAddr] using hu
          · cases hv
      obtain ⟨u, u1, u2⟩ := one
      exact ⟨u :: us, L2.cons u1 h1, by simp only [List.mapM_cons, Sem.run_bind, u2, Result.andThen_ok, h2, Sem.run_pure]⟩
    · cases h
/-! a function that has ranged over functions leaves: its marks are taken -/
def shutW (W : World) (ds : List Nat) : World := ds.foldl (fun W b => W.putObj b (.deferred none)) W
theorem shutW_heap : ∀ (ds : List Nat) (W : World) (k : Nat), k ∉ ds → (shutW W ds).heap[k]? = W.heap[k]? := by
  intro ds
  induction ds with
  | nil => intro W k _; rfl
  | cons d ds ih =>
    intro W k hk
    rw [List.mem_cons, not_or] at hk
    show (shutW (W.putObj d (.deferred none)) ds).heap[k]? = _
    rw [ih _ k hk.2, World.putObj_heap_other hk.1]
theorem shutW_rest : ∀ (ds : List Nat) (W : World), (shutW W ds).os = W.os ∧ (shutW W ds).tape = W.tape ∧ (shutW W ds).output = W.output ∧ W.heap.size ≤ (shutW W ds).heap.size := by
  intro ds
  induction ds with
  | nil => intro W; exact ⟨rfl, rfl, rfl, Nat.le_refl _⟩
  | cons d ds ih =>
    intro W
    obtain ⟨h1, h2, h3, h4⟩ := ih (W.putObj d (.deferred none))
    exact ⟨h1, h2, h3, by rw [World.putObj_size] at h4; exact h4⟩
theorem leaves_marks {P : Program} {fn : Func} {tmps : Array Value} {n : Nat} {R : Ending → World → Prop} : ∀ (ds : List Nat) (W : World), ds.Nodup → (∀ b ∈ ds, W.heap[b]? = some (.deferred (some []))) → LeavesInM Fence.wide n P fn tmps R [] .returning (shutW W ds) → LeavesInM Fence.wide n P fn tmps R (ds.map markOf) .returning W := by
  intro ds
  induction ds with
  | nil => intro W _ _ h; exact h
  | cons d ds ih =>
    intro W hn hb h
    have hn := List.nodup_cons.1 hn
    refine ⟨by simp, .inl ⟨d, W.putObj d (.deferred none), rfl, run_takeDeferred (hb d (by simp)), ih _ hn.2 (fun b hbm => ?_) h⟩⟩
    rw [World.putObj_heap_other (fun e : b = d => hn.1 (e ▸ hbm))]
    exact hb b (by simp [hbm])
/-- records from n on are let go -/
def Mem.drop (M : Mem) (n : Nat) : Mem := { M with obj := fun b => if b < M.base then M.obj b else none, base := n }
/-- the memory where a function is entered -/
def Mem.enter (M : Mem) (n : Nat) : Mem := { M with base := n }
theorem VR.enter {M : Mem} {ρ : Nm} {a : AV} {v : Value} (n : Nat) (h : VR M ρ a v) : VR (M.enter n) ρ a v := VR.monoC (M := M) (M' := M.enter n) (fun _ _ _ e => e) (fun _ _ e => e) h (Nm.le.refl _)
theorem VR.drop {M : Mem} {ρ : Nm} {a : AV} {v : Value} (n : Nat) (h : VR M ρ a v) : VR (M.drop n) ρ a v := VR.monoC (M := M) (M' := M.drop n) (fun _ _ _ e => e) (fun _ _ e => e) h (Nm.le.refl _)
theorem BR.drop {ρ : Nm} {M : Mem} {W : World} {b : Nat} {s : Sz} {B : Bk} (n : Nat) (h : BR ρ M W b s B) : BR ρ (M.drop n) W b s B := by
  cases B with
  | dead => trivial
  | arr L cs fz =>
    obtain ⟨b1, b2, ⟨cur, e, fr, b3, b4, b5, b6⟩, b7, b8⟩ := h
    exact ⟨b1, b2, ⟨cur, e, fr, b3, b4, b5, fun i c hc => by obtain ⟨u, u1, u2, u3⟩ := b6 i c hc; exact ⟨u, u1, u2, u3.drop n⟩⟩, b7, b8⟩
  | map es fz =>
    obtain ⟨⟨ents, clock, b1, bt, pq, b2, b3, b4, b5, b6⟩, b7⟩ := h
    exact ⟨⟨ents, clock, b1, bt, pq, b2, b3, b4, fun i c v x y => (b5 i c v x y).drop n, fun i c v x y => (b6 i c v x y).drop n⟩, b7⟩
  | iter cur left =>
    obtain ⟨h0i, m, since, seen, last, b1, b2⟩ := h
    refine ⟨h0i, m, since, seen, last, b1, ?_⟩
    cases m with
    | none => exact b2
    | some mb =>
      obtain ⟨kv, k1, k2, k3, ⟨rest, r1, r2, r3, r4⟩, k4⟩ := b2
      exact ⟨kv, k1, k2, k3, ⟨rest, r1, r2, fun i c v x y => (r3 i c v x y).drop n, fun i c v x y => (r4 i c v x y).drop n⟩, fun c hc => by obtain ⟨e, e1, e2, e3, e4⟩ := k4 c hc; exact ⟨e, e1, e2, e3.drop n, e4.drop n⟩⟩
theorem BR.enter {ρ : Nm} {M : Mem} {W : World} {b : Nat} {s : Sz} {B : Bk} (n : Nat) (h : BR ρ M W b s B) : BR ρ (M.enter n) W b s B := by
  cases B with
  | dead => trivial
  | arr L cs fz =>
    obtain ⟨b1, b2, ⟨cur, e, fr, b3, b4, b5, b6⟩, b7, b8⟩ := h
    exact ⟨b1, b2, ⟨cur, e, fr, b3, b4, b5, fun i c hc => by obtain ⟨u, u1, u2, u3⟩ := b6 i c hc; exact ⟨u, u1, u2, u3.enter n⟩⟩, b7, b8⟩
  | map es fz =>
    obtain ⟨⟨ents, clock, b1, bt, pq, b2, b3, b4, b5, b6⟩, b7⟩ := h
    exact ⟨⟨ents, clock, b1, bt, pq, b2, b3, b4, fun i c v x y => (b5 i c v x y).enter n, fun i c v x y => (b6 i c v x y).enter n⟩, b7⟩
  | iter cur left =>
    obtain ⟨h0i, m, since, seen, last, b1, b2⟩ := h
    refine ⟨h0i, m, since, seen, last, b1, ?_⟩
    cases m with
    | none => exact b2
    | some mb =>
      obtain ⟨kv, k1, k2, k3, ⟨rest, r1, r2, r3, r4⟩, k4⟩ := b2
      exact ⟨kv, k1, k2, k3, ⟨rest, r1, r2, fun i c v x y => (r3 i c v x y).enter n, fun i c v x y => (r4 i c v x y).enter n⟩, fun c hc => by obtain ⟨e, e1, e2, e3, e4⟩ := k4 c hc; exact ⟨e, e1, e2, e3.enter n, e4.enter n⟩⟩
theorem Rel.shut {C : Cx} {w0 W : World} {ρ : Nm} {M : Mem} {st : St} {a : Act} (h : Rel C w0 ρ M st a W) (n : Nat) (hn : n ≤ W.heap.size) (hwn : w0.heap.size ≤ M.base) : ∃ ds : List Nat, a.defers = ds.map markOf ∧ ds.Nodup ∧ (∀ b ∈ ds, W.heap[b]? = some (.deferred (some []))) ∧ Rel C w0 ρ (M.drop n) st { a with defers := [] } (shutW W ds) := by
  obtain ⟨ds, d1, d2, d3⟩ := h.defers
  have hob : ∀ b ∈ ds, W.heap[b]? = some (.deferred (some [])) := fun b hb => (h.wr.fro.obj _ _ (d3 b hb).2).1
  obtain ⟨s1, s2, s3, s4⟩ := shutW_rest ds W
  have hcell : ∀ (b : Nat) (o : Obj), W.heap[b]? = some o → (∀ x, o ≠ .deferred x) → (shutW W ds).heap[b]? = W.heap[b]? := fun b o hb ho => shutW_heap ds W b fun hm => by
    have := hob b hm
    rw [hb] at this
    cases this
    exact ho _ rfl
  have hblk : ∀ i b s B, ρ i = some (b, s) → st.h[i]? = some B → B.live → (shutW W ds).heap[b]? = W.heap[b]? := by
    intro i b s B hi hB hl
    have hbr := h.wr.blk i b s B hi hB
    cases B with
    | dead => exact absurd hl (by simp [Bk.live])
    | arr L cs fz =>
      obtain ⟨b1, b2, ⟨cur, e, fr, b3, _⟩, _⟩ := hbr
      exact hcell b _ b3 (fun x e => by cases e)
    | map es fz =>
      obtain ⟨⟨ents, clock, b1, _⟩, _⟩ := hbr
      exact hcell b _ b1 (fun x e => by cases e)
    | iter c l =>
      obtain ⟨h0i, m, since, seen, last, b1, _⟩ := hbr
      exact hcell b _ b1 (fun x e => by cases e)
  refine ⟨ds, d1, d2, hob, ⟨⟨h.slots.len, fun i c v p q => (h.slots.at_ i c v p q).drop _⟩, ⟨?_, ⟨fun b o v e => ?_, fun b kv e => ?_, fun b o e => ?_, Nat.le_trans hn s4⟩, h.wr.dom, h.wr.inj, h.wr.new, fun i b s B hi hB => ?_, fun i b s B hi hB hl => by show (if b < M.base then M.obj b else none) = none; rw [h.wr.apart i b s B hi hB hl]; split <;> rfl⟩, fun g cs hg => (h.glob g cs hg).drop _, h.keep, Marks.nil _⟩⟩
  · refine h.wr.bel.trans ⟨s1, s2, s3, s4, fun k hk => shutW_heap ds W k fun hm => ?_⟩
    have := (d3 k hm).1
    omega
  · obtain ⟨k1, k2⟩ := h.wr.fro.cell b o v e
    refine ⟨?_, k2⟩
    rw [World.cell?_of_block (w := W) (a := ⟨b, o, none⟩) ?_]
    · exact k1
    · show (shutW W ds).heap[b]? = W.heap[b]?
      cases ho : W.heap[b]? with
      | none => simp [World.cell?, ho] at k1
      | some x =>
        rw [← ho]
        refine hcell b x ho fun y e => ?_
        subst e
        simp [World.cell?, ho] at k1
  · obtain ⟨k1, k2⟩ := h.wr.fro.map b kv e
    exact ⟨(hcell b _ k1 (fun x e => by cases e)).trans k1, k2⟩
  · have e' : (if b < M.base then M.obj b else none) = some o := e
    split at e'
    · rename_i hb
      obtain ⟨k1, k2⟩ := h.wr.fro.obj b o e'
      exact ⟨(shutW_heap ds W b fun hm => by have := (d3 b hm).1; omega).trans k1, k2⟩
    · cases e'
  · by_cases hl : B.live
    · exact ((h.wr.blk i b s B hi hB).keep (Nm.le.refl _) (hblk i b s B hi hB hl)).drop _
    · cases B with
      | dead => trivial
      | arr => exact absurd trivial hl
      | map => exact absurd trivial hl
      | iter => exact absurd trivial hl
theorem fnRun_ok {P : Program} {G : Nat → Option (List AV)} {hs : Nat → Nat → Hint} {f : FuncId} {args : List AV} {H H' : List Bk} {r : AV} {ps : List Prop} (h : fnRun P G hs f args H = some (r, H', ps)) (hp : allP ps) : CallH P G f args H r H' ∧ H.length ≤ H'.length := by
  unfold fnRun at h
  split at h
  · rename_i fn hfn
    split at h
    · rename_i c hc
      split at h
      · cases h
      · rename_i e st ps' hne hrun
        split at h
        · rename_i vs hvs
          split at h
          · rename_i hcc
            obtain ⟨hlen, hname⟩ := hcc
            cases h
            refine ⟨⟨by unfold enterOk; rw [hfn]; simp [hc, hname], ?_⟩, hlen⟩
            intro w0 ρ M W vals hw hg hargs
            have htri := run_ok c _ _ _ _ hrun hp
            have hw' : WR w0 ρ (M.enter W.heap.size) H W := ⟨hw.bel, ⟨hw.fro.cell, hw.fro.map, hw.fro.obj, Nat.le_refl _⟩, hw.dom, hw.inj, hw.new, fun i b s B h1 h2 => (hw.blk i b s B h1 h2).enter _, hw.apart⟩
            have hg' : GlobR G (M.enter W.heap.size) := fun g cs h => (hg g cs h).enter _
            have hargs' : L2 (VR (M.enter W.heap.size) ρ) args vals := ⟨hargs.len, fun i c v h1 h2 => (hargs.at_ i c v h1 h2).enter _⟩
            have hR : Rel ⟨P, G, H.length⟩ w0 ρ (M.enter W.heap.size) ⟨args ++ List.replicate (fn.ntmps - args.length) (.tup []), H⟩ { tmps := vals.toArray ++ Array.replicate (fn.ntmps - vals.toArray.size) undef, defers := [] } W := by
              refine ⟨?_, hw', hg', Nat.le_refl _, Marks.nil _⟩
              have : (vals.toArray ++ Array.replicate (fn.ntmps - vals.toArray.size) undef).toList = vals ++ List.replicate (fn.ntmps - args.length) undef := by simp [hargs.len]
              rw [this]
              refine hargs'.append ⟨by simp, fun i c v h1 h2 => ?_⟩
              rw [List.getElem?_replicate] at h1 h2
              split at h1
              · rename_i hi
                rw [if_pos hi] at h2
                cases h1; cases h2
                exact .mkTup (vs := []) L2.nil
              · cases h1
            refine (callsIn_wide (n := 0)).1 (callsIn_of_wp_marks hfn hc trivial ((wpIn_wide (n := 0)).2 (Code.wp_mono (fun x a' W1 hx => ?_) (htri w0 ρ (M.enter W.heap.size) _ W hR))) rfl)
            obtain ⟨rfl, ρ', M1, q1', q2, q3', q4'⟩ := hx
            have hb1 : M1.base = W.heap.size := q1'.base
            obtain ⟨ds, d1, d2, d3, q4⟩ := q4'.shut M.base (Nat.le_trans hw.fro.base (by rw [← hb1]; exact q4'.wr.fro.base)) (by rw [hb1]; exact hw.bel.size)
            generalize hW' : shutW W1 ds = W' at q4
            generalize hM' : M1.drop M.base = M' at q4
            have q1 : M.le M' := by
              subst hM'
              refine ⟨q1'.cell, q1'.map, fun b o e => ?_, rfl, q1'.oc⟩
              show (if b < M1.base then M1.obj b else none) = some o
              rw [if_pos (by rw [hb1]; exact hw.fro.lto e)]
              exact q1'.obj b o e
            have q3 : Fresh M M' w0.heap.size := by subst hM'; exact ⟨q3'.cell, q3'.map, fun b o hb e => by
              have e' : (if b < M1.base then M1.obj b else none) = some o := e
              split at e'
              · exact q3'.obj b o hb e'
              · cases e'⟩
            obtain ⟨us, hus, hrs⟩ := res_ok q4 _ _ hvs
            have hle : ρ.le ρ' := fun i x hi => q2 i (hw.dom i x hi) x hi
            have hres : ∃ u, (results fn a'.tmps).run P W' = .ok u W' ∧ VR M' ρ' (oneOf vs) u := by
              rw [results_get]
              have hm : (fn.results.mapM (rvGet a'.tmps)).run P W' = .ok us.toArray W' := by
                rw [← Array.toArray_toList (xs := fn.results), List.mapM_toArray, ← bind_pure_comp]
                simp only [Sem.run_bind]
                have hrs' : (fn.results.toList.mapM (rvGet a'.tmps)).run P W' = .ok us W' := hrs
                simp only [hrs', Result.andThen_ok, Sem.run_pure, Function.comp]
              simp only [Sem.run_bind]
              simp only [hm, Result.andThen_ok, Sem.run_pure]
              match vs, us, hus with
              | [v], [u], hus =>
                exact ⟨u, by simp, hus.at_ 0 v u rfl rfl⟩
              | [], [], hus => exact ⟨.tuple #[], by simp, .mkTup (vs := []) L2.nil⟩
              | v :: v2 :: vs, u :: u2 :: us, hus => exact ⟨.tuple (u :: u2 :: us).toArray, by simp, .mkTup hus⟩
              | [], u :: us, hus => have := hus.len; simp at this
              | [v], [], hus => have := hus.len; simp at this
              | [v], u :: u2 :: us, hus => have := hus.len; simp at this
              | v :: v2 :: vs, [], hus => have := hus.len; simp at this
              | v :: v2 :: vs, [u], hus => have := hus.len; simp at this
            obtain ⟨u, hu1, hu2⟩ := hres
            have fin : ∃ v ρ' M', Ending.returned u = .returned v ∧ M.le M' ∧ ρ.le ρ' ∧ WR w0 ρ' M' st.h W' ∧ VR M' ρ' (oneOf vs) v ∧ Fresh M M' w0.heap.size := ⟨u, ρ', M', rfl, q1, hle, q4.wr, hu2, q3⟩
            cases e with
            | normal =>
              show LeavesInM Fence.wide 0 P fn a'.tmps _ a'.defers .returning W1
              rw [d1]
              exact leaves_marks ds W1 d2 d3 (by rw [hW']; exact ⟨u, hu1, fin⟩)
            | ret =>
              show LeavesInM Fence.wide 0 P fn a'.tmps _ a'.defers .returning W1
              rw [d1]
              exact leaves_marks ds W1 d2 d3 (by rw [hW']; exact ⟨u, hu1, fin⟩)
            | exit j => exact (hne j rfl).elim
          · cases h
        · cases h
      · cases h
    · cases h
  · cases h
end
end Go.Pm

set_option linter.unusedVariables false
namespace Go.Pm
open Go Go.RowKit
def frzT (g : Nat → Option Bk) : AV → AV
  | .tup vs => .tup (vs.map (frzA g))
  | x => frzA g x
def idsT : AV → List Nat
  | .tup vs => vs.flatMap idsA
  | x => idsA x
/-- a function upon values that nobody writes any more: what it hands back, nobody writes any more -/
def pureRun (P : Program) (G : Nat → Option (List AV)) (hs : Nat → Nat → Hint) (f : FuncId) (args : List AV) : Option (AV × List Prop) :=
  match fnRun P G hs f args [] with
  | some (r, H, ps) => if ((idsT r).all fun i => ((H[i]?).map pureB).getD false) = true ∧ pureT (frzT (fun j => H[j]?) r) = true then some (frzT (fun j => H[j]?) r, ps) else none
  | none => none
/-- the same, where the cells are as said -/
def pureSaid (P : Program) (G : Nat → Option (List AV)) (hs : Nat → Nat → Hint) (f : FuncId) (args : List AV) : Option (AV × List Prop) :=
  match fnRun P G hs f args [] with
  | some (r, H, ps) => some (frzT (fun j => H[j]?) r, ps ++ [((idsT r).all fun i => ((H[i]?).map pureB).getD false) = true, pureT (frzT (fun j => H[j]?) r) = true])
  | none => none
section
variable {P : Program} {w0 W : World} {ρ : Nm} {M : Mem} {H : List Bk}
theorem frzT_ok (hw : WR w0 ρ M H W) {F : List Nat} {x : AV} {v : Value} (hv : VR M ρ x v) (hF : ∀ i ∈ idsT x, i ∈ F ∧ ((H[i]?).map pureB).getD false = true) (hp : pureT (frzT (fun j => H[j]?) x) = true) :
    VR (frzM M ρ H W F) Nm.none (frzT (fun j => H[j]?) x) v := by
  by_cases ha : ∃ cs, x = .tup cs
  · obtain ⟨cs, rfl⟩ := ha
    obtain ⟨vs, rfl, h1⟩ := hv.inv_tup
    simp only [frzT, pureT] at hp ⊢
    refine .mkTup ⟨by simpa using h1.len, fun i c v hc hv' => ?_⟩
    simp only [List.getElem?_map, Option.map_eq_some_iff] at hc
    obtain ⟨c0, hc0, rfl⟩ := hc
    refine frzA_ok hw (h1.at_ i c0 v hc0 hv') (fun j hj => hF j ?_) ?_
    · simp only [idsT, List.mem_flatMap]
      exact ⟨c0, List.mem_of_getElem? hc0, hj⟩
    · exact List.all_eq_true.1 hp _ (List.mem_map.2 ⟨c0, List.mem_of_getElem? hc0, rfl⟩)
  · have e1 : frzT (fun j => H[j]?) x = frzA (fun j => H[j]?) x := by cases x <;> first | rfl | exact absurd ⟨_, rfl⟩ ha
    have e2 : idsT x = idsA x := by cases x <;> first | rfl | exact absurd ⟨_, rfl⟩ ha
    rw [e1] at hp ⊢
    rw [e2] at hF
    refine frzA_ok hw hv hF ?_
    have hna : ∀ cs, frzA (fun j => H[j]?) x ≠ .tup cs := by
      intro cs
      cases x <;> simp [frzA, frzC] <;> (split <;> simp)
    generalize frzA (fun j => H[j]?) x = y at hp hna
    cases y <;> first | exact hp | exact absurd rfl (hna _)
theorem pure_core {G : Nat → Option (List AV)} {f : FuncId} {args : List AV} {r : AV} (hc : CallH P G f args [] r H) (h1 : ((idsT r).all fun i => ((H[i]?).map pureB).getD false) = true) (h2 : pureT (frzT (fun j => H[j]?) r) = true) : Pure P G f args (frzT (fun j => H[j]?) r) [] := by
  refine ⟨hc.1, fun w0 ρ M W vals hw hg hargs => ?_⟩
  refine (hc.2 w0 ρ M W vals hw hg hargs).mono fun e w' hh => ?_
  obtain ⟨v, ρ', M', rfl, q1, q2, q3, q4, q5⟩ := hh
  obtain ⟨hwk, hfr⟩ := q3.mark (idsT r)
  have hno : ∀ i x, ρ i = some x → False := fun i x hi => by have := hw.dom i x hi; simp at this
  refine ⟨v, ρ, _, rfl, q1.trans (frzM_le M' ρ' H w' (idsT r)), Nm.le.refl _, ⟨hwk.bel, hwk.fro, fun i x hi => (hno i x hi).elim, fun i j b s t B B' hi => (hno i _ hi).elim, fun i b s B hi => (hno i _ hi).elim, fun i b s B hi => (hno i _ hi).elim, fun i b s B hi => (hno i _ hi).elim⟩, ?_, q5.trans hfr⟩
  exact (frzT_ok q3 q4 (fun i hi => ⟨hi, List.all_eq_true.1 h1 i hi⟩) h2).mono (Mem.le.refl _) (Nm.none_le _)
/-- THE LAW OF A FUNCTION THAT IS RECKONED -/
theorem pure_of {G : Nat → Option (List AV)} {hs : Nat → Nat → Hint} {f : FuncId} {args : List AV} {r : AV} {ps : List Prop} (h : pureRun P G hs f args = some (r, ps)) (hp : allP ps) : Pure P G f args r [] := by
  unfold pureRun at h
  split at h
  · rename_i r0 H ps0 hr
    split at h
    · rename_i hc
      cases h
      exact pure_core (fnRun_ok hr hp).1 hc.1 hc.2
    · cases h
  · cases h
theorem pure_said {G : Nat → Option (List AV)} {hs : Nat → Nat → Hint} {f : FuncId} {args : List AV} {r : AV} {ps : List Prop} (h : pureSaid P G hs f args = some (r, ps)) (hp : allP ps) : Pure P G f args r [] := by
  unfold pureSaid at h
  split at h
  · rename_i r0 H ps0 hr
    cases h
    obtain ⟨h1, h2⟩ := allP_append hp
    exact pure_core (fnRun_ok hr h1).1 h2.1 h2.2.1
  · cases h
/-! a state seen more weakly: numbers of blocks given anew, slots forgotten -/
def renC (l : List Nat) : AV → AV
  | .osl i o n k => .osl (l.getD i 0) o n k
  | .ptr i o => .ptr (l.getD i 0) o
  | .omp i => .omp (l.getD i 0)
  | x => x
def renA (l : List Nat) : AV → AV
  | .agg cs => .agg (cs.map (renC l))
  | .tup cs => .tup (cs.map fun c => match c with | .agg ds => .agg (ds.map (renC l)) | x => renC l x)
  | .fn f a b => .fn f (a.map fun c => match c with | .agg ds => .agg (ds.map (renC l)) | x => renC l x) (b.map fun c => match c with | .agg ds => .agg (ds.map (renC l)) | x => renC l x)
  | x => renC l x
end
end Go.Pm

set_option linter.unusedVariables false
namespace Go.Pm
open Go Go.RowKit
theorem VR.split {M : Mem} {ρ : Nm} {n : Nat} {cs : List AV} {v : Value} (h : VR M ρ (.sl n cs) v) : VR M ρ (.sx n cs) v ∨ (v = .slice none 0 0 ∧ n = 0 ∧ cs = []) := by
  cases h with
  | sl_e a b =>
    rename_i A cap
    cases A with
    | none =>
      obtain rfl := b rfl
      obtain rfl := Nat.le_zero.1 a
      exact .inr ⟨rfl, rfl, rfl⟩
    | some A => exact .inl (.sx_e a)
  | sl f a b d => exact .inl (.sx f a b d)
/-- a function upon one slice: the slice is nil or not -/
theorem pure_nil1 {P : Program} {G : Nat → Option (List AV)} {f : FuncId} {n : Nat} {cs : List AV} {r : AV} (h1 : Pure P G f [.sx n cs] r []) (h2 : n = 0 → cs = [] → Pure P G f [.s (.slice none 0 0)] r []) : Pure P G f [.sl n cs] r [] := by
  refine ⟨h1.1, fun w0 ρ M W vals hw hg hargs => ?_⟩
  obtain ⟨v, us, rfl, q1, q2⟩ := hargs.inv_cons
  obtain rfl : us = [] := by have := q2.len; cases us <;> simp at this; rfl
  rcases q1.split with q | ⟨rfl, rfl, rfl⟩
  · exact h1.2 w0 ρ M W _ hw hg (.cons q .nil)
  · exact (h2 rfl rfl).2 w0 ρ M W _ hw hg (.cons (.s _ _) .nil)
end Go.Pm

set_option linter.unusedVariables false
namespace Go.Pm
open Go Go.RowKit
/-- what a row of cells looks like -/
inductive Sh where
  | int (k : IntKind) | bool | str
  | sl (e : Sh)
  | unit
  | seq (a b : Sh)
def Fits : Sh → List AV → Prop
  | .int k, cs => ∃ n, cs = [.s (.int k n)] ∧ (Lit.int k n).wf = true
  | .bool, cs => ∃ b, cs = [.s (.bool b)]
  | .str, cs => ∃ s, cs = [.s (.string s)] ∧ s.size ≤ maxLen
  | .sl e, cs => ∃ els : List (List AV), cs = [.sl els.length els.flatten] ∧ els.length ≤ maxLen ∧ ∀ x ∈ els, Fits e x
  | .unit, cs => cs = []
  | .seq a b, cs => ∃ x y, cs = x ++ y ∧ Fits a x ∧ Fits b y
theorem Fits.cell : ∀ (s : Sh) (cs : List AV), Fits s cs → ∀ c ∈ cs, isCell c = true := by
  intro s
  induction s with
  | int k => rintro cs ⟨n, rfl, _⟩ c hc; simp at hc; subst hc; rfl
  | bool => rintro cs ⟨n, rfl⟩ c hc; simp at hc; subst hc; rfl
  | str => rintro cs ⟨n, rfl, _⟩ c hc; simp at hc; subst hc; rfl
  | sl e _ => rintro cs ⟨els, rfl, _⟩ c hc; simp at hc; subst hc; rfl
  | unit => rintro cs rfl c hc; simp at hc
  | seq a b ha hb =>
    rintro cs ⟨x, y, rfl, h1, h2⟩ c hc
    rcases List.mem_append.1 hc with h | h
    · exact ha _ h1 c h
    · exact hb _ h2 c h
def fieldsSh (P : Program) (g : TypeId → Option Sh) (total : Nat) : List Field → Nat → Option Sh
  | [], off => if off = total then some .unit else none
  | f :: r, off => if f.offset = off then
      match g f.type, fieldsSh P g total r (off + P.cellsOf f.type) with
      | some a, some b => some (.seq a b)
      | _, _ => none
    else none
def repSh (a : Sh) : Nat → Sh
  | 0 => .unit
  | n + 1 => .seq a (repSh a n)
def shOf (P : Program) : Nat → TypeId → Option Sh
  | 0, _ => none
  | n + 1, t => match P.underlying t with
    | some .bool => some .bool
    | some (.int k) => some (.int k)
    | some .string => some .str
    | some (.slice e) => (shOf P n e).map .sl
    | some (.struct fs) => fieldsSh P (shOf P n) (P.cellsOf t) fs.toList 0
    | some (.array len e) => if len * P.cellsOf e = P.cellsOf t then (shOf P n e).map fun a => repSh a len else none
    | _ => none
/-- the memory that is there -/
def memOf (W : World) : Mem where
  cell b o := match W.cell? ⟨b, o, none⟩ with
    | some v => if v.oneCell' = true then some v else none
    | none => none
  map b := none
theorem memOf_cell {W : World} {b o : Nat} {v : Value} (h : W.cell? ⟨b, o, none⟩ = some v) (h1 : v.oneCell' = true) : (memOf W).cell b o = some v := by simp [memOf, h, h1]
theorem memOf_fro (W : World) : Fro (memOf W) W := by
  refine ⟨fun b o v h => ?_, fun b kv h => by simp [memOf] at h, fun b o h => by simp [memOf] at h, Nat.zero_le _⟩
  simp only [memOf] at h
  split at h
  · rename_i u hu
    split at h
    · rename_i h1; cases h; exact ⟨hu, h1⟩
    · cases h
  · cases h
section
variable {P : Program} {W : World} {H : Type} {enc : TypeId × Value → H} {spare : Nat → Bool} {held : Bool}
abbrev VIn (W : World) : AV → Value → Prop := VR (memOf W) Nm.none
theorem fields_open {g : TypeId → Option Sh} {n : Nat} (hg : ∀ t s, g t = some s → ∀ cs x, DataW.trod enc P W 0 spare held n t cs = some x → ∃ as, Fits s as ∧ L2 (VIn W) as cs) {total : Nat} {cs : List Value} (hl : cs.length = total) :
    ∀ (fs : List Field) (off : Nat) (s : Sh), fieldsSh P g total fs off = some s → off ≤ total → (∀ f ∈ fs, ∃ x, DataW.trod enc P W 0 spare held n f.type ((cs.drop f.offset).take (P.cellsOf f.type)) = some x) →
      ∃ as, Fits s as ∧ L2 (VIn W) as (cs.drop off) := by
  intro fs
  induction fs with
  | nil =>
    intro off s h ho _
    simp only [fieldsSh] at h
    split at h
    · rename_i e; cases h
      exact ⟨[], rfl, by rw [List.drop_of_length_le (by omega)]; exact L2.nil⟩
    · cases h
  | cons f r ih =>
    intro off s h ho hf
    simp only [fieldsSh] at h
    split at h
    · rename_i e
      subst e
      split at h
      · rename_i a b ha hb
        cases h
        obtain ⟨x, hx⟩ := hf f (List.mem_cons_self ..)
        obtain ⟨as, f1, l1⟩ := hg _ _ ha _ _ hx
        by_cases hle : f.offset + P.cellsOf f.type ≤ total
        · obtain ⟨bs, f2, l2⟩ := ih _ _ hb hle (fun f' hf' => hf f' (List.mem_cons_of_mem _ hf'))
          refine ⟨as ++ bs, ⟨as, bs, rfl, f1, f2⟩, ?_⟩
          have := l1.append l2
          rwa [← List.drop_drop, List.take_append_drop] at this
        · exfalso
          have hbad : ∀ (r : List Field) (off : Nat) (b : Sh), total < off → fieldsSh P g total r off = some b → False := by
            intro r
            induction r with
            | nil => intro off b ho h; simp only [fieldsSh] at h; split at h <;> first | omega | cases h
            | cons f' r ih' =>
              intro off b ho h
              simp only [fieldsSh] at h
              split at h
              · split at h
                · rename_i q1 q2; exact ih' _ _ (by omega) q2
                · cases h
              · cases h
          exact hbad _ _ _ (by omega) hb
      · cases h
    · cases h
theorem reps_open {a : Sh} {sz : Nat} {cs : List Value} : ∀ (len off : Nat), cs.length = (off + len) * sz → (∀ i, off ≤ i → i < off + len → ∃ as, Fits a as ∧ L2 (VIn W) as ((cs.drop (i * sz)).take sz)) → ∃ as, Fits (repSh a len) as ∧ L2 (VIn W) as (cs.drop (off * sz)) := by
  intro len
  induction len with
  | zero => intro off hl _; exact ⟨[], rfl, by rw [List.drop_of_length_le (by rw [hl, Nat.add_zero]; exact Nat.le_refl _)]; exact L2.nil⟩
  | succ len ih =>
    intro off hl h
    obtain ⟨as, f1, l1⟩ := h off (Nat.le_refl _) (by omega)
    obtain ⟨bs, f2, l2⟩ := ih (off + 1) (by rw [hl]; congr 1; omega) (fun i h1 h2 => h i (by omega) (by omega))
    refine ⟨as ++ bs, ⟨as, bs, rfl, f1, f2⟩, ?_⟩
    have := l1.append l2
    rwa [show (off + 1) * sz = off * sz + sz by rw [Nat.add_mul, Nat.one_mul], ← List.drop_drop, List.take_append_drop] at this
/-- the elements of a row, one after the other -/
theorem els_open {s : Sh} {sz : Nat} {a : Addr} : ∀ (len : Nat), (∀ i, i < len → ∃ cs', W.cells? 0 (a.add (i * sz)) sz = some cs' ∧ ∃ as, Fits s as ∧ L2 (VIn W) as cs') →
    ∃ (els : List (List AV)) (vs : List Value), els.length = len ∧ (∀ x ∈ els, Fits s x) ∧ L2 (VIn W) els.flatten vs ∧ vs.length = len * sz ∧ ∀ (j : Nat) v, vs[j]? = some v → W.cell? (a.add j) = some v := by
  intro len
  induction len with
  | zero => intro _; exact ⟨[], [], rfl, by simp, L2.nil, by simp, by simp⟩
  | succ len ih =>
    intro h
    obtain ⟨els, vs, h1, h2, h3, h4, h5⟩ := ih (fun i hi => h i (by omega))
    obtain ⟨cs', hc, as, hf, hl⟩ := h len (by omega)
    obtain ⟨_, k1, k2⟩ := World.cells?_some hc
    refine ⟨els ++ [as], vs ++ cs', by simp [h1], fun x hx => ?_, ?_, by simp [h4, k1, Nat.add_mul], fun j v hj => ?_⟩
    · rcases List.mem_append.1 hx with h | h
      · exact h2 x h
      · simp at h; subst h; exact hf
    · rw [List.flatten_append]
      simpa using h3.append hl
    · by_cases hlt : j < vs.length
      · rw [List.getElem?_append_left hlt] at hj; exact h5 j v hj
      · rw [List.getElem?_append_right (by omega)] at hj
        have := k2 (j - vs.length) (by have := (List.getElem?_eq_some_iff.1 hj).1; omega)
        rw [h4] at hj
        rw [Deep.add_add, h4, hj] at this
        rwa [show len * sz + (j - len * sz) = j by omega] at this
theorem sh_open : ∀ (m : Nat) (t : TypeId) (s : Sh), shOf P m t = some s → ∀ (fuel : Nat) (cs : List Value) (x : DataW H × List MemPlace), DataW.trod enc P W 0 spare held fuel t cs = some x → ∃ as, Fits s as ∧ L2 (VIn W) as cs := by
  intro m
  induction m with
  | zero => intro t s h; cases h
  | succ m ih =>
    intro t s h fuel cs x hx
    simp only [shOf] at h
    split at h
    · rename_i ht
      cases h
      obtain ⟨b, rfl, rfl⟩ := DataW.trod_bool ht hx
      exact ⟨_, ⟨b, rfl⟩, .cons (.s _ _) .nil⟩
    · rename_i k ht
      cases h
      obtain ⟨n, rfl, rfl, hw⟩ := DataW.trod_int ht hx
      exact ⟨_, ⟨n, rfl, hw⟩, .cons (.s _ _) .nil⟩
    · rename_i ht
      cases h
      obtain ⟨q, rfl, rfl, hw⟩ := DataW.trod_string ht hx
      exact ⟨_, ⟨q, rfl, hw⟩, .cons (.s _ _) .nil⟩
    · rename_i e ht
      simp only [Option.map_eq_some_iff] at h
      obtain ⟨s', hs', rfl⟩ := h
      rcases Deep.open_slice ht hx with ⟨rfl, _⟩ | ⟨a, len, cap, q, n, D, Pl, rfl, _, hl, hm, hq, _, hall⟩
      · exact ⟨_, ⟨[], rfl, by simp, by simp⟩, .cons (.sl_e (Nat.le_refl _) (fun _ => rfl)) .nil⟩
      · obtain ⟨els, vs, h1, h2, h3, h4, h5⟩ := els_open (W := W) (s := s') (sz := P.cellsOf e) (a := a) len (fun i hi => by
          obtain ⟨cs', g1, g2⟩ := hall i (by rw [hq]; split <;> omega)
          exact ⟨cs', g1, ih _ _ hs' _ _ _ g2⟩)
        subst h1
        refine ⟨_, ⟨els, rfl, by omega, h2⟩, .cons ?_ .nil⟩
        have hcell : ∀ c ∈ els.flatten, isCell c = true := by
          intro c hc
          obtain ⟨l, hl', hc'⟩ := List.mem_flatten.1 hc
          exact Fits.cell s' l (h2 l hl') c hc'
        by_cases h0 : vs = []
        · subst h0
          have : els.flatten = [] := List.eq_nil_of_length_eq_zero h3.len
          rw [this]
          exact .sl_e hl (fun h => by cases h)
        · obtain ⟨v0, hv0⟩ : ∃ v, vs[0]? = some v := by
            cases hvs : vs with
            | nil => exact absurd hvs h0
            | cons p q => exact ⟨p, rfl⟩
          obtain ⟨b, off, sp⟩ := a
          have hsp : sp = none := by
            have := World.cell?_spot (h5 0 v0 hv0)
            simpa [Addr.add] using this
          subst hsp
          refine .sl (fun i => vs.getD i undef) hl (fun i c hc => ?_) (fun i c hc => ?_)
          · obtain ⟨v, hv, hr⟩ := h3.get hc
            have := h5 i v hv
            rw [add_flat] at this
            rw [List.getD_eq_getElem?_getD, hv]
            exact memOf_cell this (hr.cell1 (hcell c (List.mem_of_getElem? hc)))
          · obtain ⟨v, hv, hr⟩ := h3.get hc
            rw [List.getD_eq_getElem?_getD, hv]
            exact hr
    · rename_i fs ht
      obtain ⟨xs, n, _, _, hl, hxl, hf⟩ := DataW.trod_struct ht hx
      obtain ⟨as, f1, l1⟩ := fields_open (enc := enc) (spare := spare) (held := held) (n := n) (fun t s hs cs x hx => ih t s hs n cs x hx) hl fs.toList 0 s h (Nat.zero_le _) (fun f hfm => by
        obtain ⟨i, hi, rfl⟩ := List.mem_iff_getElem.1 hfm
        have hi' : i < fs.size := by simpa using hi
        have := hf i fs[i] (Array.getElem?_eq_getElem hi')
        rw [List.getElem?_eq_getElem (by omega)] at this
        exact ⟨_, by simpa using this⟩)
      exact ⟨as, f1, by simpa using l1⟩
    · rename_i len e ht
      split at h
      · rename_i hsz
        simp only [Option.map_eq_some_iff] at h
        obtain ⟨s', hs', rfl⟩ := h
        obtain ⟨xs, n, _, _, hl, hxl, hf⟩ := DataW.trod_array ht hx
        obtain ⟨as, f1, l1⟩ := reps_open (W := W) (a := s') (sz := P.cellsOf e) (cs := cs) len 0 (by rw [hl, ← hsz]; simp) (fun i _ hi => by
          have := hf i (by omega)
          rw [List.getElem?_eq_getElem (by omega)] at this
          exact ih _ _ hs' _ _ _ this)
        exact ⟨as, f1, by simpa using l1⟩
      · cases h
    · cases h
/-- an argument of one cell -/
theorem in_cell {m : Nat} {t : TypeId} {s : Sh} {v : Value} {d : DataW H} {ps : List MemPlace} (hs : shOf P m t = some s) (h1 : v.cells.toList = [v]) (h : DataW.Trod enc P W 0 spare held t v d ps) : ∃ a, Fits s [a] ∧ VIn W a v := by
  obtain ⟨fuel, hf⟩ := h
  obtain ⟨as, f1, l1⟩ := sh_open m t s hs fuel _ _ hf
  rw [h1] at l1
  have := l1.len
  cases as with
  | nil => simp at this
  | cons a as =>
    cases as with
    | nil => exact ⟨a, f1, l1.at_ 0 _ _ rfl rfl⟩
    | cons b as => simp at this
/-- an argument of a struct's type -/
theorem in_agg {m : Nat} {t : TypeId} {s : Sh} {cs : Array Value} {d : DataW H} {ps : List MemPlace} (hs : shOf P m t = some s) (h : DataW.Trod enc P W 0 spare held t (.agg cs) d ps) : ∃ as, Fits s as ∧ VIn W (.agg as) (.agg cs) := by
  obtain ⟨fuel, hf⟩ := h
  obtain ⟨as, f1, l1⟩ := sh_open m t s hs fuel _ _ hf
  refine ⟨as, f1, ?_⟩
  have l2 : L2 (VIn W) as cs.toList := l1
  have := VR.mkAgg l2 (fun u hu => by
    obtain ⟨i, hi, rfl⟩ := List.mem_iff_getElem.1 hu
    have hi' : i < as.length := by rw [l2.len]; exact hi
    exact (l2.at_ i as[i] _ (List.getElem?_eq_getElem hi') (List.getElem?_eq_getElem hi)).cell1 (Fits.cell s as f1 _ (List.getElem_mem _)))
  simpa using this
/-- a law's reckoning is a law's walk -/
theorem law_calls {f : FuncId} {args : List AV} {v : Value} {vals : List Value} {G : Nat → Option (List AV)} (h : Pure P G f args (.s v) []) (hg : GlobR G (memOf W)) (ha : L2 (VIn W) args vals) :
    Calls P f vals.toArray W (fun e W' => e = .returned v ∧ Below W.heap.size W W') := by
  refine (h.2 W Nm.none (memOf W) W vals ⟨Below.refl _ _, memOf_fro W, fun i x h => by simp [Nm.none] at h, fun i j b s t B B' h => by simp [Nm.none] at h, fun i b s B h => by simp [Nm.none] at h, fun i b s B h => by simp [Nm.none] at h, fun i b s B h => by simp [Nm.none] at h⟩ hg ha).mono fun e W' hh => ?_
  obtain ⟨u, ρ', M', rfl, q1, q2, q3, q4, q5⟩ := hh
  obtain rfl := q4.inv_s
  exact ⟨rfl, q3.bel⟩
end
end Go.Pm

set_option linter.unusedVariables false
namespace Go.Pm
open Go Go.RowKit
/-- the loop whose first region bears this number -/
def findLoop (r : Nat) : Code → Option Code
  | .loop b => if regKey b = r then some b else findLoop r b
  | .seq a b => match findLoop r a with
    | some c => some c
    | none => findLoop r b
  | .cond _ a b => match findLoop r a with
    | some c => some c
    | none => findLoop r b
  | .block _ b => findLoop r b
  | .scope b => findLoop r b
  | _ => none
def loopOf (P : Program) (f r : Nat) : Code := match P.funcs[f]? with
  | some fn => match fn.body with
    | some c => (findLoop r c).getD .skip
    | none => .skip
  | none => .skip
/-- slots, those named laid, the others unknown -/
def mkT (n : Nat) (l : List (Nat × AV)) : List AV := (List.range n).map fun i => match l.find? fun p => p.1 == i with
  | some p => p.2
  | none => .any
/-- one round, then the rest -/
theorem LoopT.step {C : Cx} {hs : Nat → Nat → Hint} {c : Code} {st st1 st2 st' : St} {e : Ex} {ps : List Prop} (f : Fg) (h : run C hs c st = some (.normal, st1, ps)) (hp : allP ps) (hf : Pm.forget f st1 = st2) (ha : allP (fgAsk f C.keep st1.h)) (h2 : LoopT C c st2 e st') : LoopT C c st e st' := by
  subst hf
  exact LoopT.next (Tri.forget (run_ok _ _ _ _ _ h hp) ha) h2
/-- the last round -/
theorem LoopT.stop {C : Cx} {hs : Nat → Nat → Hint} {c : Code} {st st' : St} {e : Ex} {ps : List Prop} (h : run C hs c st = some (e, st', ps)) (hp : allP ps) (hne : e ≠ .normal) : LoopT C c st e st' :=
  LoopT.exit (run_ok _ _ _ _ _ h hp) hne
/-- the last round, its end seen more weakly -/
theorem LoopT.stopF {C : Cx} {hs : Nat → Nat → Hint} {c : Code} {st st1 st' : St} {e : Ex} {ps : List Prop} (f : Fg) (h : run C hs c st = some (e, st1, ps)) (hp : allP ps) (hf : Pm.forget f st1 = st') (ha : allP (fgAsk f C.keep st1.h)) (hne : e ≠ .normal) : LoopT C c st e st' := by
  subst hf
  exact LoopT.exit (Tri.forget (run_ok _ _ _ _ _ h hp) ha) hne
/-- a walk, its end seen more weakly -/
def runF (C : Cx) (hs : Nat → Nat → Hint) (f : Fg) (c : Code) (st : St) : Option (Ex × St × List Prop) :=
  match run C hs c st with
  | some (e, st1, ps) => some (e, Pm.forget f st1, ps ++ fgAsk f C.keep st1.h)
  | none => none
theorem runF_ok {C : Cx} {hs : Nat → Nat → Hint} {f : Fg} {c : Code} {st st' : St} {e : Ex} {ps : List Prop} (h : runF C hs f c st = some (e, st', ps)) (hp : allP ps) : Tri C c st e st' := by
  unfold runF at h
  split at h
  · rename_i e1 st1 ps1 hr
    cases h
    obtain ⟨h1, h2⟩ := allP_append hp
    exact Tri.forget (run_ok _ _ _ _ _ hr h1) h2
  · cases h
theorem LoopT.go {C : Cx} {hs : Nat → Nat → Hint} {f : Fg} {c : Code} {st st2 st' : St} {e : Ex} {ps : List Prop} (h : runF C hs f c st = some (.normal, st2, ps)) (hp : allP ps) (h2 : LoopT C c st2 e st') : LoopT C c st e st' := LoopT.next (runF_ok h hp) h2
theorem LoopT.fin {C : Cx} {hs : Nat → Nat → Hint} {f : Fg} {c : Code} {st st' : St} {e : Ex} {ps : List Prop} (h : runF C hs f c st = some (e, st', ps)) (hp : allP ps) (hne : e ≠ .normal) : LoopT C c st e st' := LoopT.exit (runF_ok h hp) hne
end Go.Pm

set_option linter.unusedVariables false
namespace Go.Pm
open Go Go.RowKit
/-- a row of equal structs of whole numbers, as a datum -/
def rowsD {H : Type} (rows : List (List (IntKind × Int))) : DataW H := .agg (rows.map fun r => .agg (r.map fun p => .lit (.int p.1 p.2)))
section
variable {P : Program} {W : World} {H : Type} {enc : TypeId × Value → H} {spare : Nat → Bool} {held : Bool}
/-- one struct of whole numbers -/
theorem row_open {fuel base : Nat} {t : TypeId} {fs : Array Field} {cs : List Value} {r : List (IntKind × Int)} {p : List MemPlace} (ht : P.underlying t = some (.struct fs)) (hn : fs.size = r.length) (hc : P.cellsOf t = r.length)
    (hf : ∀ (i : Nat) f, fs[i]? = some f → f.offset = i ∧ P.cellsOf f.type = 1 ∧ ∃ k, P.underlying f.type = some (.int k)) (h : DataW.trod enc P W base spare held fuel t cs = some (.agg (r.map fun p => .lit (.int p.1 p.2)), p)) :
    cs = r.map fun p => Value.int p.1 p.2 := by
  obtain ⟨xs, n, _, hx, hl, hxl, hall⟩ := DataW.trod_struct ht h
  rw [hc] at hl
  have hd : xs.map (·.1) = r.map fun p => DataW.lit (.int p.1 p.2) := by
    have := congrArg Prod.fst hx
    simpa using this.symm
  apply List.ext_getElem?
  intro i
  by_cases hi : i < r.length
  · have hfi : i < fs.size := by omega
    obtain ⟨ho, h1, k, hk⟩ := hf i fs[i] (Array.getElem?_eq_getElem hfi)
    have hg := hall i fs[i] (Array.getElem?_eq_getElem hfi)
    rw [ho, h1, List.getElem?_eq_getElem (by omega)] at hg
    obtain ⟨z, hz, hzx, _⟩ := DataW.trod_int hk hg
    have hdi := congrArg (fun l => l[i]?) hd
    simp only [List.getElem?_map, List.getElem?_eq_getElem (show i < xs.length by omega), List.getElem?_eq_getElem hi, Option.map_some, Option.some.injEq] at hdi
    rw [hzx] at hdi
    simp only [DataW.lit.injEq, Lit.int.injEq] at hdi
    have hci : (cs.drop i).take 1 = [cs[i]'(by omega)] := by rw [List.drop_eq_getElem_cons (by omega)]; rfl
    rw [hci] at hz
    simp only [List.cons.injEq, and_true] at hz
    rw [List.getElem?_eq_getElem (by omega), List.getElem?_map, List.getElem?_eq_getElem hi, hz]
    simp [hdi.1, hdi.2]
  · rw [List.getElem?_eq_none (by omega), List.getElem?_eq_none (by simp; omega)]
theorem flat_open {α : Type} {cs : List Value} {sz : Nat} (f : α → List Value) : ∀ (rs : List α) (off : Nat), (∀ (i : Nat) r, rs[i]? = some r → (cs.drop ((off + i) * sz)).take sz = f r) → cs.length = (off + rs.length) * sz → cs.drop (off * sz) = rs.flatMap f := by
  intro rs
  induction rs with
  | nil => intro off _ hl; simp at hl; rw [List.drop_of_length_le (by omega)]; rfl
  | cons r rs ih =>
    intro off h hl
    have h0 := h 0 r rfl
    have h1 := ih (off + 1) (fun i r hi => by rw [show off + 1 + i = off + (i + 1) by omega]; exact h (i + 1) r (by simpa using hi)) (by rw [hl, List.length_cons]; congr 1; omega)
    rw [List.flatMap_cons, ← h1, ← h0, Nat.add_zero, Nat.add_mul, Nat.one_mul, ← List.drop_drop, List.take_append_drop]
/-- rows of structs of whole numbers -/
theorem rows_open {fuel base : Nat} {t e : TypeId} {fs : Array Field} {cs : List Value} {rows : List (List (IntKind × Int))} {sz : Nat} {p : List MemPlace} (ht : P.underlying t = some (.array rows.length e)) (he : P.underlying e = some (.struct fs)) (hce : P.cellsOf e = sz)
    (hct : P.cellsOf t = rows.length * sz) (hrow : ∀ r ∈ rows, r.length = sz) (hsz : fs.size = sz) (hf : ∀ (i : Nat) f, fs[i]? = some f → f.offset = i ∧ P.cellsOf f.type = 1 ∧ ∃ k, P.underlying f.type = some (.int k))
    (h : DataW.trod enc P W base spare held fuel t cs = some (rowsD rows, p)) : cs = rows.flatMap fun r => r.map fun p => Value.int p.1 p.2 := by
  obtain ⟨xs, n, _, hx, hl, hxl, hall⟩ := DataW.trod_array ht h
  have hd : xs.map (·.1) = rows.map fun r => DataW.agg (r.map fun p => .lit (.int p.1 p.2)) := by
    have := congrArg Prod.fst hx
    simpa [rowsD] using this.symm
  have key := flat_open (cs := cs) (sz := sz) (fun r : List (IntKind × Int) => r.map fun p => Value.int p.1 p.2) rows 0 (fun i r hi => by
    have hlt : i < rows.length := (List.getElem?_eq_some_iff.1 hi).1
    have hg := hall i hlt
    rw [hce, List.getElem?_eq_getElem (by omega)] at hg
    have hdi := congrArg (fun l => l[i]?) hd
    simp only [List.getElem?_map, List.getElem?_eq_getElem (show i < xs.length by omega), hi, Option.map_some, Option.some.injEq] at hdi
    have hxi : xs[i]'(by omega) = (DataW.agg (r.map fun p => .lit (.int p.1 p.2)), (xs[i]'(by omega)).2) := Prod.ext hdi rfl
    rw [hxi] at hg
    have hr := hrow r (List.mem_of_getElem? hi)
    rw [Nat.zero_add]
    exact row_open he (by omega) (by omega) hf hg) (by rw [hl, hct]; simp)
  simpa using key
end
end Go.Pm

set_option linter.unusedVariables false
namespace Go.Pm
open Go Go.RowKit
abbrev i64 (n : Int) : AV := .s (.int .i64 n)
abbrev i32 (n : Int) : AV := .s (.int .i32 n)
abbrev u8 (n : Int) : AV := .s (.int .u8 n)
abbrev u16 (n : Int) : AV := .s (.int .u16 n)
abbrev u32 (n : Int) : AV := .s (.int .u32 n)
abbrev u64 (n : Int) : AV := .s (.int .u64 n)
abbrev bl (b : Bool) : AV := .s (.bool b)
abbrev st (b : ByteArray) : AV := .s (.string b)
abbrev A (cs : List AV) : AV := .agg cs
theorem decide_t {p : Prop} [Decidable p] (h : p) : decide p = true := decide_eq_true h
theorem bdT {p : Prop} [Decidable p] (h : p) : bl (decide p) = bl true := by rw [decide_eq_true h]
theorem bdF {p : Prop} [Decidable p] (h : ¬ p) : bl (decide p) = bl false := by rw [decide_eq_false h]
theorem bvT {b : Bool} (h : b = true) : bl b = bl true := by rw [h]
theorem bvF {b : Bool} (h : ¬ b = true) : bl b = bl false := by rw [Bool.not_eq_true] at h; rw [h]
theorem bnT {b : Bool} (h : bl b = bl true) : bl (!b) = bl false := by cases b <;> simp_all
theorem bnF {b : Bool} (h : bl b = bl false) : bl (!b) = bl true := by cases b <;> simp_all
theorem beT {α : Type} [BEq α] [LawfulBEq α] {a b : α} (h : a = b) : bl (a == b) = bl true := by rw [h, beq_self_eq_true]
theorem beF {α : Type} [BEq α] [LawfulBEq α] {a b : α} (h : ¬ a = b) : bl (a == b) = bl false := by rw [beq_eq_false_iff_ne.2 h]
theorem neT {α : Type} [BEq α] [LawfulBEq α] {a b : α} (h : a = b) : bl (a != b) = bl false := by simp [bne, h]
theorem neF {α : Type} [BEq α] [LawfulBEq α] {a b : α} (h : ¬ a = b) : bl (a != b) = bl true := by simp [bne, beq_eq_false_iff_ne.2 h]
theorem toList_loop (a : ByteArray) : ∀ (n i : Nat) (r : List UInt8), a.size - i = n → ByteArray.toList.loop a i r = r.reverse ++ a.data.toList.drop i := by
  intro n
  induction n with
  | zero =>
    intro i r h
    unfold ByteArray.toList.loop
    rw [if_neg (by omega), List.drop_of_length_le (by rw [Array.length_toList]; show a.size ≤ i; omega), List.append_nil]
  | succ n ih =>
    intro i r h
    unfold ByteArray.toList.loop
    have hi : i < a.data.toList.length := by rw [Array.length_toList]; show i < a.size; omega
    have hi' : i < a.data.size := by simpa using hi
    have e : a.get! i = a.data.toList[i]'hi := by
      show a.data[i]! = _
      rw [getElem!_pos a.data i hi', Array.getElem_toList]
    rw [if_pos (by omega), ih (i + 1) _ (by omega), e, List.reverse_cons, List.append_assoc, List.drop_eq_getElem_cons hi]
    rfl
theorem toList_data (a : ByteArray) : a.toList = a.data.toList := by
  unfold ByteArray.toList
  rw [toList_loop a _ 0 [] rfl]
  simp
theorem toList_inj {a b : ByteArray} : a.toList = b.toList ↔ a = b := by
  rw [toList_data, toList_data]
  constructor
  · intro h
    apply ByteArray.ext
    exact Array.ext' h
  · intro h; rw [h]
theorem bsT {a b : ByteArray} (h : a = b) : bl (a.toList == b.toList) = bl true := by rw [h, beq_self_eq_true]
theorem bsF {a b : ByteArray} (h : ¬ a = b) : bl (a.toList == b.toList) = bl false := by
  rw [beq_eq_false_iff_ne.2 fun e => h (toList_inj.1 e)]
theorem intE {k : IntKind} {a b : Int} (h : a = b) : AV.s (.int k a) = AV.s (.int k b) := by rw [h]
theorem wrap_i64 {n : Int} (h0 : -9223372036854775808 ≤ n) (h : n ≤ 9223372036854775807) : IntKind.i64.wrap n = n := by
  simp only [IntKind.wrap, IntKind.signed, IntKind.bits]; simp; omega
theorem wrap_i32 {n : Int} (h0 : -2147483648 ≤ n) (h : n ≤ 2147483647) : IntKind.i32.wrap n = n := by
  simp only [IntKind.wrap, IntKind.signed, IntKind.bits]; simp; omega
theorem wrap_u8 {n : Int} (h0 : 0 ≤ n) (h : n ≤ 255) : IntKind.u8.wrap n = n := by
  simp only [IntKind.wrap, IntKind.signed, IntKind.bits]; simp; omega
theorem wrap_u16 {n : Int} (h0 : 0 ≤ n) (h : n ≤ 65535) : IntKind.u16.wrap n = n := by
  simp only [IntKind.wrap, IntKind.signed, IntKind.bits]; simp; omega
theorem wrap_u32 {n : Int} (h0 : 0 ≤ n) (h : n ≤ 4294967295) : IntKind.u32.wrap n = n := by
  simp only [IntKind.wrap, IntKind.signed, IntKind.bits]; simp; omega
theorem wrap_u64 {n : Int} (h0 : 0 ≤ n) (h : n ≤ 18446744073709551615) : IntKind.u64.wrap n = n := by
  simp only [IntKind.wrap, IntKind.signed, IntKind.bits]; simp; omega
theorem wrapE {k : IntKind} {m m' : Int} (h : m = m') (h2 : k.wrap m' = m') : k.wrap m = m' := by rw [h, h2]
theorem wrapE' {k : IntKind} {m m' x : Int} (h : m = m') (h2 : k.wrap m' = x) : k.wrap m = x := by rw [h, h2]
theorem wrap_u8_mod (n : Int) : IntKind.u8.wrap n = n % 256 := by simp only [IntKind.wrap, IntKind.signed, IntKind.bits]; simp
theorem wrap_u16_mod (n : Int) : IntKind.u16.wrap n = n % 65536 := by simp only [IntKind.wrap, IntKind.signed, IntKind.bits]; simp
theorem wrap_u32_mod (n : Int) : IntKind.u32.wrap n = n % 4294967296 := by simp only [IntKind.wrap, IntKind.signed, IntKind.bits]; simp
theorem wrap_u64_mod (n : Int) : IntKind.u64.wrap n = n % 18446744073709551616 := by simp only [IntKind.wrap, IntKind.signed, IntKind.bits]; simp
theorem pure_cast {P : Program} {G : Nat → Option (List AV)} {f : FuncId} {args : List AV} {r r' : AV} {news : List Bk} (h : Pure P G f args r' news) (e : r' = r) : Pure P G f args r news := e ▸ h
theorem callH_cast {P : Program} {G : Nat → Option (List AV)} {f : FuncId} {args : List AV} {H H1 H' : List Bk} {r r' : AV} (h : CallH P G f args H r' H1) (e : r' = r) (e2 : H1 = H') : CallH P G f args H r H' := e ▸ e2 ▸ h
/-! rows of elements, each of so many cells -/
def nth {α : Type} [Inhabited α] (l : List α) (k : Nat) : α := l.getD k default
theorem nth_eq {α : Type} [Inhabited α] {l : List α} {k : Nat} (h : k < l.length) : nth l k = l[k] := by simp [nth, List.getD_eq_getElem?_getD, List.getElem?_eq_getElem h]
theorem take_nth {α : Type} [Inhabited α] {l : List α} {k : Nat} (h : k < l.length) : l.take (k + 1) = l.take k ++ [nth l k] := by
  rw [nth_eq h, List.take_add_one, List.getElem?_eq_getElem h]; rfl
theorem drop_nth {α : Type} [Inhabited α] {l : List α} {k : Nat} (h : k < l.length) : l.drop k = nth l k :: l.drop (k + 1) := by
  rw [nth_eq h, List.drop_eq_getElem_cons h]
section
variable {α : Type} {enc : α → List AV} {sz : Nat}
theorem len_flat (he : ∀ x, (enc x).length = sz) (l : List α) : (l.flatMap enc).length = l.length * sz := by
  induction l with
  | nil => simp
  | cons x l ih => rw [List.flatMap_cons, List.length_append, he, ih, List.length_cons, Nat.add_mul]; omega
theorem flat_drop (he : ∀ x, (enc x).length = sz) (l : List α) (k : Nat) : (l.flatMap enc).drop (k * sz) = (l.drop k).flatMap enc := by
  induction k generalizing l with
  | zero => simp
  | succ k ih =>
    cases l with
    | nil => simp
    | cons x l =>
      rw [List.flatMap_cons, Nat.add_mul, Nat.one_mul, Nat.add_comm, ← List.drop_drop, List.drop_append_of_le_length (by rw [he]; exact Nat.le_refl _), List.drop_of_length_le (l := enc x) (by rw [he]; exact Nat.le_refl _), List.nil_append, ih, List.drop_succ_cons]
theorem flat_take (he : ∀ x, (enc x).length = sz) (l : List α) (k : Nat) : (l.flatMap enc).take (k * sz) = (l.take k).flatMap enc := by
  induction k generalizing l with
  | zero => simp
  | succ k ih =>
    cases l with
    | nil => simp
    | cons x l =>
      rw [List.flatMap_cons, Nat.add_mul, Nat.one_mul, Nat.add_comm, List.take_add, List.take_append_of_le_length (by rw [he]; exact Nat.le_refl _), List.take_of_length_le (l := enc x) (by rw [he]; exact Nat.le_refl _), List.drop_append_of_le_length (by rw [he]; exact Nat.le_refl _), List.drop_of_length_le (l := enc x) (by rw [he]; exact Nat.le_refl _), List.nil_append, ih, List.take_succ_cons, List.flatMap_cons]
theorem flat_all (he : ∀ x, (enc x).length = sz) (l : List α) : (l.flatMap enc).take (l.length * sz) = l.flatMap enc := by rw [flat_take he, List.take_length]
theorem flat_nth [Inhabited α] (he : ∀ x, (enc x).length = sz) {l : List α} {k : Nat} (h : k < l.length) : (l.flatMap enc).drop (k * sz) = enc (nth l k) ++ (l.drop (k + 1)).flatMap enc := by
  rw [flat_drop he, drop_nth h, List.flatMap_cons]
theorem flat_snoc (l : List α) (x : α) : l.flatMap enc ++ enc x = (l ++ [x]).flatMap enc := by simp
theorem flat_pure (hp : ∀ x, (enc x).all pureC = true) (l : List α) : (l.flatMap enc).all pureC = true := by
  rw [List.all_flatMap]
  exact List.all_eq_true.2 fun x _ => hp x
theorem flat_pureB (hp : ∀ x, (enc x).all pureC = true) (l : List α) (b : Bool) (hb : b = true) : ((l.flatMap enc).all pureC && b) = true := by rw [flat_pure hp, hb]; rfl
theorem flat_take1 (he : ∀ x, (enc x).length = sz) (l : List α) (n : Nat) (h : l.length * sz ≤ n) : (l.flatMap enc).take n = l.flatMap enc := List.take_of_length_le (by rw [len_flat he]; exact h)
theorem flat_piece (he : ∀ x, (enc x).length = sz) (l : List α) (a n : Nat) : ((l.flatMap enc).drop (a * sz)).take (n * sz) = ((l.drop a).take n).flatMap enc := by rw [flat_drop he, flat_take he]
theorem fits_list {e : Sh} {Q : α → Prop} (h : ∀ cs, Fits e cs → ∃ a : α, cs = enc a ∧ Q a) {cs : List AV} (hf : Fits (.sl e) cs) : ∃ l : List α, cs = [.sl l.length (l.flatMap enc)] ∧ l.length ≤ maxLen ∧ ∀ a ∈ l, Q a := by
  obtain ⟨els, rfl, hl, hall⟩ := hf
  have key : ∀ els : List (List AV), (∀ x ∈ els, Fits e x) → ∃ l : List α, els.length = l.length ∧ els.flatten = l.flatMap enc ∧ ∀ a ∈ l, Q a := by
    intro els
    induction els with
    | nil => intro _; exact ⟨[], rfl, rfl, by simp⟩
    | cons x els ih =>
      intro hx
      obtain ⟨a, rfl, ha⟩ := h x (hx x (List.mem_cons_self ..))
      obtain ⟨l, h1, h2, h3⟩ := ih fun y hy => hx y (List.mem_cons_of_mem _ hy)
      refine ⟨a :: l, by simp [h1], by simp [h2], fun b hb => ?_⟩
      rcases List.mem_cons.1 hb with rfl | hb
      · exact ha
      · exact h3 b hb
  obtain ⟨l, h1, h2, h3⟩ := key els hall
  exact ⟨l, by rw [h1, h2], by omega, h3⟩
end
/-- a loop of so many rounds -/
theorem LoopT.count {C : Cx} {c : Code} {e : Ex} {st' : St} (S : Nat → St) (n : Nat) (h1 : ∀ k, k < n → Tri C c (S k) .normal (S (k + 1))) (h2 : LoopT C c (S n) e st') : ∀ k, k ≤ n → LoopT C c (S k) e st' := by
  intro k hk
  obtain ⟨d, hd⟩ : ∃ d, k + d = n := ⟨n - k, by omega⟩
  induction d generalizing k with
  | zero => obtain rfl : k = n := by omega
            exact h2
  | succ d ih => exact LoopT.next (h1 k (by omega)) (ih (k + 1) (by omega) (by omega))
end Go.Pm

set_option linter.unusedVariables false
namespace Go.Pm
open Go Go.RowKit
theorem beq_blI {x y : Int} {p : Prop} [Decidable p] (h : x = y ↔ p) : bl (x == y) = bl (decide p) := by
  by_cases hp : p
  · rw [decide_eq_true hp, h.2 hp, beq_self_eq_true]
  · rw [decide_eq_false hp, beq_eq_false_iff_ne.2 (fun q => hp (h.1 q))]
theorem beq_blB {x y : Bool} {p : Prop} [Decidable p] (h : x = y ↔ p) : bl (x == y) = bl (decide p) := by
  by_cases hp : p
  · rw [decide_eq_true hp, h.2 hp, beq_self_eq_true]
  · rw [decide_eq_false hp, beq_eq_false_iff_ne.2 (fun q => hp (h.1 q))]
theorem bl_dec {p : Prop} [Decidable p] (h : p) : bl true = bl (decide p) := by rw [decide_eq_true h]
theorem bl_ndec {p : Prop} [Decidable p] (h : ¬ p) : bl false = bl (decide p) := by rw [decide_eq_false h]
theorem dec_dec {p q : Prop} [Decidable p] [Decidable q] (h : p ↔ q) : bl (decide p) = bl (decide q) := by rw [decide_eq_decide.2 h]
theorem ids_one (H : List Bk) (i : Nat) (b : Bk) (h : H[i]? = some b) (hp : pureB b = true) : ([i].all fun i => (Option.map pureB H[i]?).getD false) = true := by simp [h, hp]
def idxD {α : Type} (p : α → Bool) : List α → Option Nat
  | [] => none
  | x :: l => if p x = true then some 0 else (idxD p l).map (· + 1)
def idxI (r : Option Nat) : Int := match r with
  | some k => k
  | none => -1
theorem idx_some {α : Type} [Inhabited α] {p : α → Bool} : ∀ {l : List α} {k : Nat}, idxD p l = some k → k < l.length ∧ p (nth l k) = true ∧ ∀ j, j < k → ¬ p (nth l j) = true := by
  intro l
  induction l with
  | nil => intro k h; cases h
  | cons x l ih =>
    intro k h
    unfold idxD at h
    split at h
    · rename_i hx
      cases h
      exact ⟨by simp, hx, fun j hj => by omega⟩
    · rename_i hx
      simp only [Option.map_eq_some_iff] at h
      obtain ⟨m, hm, rfl⟩ := h
      obtain ⟨h1, h2, h3⟩ := ih hm
      refine ⟨by simp; omega, h2, fun j hj => ?_⟩
      cases j with
      | zero => exact hx
      | succ j => exact h3 j (by omega)
theorem idx_none {α : Type} [Inhabited α] {p : α → Bool} : ∀ {l : List α}, idxD p l = none → ∀ j, j < l.length → ¬ p (nth l j) = true := by
  intro l
  induction l with
  | nil => intro h j hj; simp at hj
  | cons x l ih =>
    intro h j hj
    unfold idxD at h
    split at h
    · cases h
    · rename_i hx
      simp only [Option.map_eq_none_iff] at h
      cases j with
      | zero => exact hx
      | succ j => exact ih h j (by simpa using hj)
theorem idx_isSome {α : Type} (p : α → Bool) (l : List α) : (idxD p l).isSome = l.any p := by
  induction l with
  | nil => rfl
  | cons x l ih =>
    unfold idxD
    by_cases hx : p x = true
    · simp [hx]
    · simp [hx, ← ih]
/-! rows of whole numbers -/
def eI (n : Int) : List AV := [i64 n]
def slI (l : List Int) : AV := .sl l.length (l.flatMap eI)
theorem len_eI (n : Int) : (eI n).length = 1 := rfl
theorem is_len (l : List Int) : (l.flatMap eI).length = l.length := by rw [len_flat (sz := 1) len_eI, Nat.mul_one]
theorem is_pure (l : List Int) : (l.flatMap eI).all pureC = true := flat_pure (fun _ => rfl) l
theorem is_pureB (l : List Int) (n : Nat) (fz : Fz) : pureB (.arr n (l.flatMap eI) fz) = true := is_pure l
theorem is_take (l : List Int) (n : Nat) (h : l.length ≤ n) : (l.flatMap eI).take n = l.flatMap eI := List.take_of_length_le (by rw [is_len]; exact h)
theorem is_sl (l : List Int) (n m : Nat) (h : n = l.length) (hm : l.length ≤ m) : AV.sl n (((l.flatMap eI).drop 0).take m) = slI l := by
  rw [List.drop_zero, is_take l m hm, h]; rfl
def eU (n : Int) : List AV := [u32 n]
def slU (l : List Int) : AV := .sl l.length (l.flatMap eU)
end Go.Pm
