/- The machine of plain values: a walk that is reckoned is a walk; loops; a function from its body. By the prover of this seat. -/
import Derived.Test.YtjjmidhpilmnbaaDoorPm25b
set_option linter.unusedVariables false
namespace Go.Pm
open Go Go.RowKit
section
variable {w0 : World}
/-- what a piece of code hands on -/
def After (C : Cx) (w0 : World) (ρ : Nm) (M : Mem) (e : Ex) (st' : St) : Exit → Act → World → Prop := fun x a' W' => x = e.to ∧ ∃ ρ' M', M.le M' ∧ (∀ i, i < C.keep → ∀ x, ρ i = some x → ρ' i = some x) ∧ Fresh M M' w0.heap.size ∧ Rel C w0 ρ' M' st' a' W'
theorem After.step {C : Cx} {ρ ρ1 : Nm} {M M1 : Mem} {e : Ex} {st' : St} {x : Exit} {a : Act} {W : World} (hM : M.le M1) (hr : ∀ i, i < C.keep → ∀ x, ρ i = some x → ρ1 i = some x) (hf : Fresh M M1 w0.heap.size) (h : After C w0 ρ1 M1 e st' x a W) : After C w0 ρ M e st' x a W := by
  obtain ⟨h1, ρ', M', h2, h3, h4, h5⟩ := h
  exact ⟨h1, ρ', M', hM.trans h2, fun i hi x hx => h3 i hi x (hr i hi x hx), hf.trans h4, h5⟩
theorem Tri.here (C : Cx) {c : Code} {st : St} {e : Ex} (h : ∀ (Q : Exit → Act → World → Prop) a W, Q e.to a W → c.wp C.P Q a W) : Tri C c st e st :=
  fun w0 ρ M a W hR => h _ a W ⟨rfl, ρ, M, Mem.le.refl M, fun _ _ _ h => h, Fresh.refl _ _, hR⟩
theorem Tri.seq {C : Cx} {x y : Code} {st st1 st2 : St} {e : Ex} (h1 : Tri C x st .normal st1) (h2 : Tri C y st1 e st2) : Tri C (.seq x y) st e st2 := by
  intro w0 ρ M a W hR
  refine wp_seq (Code.wp_mono (fun e' a' W' h => ?_) (h1 w0 ρ M a W hR))
  obtain ⟨rfl, ρ1, M1, q1, q2, q3, q4⟩ := h
  show y.wp C.P _ a' W'
  refine Code.wp_mono (fun e2 a2 W2 h => ?_) (h2 w0 ρ1 M1 a' W' q4)
  exact After.step (C := C) q1 q2 q3 h
theorem Tri.seq_exit {C : Cx} {x y : Code} {st st1 : St} {e : Ex} (h1 : Tri C x st e st1) (hne : e ≠ .normal) : Tri C (.seq x y) st e st1 := by
  intro w0 ρ M a W hR
  refine wp_seq (Code.wp_mono (fun e' a' W' h => ?_) (h1 w0 ρ M a W hR))
  have he := h.1
  subst he
  cases e with
  | normal => exact absurd rfl hne
  | exit n => exact h
  | ret => exact h
theorem Tri.cond {C : Cx} {c : Operand} {x y : Code} {st st1 : St} {e : Ex} {b : Bool} (hc : evalA C st.t c = .s (.bool b)) (h : Tri C (if b then x else y) st e st1) : Tri C (.cond c x y) st e st1 := by
  intro w0 ρ M a W hR
  have hv := eval_ok hR.slots hR.glob c
  rw [hc] at hv
  exact wp_cond hv.inv_s (h w0 ρ M a W hR)
theorem Tri.block {C : Cx} {id : Nat} {x : Code} {st st1 : St} {e : Ex} (h : Tri C x st e st1) : Tri C (.block id x) st (match e with | .exit j => if j = id then .normal else .exit j | e => e) st1 := by
  intro w0 ρ M a W hR
  refine wp_block (Code.wp_mono (fun e' a' W' h => ?_) (h w0 ρ M a W hR))
  obtain ⟨rfl, hh⟩ := h
  cases e with
  | normal => exact ⟨rfl, hh⟩
  | ret => exact ⟨rfl, hh⟩
  | exit j =>
    show (if j = id then _ else _)
    split
    · rename_i hj
      subst hj
      simp only [if_true]
      exact ⟨rfl, hh⟩
    · rename_i hj
      simp only [if_neg hj]
      exact ⟨rfl, hh⟩
theorem LoopT.forget {C : Cx} {c : Code} {f : Fg} {st st' : St} {e : Ex} (h : LoopT C c (forget f st) e st') (ha : allP (fgAsk f C.keep st.h)) : LoopT C c st e st' := by
  intro w0 ρ M a W hR b k cs
  obtain ⟨ρ1, hk, hR1⟩ := forget_ok hR ha
  obtain ⟨x, a', W', ⟨q0, ρ', M', q1, q2, q3, q4⟩, harr⟩ := h w0 ρ1 M a W hR1 b k cs
  exact ⟨x, a', W', ⟨q0, ρ', M', q1, fun i hi x hx => q2 i hi x (hk i hi x hx), q3, q4⟩, harr⟩
theorem Tri.forget {C : Cx} {c : Code} {f : Fg} {st st1 : St} {e : Ex} (h : Tri C c st e st1) (ha : allP (fgAsk f C.keep st1.h)) : Tri C c st e (Pm.forget f st1) := by
  intro w0 ρ M a W hR
  refine Code.wp_mono (fun x a' W' hx => ?_) (h w0 ρ M a W hR)
  obtain ⟨q0, ρ', M', q1, q2, q3, q4⟩ := hx
  obtain ⟨ρ1, hk, hR1⟩ := forget_ok q4 ha
  exact ⟨q0, ρ1, M', q1, fun i hi x hx => hk i hi x (q2 i hi x hx), q3, hR1⟩
theorem LoopT.tri {C : Cx} {c : Code} {st st' : St} {e : Ex} (h : LoopT C c st e st') : Tri C (.loop c) st e st' := by
  intro w0 ρ M a W hR b k cs
  obtain ⟨x, a', W', hq, harr⟩ := h w0 ρ M a W hR b k cs
  exact ⟨x, a', W', hq, .of_steps (.one step_loop) harr⟩
theorem LoopT.next {C : Cx} {c : Code} {st st1 st' : St} {e : Ex} (h1 : Tri C c st .normal st1) (h2 : LoopT C c st1 e st') : LoopT C c st e st' := by
  intro w0 ρ M a W hR b k cs
  obtain ⟨x, a1, W1, hq, harr⟩ := h1 w0 ρ M a W hR b (.inLoop c :: k) cs
  obtain ⟨rfl, ρ1, M1, q1, q2, q3, q4⟩ := hq
  obtain ⟨x2, a2, W2, hq2, harr2⟩ := h2 w0 ρ1 M1 a1 W1 q4 b k cs
  exact ⟨x2, a2, W2, After.step (C := C) q1 q2 q3 hq2, .of_steps (Steps.trans harr (.one step_inLoop)) harr2⟩
theorem LoopT.exit {C : Cx} {c : Code} {st st' : St} {e : Ex} (h1 : Tri C c st e st') (hne : e ≠ .normal) : LoopT C c st e st' := by
  intro w0 ρ M a W hR b k cs
  obtain ⟨x, a1, W1, hq, harr⟩ := h1 w0 ρ M a W hR b (.inLoop c :: k) cs
  refine ⟨x, a1, W1, hq, ?_⟩
  have he := hq.1
  subst he
  cases e with
  | normal => exact absurd rfl hne
  | exit n => exact .pass (x := .inLoop c) rfl (fun _ _ => .inl (by simp [Ex.to])) harr
  | ret => exact .pass (x := .inLoop c) rfl (fun _ _ => .inl (by simp [Ex.to])) harr
theorem thC0_ok {W : World} {ρ : Nm} {M M' : Mem} {H : List Bk} {i : Nat} {B : Bk} (hw : WR w0 ρ M H W) (hB : H[i]? = some B) (hM : M.le M') (hp : pureB B = true) (hf : ∀ b s o, ρ i = some (b, s) → ∀ L cs fz, B = .arr L cs fz → o < L → ∃ u, M'.cell b o = some u) (hg : ∀ b s, ρ i = some (b, s) → ∀ es fz, B = .map es fz → ∃ kv, M'.map b = some kv) (hfro : Fro M' W)
    {c : AV} {v : Value} (hv : VR M' ρ c v) : VR M' ρ (thC0 i B c) v := by
  cases hv with
  | any => exact .any _ _
  | s => exact .s _ _
  | agg => exact .any _ _
  | tup => exact .any _ _
  | sl_e a b => exact .sl_e a b
  | sl f a b d => exact .sl f a b d
  | sx_e a => exact .sx_e a
  | sx f a b d => exact .sx f a b d
  | nsl => exact .nsl
  | fptr_e => exact .fptr_e
  | fptr f a b => exact .fptr f a b
  | mp_e => exact .mp_e
  | mp kv pq a b c d e f => exact .mp kv pq a b c d e f
  | fn a b c d => exact .fn a b c d
  | osl_e =>
    simp only [thC0]
    split
    · split
      · rw [Nat.zero_mul, List.take_zero]; exact .sl_e (Nat.le_refl _) (fun _ => rfl)
      · exact .any _ _
    · exact .osl_e
  | osl h1 h2 h3 =>
    rename_i id off n k b sz cap
    simp only [thC0]
    split
    · rename_i e
      subst e
      split
      · rename_i L cs fz
        obtain ⟨b1, b2, ⟨cur, e, fr, b3, b4, b5, b6⟩, b7⟩ := hw.blk _ _ _ _ h1 hB
        have key : ∀ (i : Nat) c, ((cs.drop off).take (n * k))[i]? = some c → cs[off + i]? = some c := by
          intro i c hc
          rw [List.getElem?_take] at hc
          split at hc
          · rwa [List.getElem?_drop] at hc
          · cases hc
        have cell : ∀ (i : Nat) c, ((cs.drop off).take (n * k))[i]? = some c → M'.cell b (off + i) = some (cur.getD (off + i) undef) ∧ VR M' Nm.none c (cur.getD (off + i) undef) := by
          intro i c hc
          obtain ⟨u, u1, u2, u3⟩ := b6 _ _ (key i c hc)
          have hol : off + i < L := by rw [b1]; exact (List.getElem?_eq_some_iff.1 (key i c hc)).1
          have hg' : cur.getD (off + i) undef = u := by simp [Array.getD_eq_getD_getElem?, u1]
          obtain ⟨u', hu'⟩ := hf b sz (off + i) h1 L cs fz rfl hol
          have h4 := (hfro.cell _ _ _ hu').1
          have hcell : W.cell? ⟨b, off + i, none⟩ = some u := by simp [World.cell?, b3, u1]
          rw [hcell] at h4
          cases h4
          rw [hg']
          exact ⟨hu', (u3.pure (List.all_eq_true.1 hp c (List.mem_of_getElem? (key i c hc))) Nm.none).mono hM (Nm.le.refl _)⟩
        exact .sl (fun i => cur.getD (off + i) undef) h2 (fun i c hc => (cell i c hc).1) (fun i c hc => (cell i c hc).2)
      · exact .any _ _
    · exact .osl h1 h2 h3
  | ptr h1 =>
    rename_i id off b sz
    simp only [thC0]
    split
    · rename_i e
      subst e
      split
      · rename_i L cs fz
        obtain ⟨b1, b2, ⟨cur, e, fr, b3, b4, b5, b6⟩, b7⟩ := hw.blk _ _ _ _ h1 hB
        have cell : ∀ (i : Nat) c, (cs.drop off)[i]? = some c → M'.cell b (off + i) = some (cur.getD (off + i) undef) ∧ VR M' Nm.none c (cur.getD (off + i) undef) := by
          intro i c hc
          rw [List.getElem?_drop] at hc
          obtain ⟨u, u1, u2, u3⟩ := b6 _ _ hc
          have hol : off + i < L := by rw [b1]; exact (List.getElem?_eq_some_iff.1 hc).1
          have hg' : cur.getD (off + i) undef = u := by simp [Array.getD_eq_getD_getElem?, u1]
          obtain ⟨u', hu'⟩ := hf b sz (off + i) h1 L cs fz rfl hol
          have h4 := (hfro.cell _ _ _ hu').1
          have hcell : W.cell? ⟨b, off + i, none⟩ = some u := by simp [World.cell?, b3, u1]
          rw [hcell] at h4
          cases h4
          rw [hg']
          exact ⟨hu', (u3.pure (List.all_eq_true.1 hp c (List.mem_of_getElem? hc)) Nm.none).mono hM (Nm.le.refl _)⟩
        exact .fptr (fun i => cur.getD (off + i) undef) (fun i c hc => (cell i c hc).1) (fun i c hc => (cell i c hc).2)
      · exact .any _ _
    · exact .ptr h1
  | omp h1 =>
    rename_i id b sz
    simp only [thC0]
    split
    · rename_i e
      subst e
      split
      · rename_i es fz
        have hbr := BR.pure (hw.blk _ _ _ _ h1 hB) hp Nm.none
        obtain ⟨⟨ents, clock, b1, pq, b2, b3, b4, b5, b6⟩, b7⟩ := hbr
        obtain ⟨kv, hkv⟩ := hg b sz h1 es fz rfl
        obtain ⟨es', cl', e1, e2⟩ := hfro.map _ _ hkv
        rw [b1] at e1
        cases e1
        exact .mp kv pq hkv (e2 ▸ b2) b3 b4 (fun i c v x y => (b5 i c v x y).mono hM (Nm.le.refl _)) (fun i c v x y => (b6 i c v x y).mono hM (Nm.le.refl _))
      · exact .any _ _
    · exact .omp h1
/-- a block is written no more -/
theorem freeze_ok {W : World} {ρ : Nm} {M : Mem} {C : Cx} {st : St} {a : Act} {i : Nat} {B : Bk} (hR : Rel C w0 ρ M st a W) (hB : st.h[i]? = some B) (hl : B.live) (hp : pureB B = true) : ∃ M', M.le M' ∧ Fresh M M' w0.heap.size ∧ Rel C w0 ρ M' (thSt i B st) a W := by
  obtain ⟨hwk, hfr⟩ := hR.wr.mark [i]
  have hle := frzM_le M ρ st.h W [i]
  obtain ⟨hlen, hget⟩ := get_mark st.h [i] st.h rfl (fun j => .inl rfl)
  have key : ∀ c v, VR (frzM M ρ st.h W [i]) ρ c v → VR (frzM M ρ st.h W [i]) ρ (thC0 i B c) v := fun c v hv => by
    refine thC0_ok hR.wr hB hle hp (fun b s o hi L cs fz e ho => ?_) (fun b s hi es fz e => ?_) hwk.fro hv
    · subst e
      simp only [frzM]
      cases hm : M.cell b o with
      | some u => exact ⟨u, rfl⟩
      | none =>
        simp only []
        rw [if_pos ⟨i, s, L, cs, fz, List.mem_singleton.2 rfl, hi, hB, ho⟩]
        obtain ⟨b1, b2, ⟨cur, e, fr, b3, b4, b5, b6⟩, b7⟩ := hR.wr.blk _ _ _ _ hi hB
        obtain ⟨u, u1, u2, u3⟩ := b6 o cs[o] (by simp [show o < cs.length by omega])
        exact ⟨u, by simp [World.cell?, b3, u1]⟩
    · subst e
      simp only [frzM]
      cases hm : M.map b with
      | some u => exact ⟨u, rfl⟩
      | none =>
        simp only []
        rw [if_pos ⟨i, s, es, fz, List.mem_singleton.2 rfl, hi, hB⟩]
        obtain ⟨⟨ents, clock, b1, _⟩, _⟩ := hR.wr.blk _ _ _ _ hi hB
        exact ⟨_, by rw [b1]⟩
  have keyL : ∀ (f : AV → AV), (∀ c v, VR (frzM M ρ st.h W [i]) ρ c v → VR (frzM M ρ st.h W [i]) ρ (f c) v) → ∀ {cs : List AV} {vs : List Value}, L2 (VR (frzM M ρ st.h W [i]) ρ) cs vs → L2 (VR (frzM M ρ st.h W [i]) ρ) (cs.map f) vs := by
    intro f hf cs vs h
    refine ⟨by simpa using h.len, fun j c v hc hv => ?_⟩
    simp only [List.getElem?_map, Option.map_eq_some_iff] at hc
    obtain ⟨c0, hc0, rfl⟩ := hc
    exact hf _ _ (h.at_ j c0 v hc0 hv)
  have keyG : ∀ (f g : AV → AV), (∀ c v, VR (frzM M ρ st.h W [i]) ρ c v → VR (frzM M ρ st.h W [i]) ρ (f c) v) → (∀ c v, (∀ cs, c ≠ .agg cs) → VR (frzM M ρ st.h W [i]) ρ c v → VR (frzM M ρ st.h W [i]) ρ (g c) v) → (∀ cs, g (.agg cs) = .agg (cs.map f)) → ∀ c v, VR (frzM M ρ st.h W [i]) ρ c v → VR (frzM M ρ st.h W [i]) ρ (g c) v := by
    intro f g hf hg ha c v h
    by_cases hc : ∃ cs, c = .agg cs
    · obtain ⟨cs, rfl⟩ := hc
      obtain ⟨vs, rfl, k1, k2⟩ := h.inv_agg
      rw [ha]
      exact .mkAgg (keyL f hf k1) k2
    · exact hg c v (fun cs e => hc ⟨cs, e⟩) h
  have keyP : ∀ c v, VR (frzM M ρ st.h W [i]) ρ c v → VR (frzM M ρ st.h W [i]) ρ (thP i B c) v := keyG (thC0 i B) (thP i B) key (fun c v hn h => by
    have e : thP i B c = thC0 i B c := by cases c <;> first | rfl | exact absurd rfl (hn _)
    rw [e]; exact key c v h) (fun cs => rfl)
  have keyC : ∀ c v, VR (frzM M ρ st.h W [i]) ρ c v → VR (frzM M ρ st.h W [i]) ρ (thC i B c) v := by
    intro c v h
    by_cases hc : ∃ f p q, c = .fn f p q
    · obtain ⟨f, p, q, rfl⟩ := hc
      cases h with
      | fn a b c d =>
        have h1 := keyL (thP i B) keyP ⟨a, b⟩
        have h2 := keyL (thP i B) keyP ⟨c, d⟩
        exact .fn h1.len h1.at_ h2.len h2.at_
    · have e : thC i B c = thC0 i B c := by cases c <;> first | rfl | exact absurd ⟨_, _, _, rfl⟩ hc
      rw [e]; exact key c v h
  have keyF : ∀ c v, VR (frzM M ρ st.h W [i]) ρ c v → VR (frzM M ρ st.h W [i]) ρ (thF i B c) v := keyG (thC i B) (thF i B) keyC (fun c v hn h => by
    have e : thF i B c = thC i B c := by cases c <;> first | rfl | exact absurd rfl (hn _)
    rw [e]; exact keyC c v h) (fun cs => rfl)
  have keyA : ∀ c v, VR (frzM M ρ st.h W [i]) ρ c v → VR (frzM M ρ st.h W [i]) ρ (thA i B c) v := by
    intro c v h
    by_cases hc : ∃ cs, c = .tup cs
    · obtain ⟨cs, rfl⟩ := hc
      obtain ⟨vs, rfl, k1⟩ := h.inv_tup
      exact .mkTup (keyL _ keyF k1)
    · have e : thA i B c = thF i B c := by cases c <;> first | rfl | exact absurd ⟨_, rfl⟩ hc
      rw [e]; exact keyF c v h
  have hil : i < st.h.length := (List.getElem?_eq_some_iff.1 hB).1
  have hbk : ∀ j, ((List.range st.h.length).map (thBk i B st.h))[j]? = if j < st.h.length then some (thBk i B st.h j) else none := by
    intro j
    rw [List.getElem?_map]
    by_cases hj : j < st.h.length
    · simp [hj]
    · rw [List.getElem?_eq_none (by simpa using hj), if_neg hj]; rfl
  -- the blocks, seen so
  have back : ∀ (j : Nat) (D : Bk), ((List.range st.h.length).map (thBk i B st.h))[j]? = some D → ∃ D0, (putW st.h (markW (fun j => st.h[j]?) [i]))[j]? = some D0 ∧ (D.live ↔ D0.live) ∧ ∀ b s, BR ρ (frzM M ρ st.h W [i]) W b s D0 → BR ρ (frzM M ρ st.h W [i]) W b s D := by
    intro j D hD
    rw [hbk] at hD
    split at hD
    · rename_i hj
      cases hD
      rw [hget]
      by_cases hji : j = i
      · subst hji
        rw [if_pos (List.mem_singleton.2 rfl), hB]
        exact ⟨_, rfl, by simp [thBk], fun b s h => by simpa [thBk] using h⟩
      · rw [if_neg (by simpa using hji)]
        obtain ⟨D0, h0⟩ : ∃ D0, st.h[j]? = some D0 := ⟨_, List.getElem?_eq_getElem hj⟩
        have e : thBk i B st.h j = thB i B D0 := by simp [thBk, hji, h0]
        rw [e]
        refine ⟨D0, h0, by cases D0 <;> exact Iff.rfl, fun b s h => ?_⟩
        cases D0 with
        | dead => trivial
        | map es fz => exact h
        | arr L cs fz =>
          obtain ⟨b1, b2, ⟨cur, e, fr, b3, b4, b5, b6⟩, b7⟩ := h
          refine ⟨by simpa using b1, b2, ⟨cur, e, fr, b3, b4, b5, fun k c hc => ?_⟩, b7⟩
          simp only [List.getElem?_map, Option.map_eq_some_iff] at hc
          obtain ⟨c0, hc0, rfl⟩ := hc
          obtain ⟨u, u1, u2, u3⟩ := b6 k c0 hc0
          exact ⟨u, u1, u2, keyC _ _ u3⟩
    · cases hD
  refine ⟨_, hle, hfr, ⟨keyL _ keyA (hR.slots.imp fun c v h => h.mono hle (Nm.le.refl _)), ⟨hwk.bel, hwk.fro, fun j x hj => ?_, ?_, ?_, ?_⟩, fun g cs hg => (hR.glob g cs hg).mono hle (Nm.le.refl _), ?_, hR.defers⟩⟩
  · simp [thSt]; exact hR.wr.dom j x hj
  · intro j k b s t D D' hj hk h1 l1 h2 l2
    obtain ⟨D0, p1, p2, _⟩ := back j D h1
    obtain ⟨D1, q1, q2, _⟩ := back k D' h2
    exact hwk.inj j k b s t D0 D1 hj hk p1 (p2.1 l1) q1 (q2.1 l2)
  · intro j b s D hj h1 l1
    obtain ⟨D0, p1, p2, _⟩ := back j D h1
    exact hwk.new j b s D0 hj p1 (p2.1 l1)
  · intro j b s D hj h1
    obtain ⟨D0, p1, p2, p3⟩ := back j D h1
    exact p3 b s (hwk.blk j b s D0 hj p1)
  · simp [thSt]; exact hR.keep
theorem thAll_ok {W : World} {ρ : Nm} {C : Cx} : ∀ (l : List Nat) {st st' : St} {ps : List Prop} {M : Mem} {a : Act}, thAll l st = (st', ps) → allP ps → Rel C w0 ρ M st a W → ∃ M', M.le M' ∧ Fresh M M' w0.heap.size ∧ Rel C w0 ρ M' st' a W := by
  intro l
  induction l with
  | nil => intro st st' ps M a h _ hR; simp [thAll] at h; obtain ⟨rfl, rfl⟩ := h; exact ⟨M, Mem.le.refl _, Fresh.refl _ _, hR⟩
  | cons i r ih =>
    intro st st' ps M a h hp hR
    simp only [thAll] at h
    split at h
    · rename_i L cs fz hB
      cases hq : thAll r (thSt i (.arr L cs fz) st) with
      | mk st1 ps1 =>
        rw [hq] at h
        cases h
        obtain ⟨M1, h1, h2, h3⟩ := freeze_ok hR hB trivial hp.1
        obtain ⟨M2, k1, k2, k3⟩ := ih hq hp.2 h3
        exact ⟨M2, h1.trans k1, h2.trans k2, k3⟩
    · rename_i es fz hB
      cases hq : thAll r (thSt i (.map es fz) st) with
      | mk st1 ps1 =>
        rw [hq] at h
        cases h
        obtain ⟨M1, h1, h2, h3⟩ := freeze_ok hR hB trivial hp.1
        obtain ⟨M2, k1, k2, k3⟩ := ih hq hp.2 h3
        exact ⟨M2, h1.trans k1, h2.trans k2, k3⟩
    · exact ih h hp hR
theorem loopGo_ok {C : Cx} {b : Code} {f : Nat → St → Option (Ex × St × List Prop)} (hf : ∀ k st e st' ps, f k st = some (e, st', ps) → allP ps → Tri C b st e st') : ∀ (n k : Nat) (st : St) (e : Ex) (st' : St) (ps : List Prop), loopGo f n k st = some (e, st', ps) → allP ps → LoopT C b st e st' := by
  intro n
  induction n with
  | zero => intro k st e st' ps h; cases h
  | succ n ih =>
    intro k st e st' ps h hp
    unfold loopGo at h
    split at h
    · rename_i st1 p1 h1
      split at h
      · rename_i e2 st2 p2 h2
        cases h
        obtain ⟨q1, q2⟩ := allP_append hp
        exact LoopT.next (hf _ _ _ _ _ h1 q1) (ih _ _ _ _ _ h2 q2)
      · cases h
    · rename_i hne
      refine LoopT.exit (hf _ _ _ _ _ h hp) fun he => ?_
      subst he
      exact hne st' ps h
theorem runH_ok {C : Cx} : ∀ (c : Code) (hs : Nat → Nat → Hint) (st : St) (e : Ex) (st' : St) (ps : List Prop), runH C c hs st = some (e, st', ps) → allP ps → Tri C c st e st' := by
  intro c
  induction c with
  | skip => intro hs st e st' ps h _; simp [runH] at h; obtain ⟨rfl, rfl, _⟩ := h; exact Tri.here C fun Q a W h => wp_skip h
  | label l => intro hs st e st' ps h _; simp [runH] at h; obtain ⟨rfl, rfl, _⟩ := h; exact Tri.here C fun Q a W h => wp_label h
  | exit id => intro hs st e st' ps h _; simp [runH] at h; obtain ⟨rfl, rfl, _⟩ := h; exact Tri.here C fun Q a W h => wp_exit h
  | ret => intro hs st e st' ps h _; simp [runH] at h; obtain ⟨rfl, rfl, _⟩ := h; exact Tri.here C fun Q a W h => wp_ret h
  | region id ops draw =>
    intro hs st e st' ps h hp
    unfold runH at h
    cases hq : thAll (hs id frzKey).frz st with
    | mk st0 ps0 =>
    rw [hq] at h
    dsimp only at h
    split at h
    · rename_i t A es ps' htr
      split at h
      · rename_i hd
        cases h
        obtain ⟨hp0, hp⟩ := allP_append hp
        intro w0 ρ M0 a W hR0
        obtain ⟨M, m1, m2, hR⟩ := thAll_ok _ hq hp0 hR0
        refine Code.wp_mono (Q := After C w0 ρ M .normal ⟨t, A⟩) (fun x a' W' h => After.step m1 (fun _ _ _ h => h) m2 h) ?_
        have fin : ∀ ρ' M' a' W', M.le M' → ρ.le ρ' → Fresh M M' w0.heap.size → Rel C w0 ρ' M' ⟨t, A⟩ a' W' → After C w0 ρ M .normal ⟨t, A⟩ .normal a' W' := fun ρ' M' a' W' q1 q2 q3 q4 => ⟨rfl, ρ', M', q1, fun i _ x hx => q2 i x hx, q3, q4⟩
        cases draw with
        | false =>
          have := tr_ok (Q := After C w0 ρ M .normal ⟨t, A⟩) ops.toList 0 st0.t st0.h t A es _ htr hp ρ M a W hR fin
          simp only [Array.toArray_toList] at this
          exact wp_region_list this
        | true => exact draw_ok (Q := After C w0 ρ M .normal ⟨t, A⟩) htr hp (hd.resolve_left (by simp)) hR fin
      · cases h
    · cases h
  | seq x y ihx ihy =>
    intro hs st e st' ps h hp
    unfold runH at h
    split at h
    · rename_i st1 p1 h1
      split at h
      · rename_i e2 st2 p2 h2
        cases h
        obtain ⟨hp1, hp2⟩ := allP_append hp
        exact (ihx _ _ _ _ _ h1 hp1).seq (ihy _ _ _ _ _ h2 hp2)
      · cases h
    · rename_i hne
      refine (ihx _ _ _ _ _ h hp).seq_exit fun he => ?_
      subst he
      exact hne st' ps h
  | cond c x y ihx ihy =>
    intro hs st e st' ps h hp
    unfold runH at h
    split at h
    · rename_i hc
      exact Tri.cond hc (ihx _ _ _ _ _ h hp)
    · rename_i hc
      exact Tri.cond hc (ihy _ _ _ _ _ h hp)
    · cases h
  | block id x ih =>
    intro hs st e st' ps h hp
    unfold runH at h
    split at h
    · rename_i j st1 p1 h1
      split at h
      · rename_i hj
        cases h
        have := (ih _ _ _ _ _ h1 hp).block (id := id)
        simp only [hj, if_true] at this
        subst hj
        exact this
      · rename_i hj
        cases h
        have := (ih _ _ _ _ _ h1 hp).block (id := id)
        simp only [if_neg hj] at this
        exact this
    · rename_i hne
      have := (ih _ _ _ _ _ h hp).block (id := id)
      cases e with
      | normal => exact this
      | ret => exact this
      | exit j => exact absurd h (hne j st' ps)
  | loop x ih =>
    intro hs st e st' ps h hp
    unfold runH at h
    split at h
    · cases h
      obtain ⟨h1, h2, h3⟩ := hp
      subst h1
      exact (LoopT.tri (h2.forget h3))
    · exact LoopT.tri (loopGo_ok (fun k st e st' ps h hp => ih _ _ _ _ _ h hp) _ _ _ _ _ _ h hp)
  | scope x ih => intro hs st e st' ps h _; simp [runH] at h
  | goto l => intro hs st e st' ps h _; simp [runH] at h
  | rangeFunc f params a b => intro hs st e st' ps h _; simp [runH] at h
  | refuse why => intro hs st e st' ps h _; simp [runH] at h
theorem run_ok {C : Cx} {hs : Nat → Nat → Hint} (c : Code) (st : St) (e : Ex) (st' : St) (ps : List Prop) (h : run C hs c st = some (e, st', ps)) (hp : allP ps) : Tri C c st e st' := runH_ok c hs st e st' ps h hp
end
end Go.Pm
