/- Ranges over a function of one value, that reads own rows. By the prover of this seat. -/
import Derived.Test.YtcnlgdbmcdlknaaPmF
set_option linter.unusedVariables false
set_option linter.unusedSimpArgs false
namespace Go.Pm
open Go Go.RowKit
section
/-- an iterator of one value a round, that reads own rows of its caller's, and lays blocks of its own -/
def IterM (P : Program) (G : Nat → Option (List AV)) (gf : FuncId) (lb : List AV) (xs : List AV) (m : Nat) (S : Nat → List Bk) : Prop :=
  ∀ (l : Nat) (vals : List Value) (w0 : World) (J Jx : Nat → World → Prop) (W : World),
    (∀ k W, J k W → k ≤ m ∧ ∃ ρ M, GlobR G M ∧ WR w0 ρ M (S k) W ∧ L2 (VR M ρ) lb vals ∧ ∀ ρ' M' W', M.le M' → (∀ i, i < (S k).length → ∀ x, ρ i = some x → ρ' i = some x) → Fresh M M' w0.heap.size → WR w0 ρ' M' (S k) W' → J k W') →
    (∀ k x W u, xs[k]? = some x → J k W → (∀ M ρ, VR M ρ x u) → YieldAt Fence.wide 0 P l #[u] W fun e W' => (e = .returned (.bool true) ∧ J (k + 1) W') ∨ (e = .returned (.bool false) ∧ Jx k W')) →
    J 0 W → CallsIn Fence.wide 0 P gf (#[.func (.yield l) #[] #[]] ++ vals.toArray) W fun e W' => (∃ v, e = .returned v) ∧ (J xs.length W' ∨ ∃ k, k < xs.length ∧ Jx k W')
theorem foldl1 (p : Tmp) (u : Value) (t : Array Value) : ((#[p] : Array Tmp).zip #[u]).foldl (fun tmps (x : Tmp × Value) => tmps.setIfInBounds x.1 x.2) t = t.setIfInBounds p u := by
  simp
theorem range_triM {C : Cx} {g : Operand} {p : Tmp} {assign body : Code} {st : St} {gf : FuncId} {lb : List AV} (xs : List AV) (m : Nat) (S : Nat → List Bk) (hI : IterM C.P C.G gf lb xs m S) (hent : ∀ args w, (callFunc gf args).run C.P w = .ok (.enter gf args) w) (hg : evalA C st.t g = .fn (.func gf) [] lb)
    (h0 : S 0 = st.h) (T : Nat → List AV) (Am : Nat → List Bk) (hm : m ≤ xs.length)
    (hA : ∀ k x, k ≤ m → xs[k]? = some x → TriR ⟨C.P, C.G, st.h.length⟩ assign ⟨st.t.set p x, S k⟩ .normal ⟨T k, Am k⟩)
    (hB : ∀ k, k < m → ∃ t', TriR ⟨C.P, C.G, st.h.length⟩ body ⟨T k, Am k⟩ .normal ⟨t', S (k + 1)⟩) (e : Ex) (H' : List Bk)
    (hE : (m = xs.length ∧ e = .normal ∧ H' = S m) ∨ (m < xs.length ∧ ∃ id t', e = .exit id ∧ TriR ⟨C.P, C.G, st.h.length⟩ body ⟨T m, Am m⟩ (.exit id) ⟨t', H'⟩)) : Tri C (.rangeFunc g #[p] assign body) st e ⟨st.t, H'⟩ := by
  intro w0 ρ M a W hR
  refine (wpIn_wide (n := 1)).1 (wpIn_rangeFunc ?_)
  intro fn hfn
  have hv := eval_ok hR.slots hR.glob g
  rw [hg] at hv
  obtain ⟨us, vals, hfv, hus, hvals⟩ : ∃ (us vs : List Value), a.eval g = .func (.func gf) us.toArray vs.toArray ∧ us = [] ∧ L2 (VR M ρ) lb vs := by
    generalize a.eval g = v at hv
    cases hv with
    | fn h1 h2 h3 h4 =>
      rename_i us vs
      exact ⟨us, vs, rfl, List.eq_nil_of_length_eq_zero (by simpa using h1.symm), h3, h4⟩
  subst hus
  have hw := hR.wr
  have hsz : w0.heap.size ≤ W.heap.size := hw.bel.size
  rw [show Fence.wide.round = none from rfl]
  obtain ⟨rec, hrec⟩ : ∃ rec : LoopState → Option Code → Loop, rec = fun st pe => { state := st, pending := pe, fn, tmps := a.tmps, params := #[p], assign, body, defers := W.heap.size } := ⟨_, rfl⟩
  obtain ⟨W1, hW1⟩ : ∃ W1, (W.alloc (.deferred (some []))).alloc (.loop (rec .ready none)) = W1 := ⟨_, rfl⟩
  have hL1 : W1.heap[W.heap.size + 1]? = some (.loop (rec .ready none)) := by
    rw [← hW1]; have := World.alloc_heap_new (W.alloc (.deferred (some []))) (.loop (rec .ready none)); rwa [World.size_alloc] at this
  have hK1 : W1.heap[W.heap.size]? = some (.deferred (some [])) := by
    rw [← hW1]; exact (Below.heap_alloc _ _ _ (by simp)).trans (World.alloc_heap_new W _)
  have hb1 : Below W.heap.size W W1 := by rw [← hW1]; exact ((Below.refl _ W).alloc (Nat.le_refl _) _).alloc (by simp) _
  have hw1 : WR w0 ρ M st.h W1 := hw.world (hw.bel.trans (hb1.mono hsz)) fun b hb => hb1.block b hb
  have hlo : ∀ b o, M.obj b = some o → b < W.heap.size := fun b o e => hw.fro.lto e
  -- the memory with the two records
  have hw2 : WR w0 ρ ((M.note W.heap.size (.deferred (some []))).note (W.heap.size + 1) (.loop (rec .ready none))) st.h W1 := (hw1.noteO hK1 rfl hsz).noteO hL1 rfl (by omega)
  obtain ⟨M1, hM1⟩ : ∃ M1, M1 = (M.note W.heap.size (.deferred (some []))).note (W.heap.size + 1) (.loop (rec .ready none)) := ⟨_, rfl⟩
  rw [← hM1] at hw2
  have hMM1 : M.le M1 := by
    rw [hM1]
    exact ((Mem.le.refl M).note (fun x ex => absurd (hlo _ _ ex) (by omega))).note (fun x ex => absurd (hlo _ _ ex) (by omega))
  have hD1 : M1.obj W.heap.size = some (.deferred (some [])) := by
    rw [hM1]
    show (if W.heap.size = W.heap.size + 1 then _ else if W.heap.size = W.heap.size then some (Obj.deferred (some [])) else M.obj W.heap.size) = _
    rw [if_neg (by omega), if_pos rfl]
  have hR1 : M1.obj (W.heap.size + 1) = some (.loop (rec .ready none)) := by
    rw [hM1]
    show (if W.heap.size + 1 = W.heap.size + 1 then _ else _) = _
    rw [if_pos rfl]
  -- what memories keep, but for the loop's record
  let Ke : Mem → Mem → Prop := fun A B => (∀ b o v, A.cell b o = some v → B.cell b o = some v) ∧ (∀ b v, A.map b = some v → B.map b = some v) ∧ (∀ b v, b ≠ W.heap.size + 1 → A.obj b = some v → B.obj b = some v) ∧ B.base = A.base ∧ ∀ b v, A.obj b = some v → b ≠ W.heap.size + 1 → B.oc b = A.oc b
  have keOf : ∀ {A B : Mem}, A.le B → Ke A B := fun h => ⟨h.cell, h.map, fun b v _ e => h.obj b v e, h.base, fun b v e _ => h.oc b v e⟩
  have keT : ∀ {A B D : Mem}, Ke A B → Ke B D → Ke A D := fun h k => ⟨fun b o v e => k.1 b o v (h.1 b o v e), fun b v e => k.2.1 b v (h.2.1 b v e), fun b v hb e => k.2.2.1 b v hb (h.2.2.1 b v hb e), k.2.2.2.1.trans h.2.2.2.1, fun b v e hb => (k.2.2.2.2 b v (h.2.2.1 b v hb e) hb).trans (h.2.2.2.2 b v e hb)⟩
  have keN : ∀ (A : Mem) (o : Obj), Ke A (A.note (W.heap.size + 1) o) := fun A o => ⟨fun _ _ _ e => e, fun _ _ e => e, fun b v hb e => by
    show (if b = W.heap.size + 1 then some o else A.obj b) = some v
    rw [if_neg hb]; exact e, rfl, fun _ _ _ _ => rfl⟩
  have leOf : ∀ {B : Mem}, Ke M B → M.le B := fun h => ⟨h.1, h.2.1, fun b v e => h.2.2.1 b v (by have := hlo b v e; omega) e, h.2.2.2.1, fun b v e => h.2.2.2.2 b v e (by have := hlo b v e; omega)⟩
  have noted : ∀ (A : Mem) (o : Obj), (A.note (W.heap.size + 1) o).obj (W.heap.size + 1) = some o := fun A o => by
    show (if W.heap.size + 1 = W.heap.size + 1 then some o else _) = _
    rw [if_pos rfl]
  -- between two rounds
  let Jg : Loop → List Bk → World → Prop := fun r B V => ∃ ρk Mk, Ke M1 Mk ∧ Mk.obj (W.heap.size + 1) = some (.loop r) ∧ ρ.le ρk ∧ Fresh M Mk w0.heap.size ∧ WR w0 ρk Mk B V ∧ st.h.length ≤ B.length
  have jdrew : ∀ r B V, Jg r B V → Fro M V ∧ ∀ V', Below V.heap.size V V' → Jg r B V' := by
    rintro r B V ⟨ρk, Mk, j1, j2, j3, j4, j5, j6⟩
    exact ⟨j5.fro.less (leOf (keT (keOf hMM1) j1)), fun V' hb => ⟨ρk, Mk, j1, j2, j3, j4, j5.world (j5.bel.trans (hb.mono j5.bel.size)) fun b hlt => hb.block b hlt, j6⟩⟩
  have hfr1 : Fresh M M1 w0.heap.size := by rw [hM1]; have hsz := hw.bel.size; exact (Fresh.note M _ (by omega)).trans (Fresh.note _ _ (by omega))
  refine ⟨W.heap.size + 1, [{ target := .collected W.heap.size, args := #[] }], W1, { target := .fn (.func gf) vals.toArray, args := #[.func (.yield (W.heap.size + 1)) #[] #[]] }, W1, gf,
    #[.func (.yield (W.heap.size + 1)) #[] #[]] ++ vals.toArray, W1, ?_, ?_, fun _ _ => trivial, ?_, fun _ => (by omega), ?_⟩
  · rw [← hW1, hrec]; exact run_enterLoop_outer _ _ _ _ _
  · simp only [resolve, hfv]
    simp [go_sem]
  · simp [invoke, go_sem, hent]
  · have hfin : ∀ (r : Loop) (V : World) (B : List Bk), r.state ≠ .busy → Jg r B V → (Instr.endLoop (W.heap.size + 1)).run C.P V = .ok r.pending (V.putObj (W.heap.size + 1) (.loop { r with state := .exhausted })) ∧ ∃ ρ' M', M.le M' ∧ (∀ i, i < C.keep → ∀ x, ρ i = some x → ρ' i = some x) ∧ Fresh M M' w0.heap.size ∧ Rel C w0 ρ' M' ⟨st.t, B⟩ { a with defers := [{ target := .collected W.heap.size, args := #[] }] ++ a.defers } (V.putObj (W.heap.size + 1) (.loop { r with state := .exhausted })) := by
      rintro r V B hb ⟨ρk, Mk, j1, j2, j3, j4, j5, j6⟩
      have hl := (j5.fro.obj _ _ j2).1
      have hw3 := j5.turnO hl rfl (o' := .loop { r with state := .exhausted }) rfl (by omega)
      have hke := keT (keOf hMM1) (keT j1 (keN Mk (.loop { r with state := .exhausted })))
      have hle := leOf hke
      refine ⟨run_endLoop hl hb, ρk, _, hle, fun i _ x hx => j3 i x hx, ⟨fun b o v hb e => j4.cell b o v hb e, fun b v hb e => j4.map b v hb e, fun b v hb e => j4.obj b v hb ((Fresh.note Mk _ (by have := hw.bel.size; omega)).obj b v hb e)⟩, ⟨hR.slots.mono hle j3, hw3, fun g cs hgc => (hR.glob g cs hgc).mono hle (Nm.le.refl _), Nat.le_trans hR.keep j6, ?_⟩⟩
      obtain ⟨ds, d1, d2, d3⟩ := hR.defers
      refine ⟨W.heap.size :: ds, by show _ :: a.defers = _; rw [d1]; rfl, List.nodup_cons.2 ⟨fun hmem => absurd (hlo _ _ (d3 _ hmem).2) (by omega), d2⟩, fun b hb => ?_⟩
      rcases List.mem_cons.1 hb with rfl | hb
      · exact ⟨by rw [hle.base]; exact hw.fro.base, (keT j1 (keN Mk _)).2.2.1 _ _ (by omega) hD1⟩
      · exact ⟨by rw [hle.base]; exact (d3 b hb).1, hle.obj _ _ (d3 b hb).2⟩
    refine (hI (W.heap.size + 1) vals w0 (fun k V => k ≤ m ∧ Jg (rec .ready none) (S k) V) (fun k V => ∃ id, e = .exit id ∧ m < xs.length ∧ Jg (rec .done (some (.exit id))) H' V) W1
      (fun k V hJ => by
        obtain ⟨hk, ρk, Mk, j1, j2, j3, j4, j5, j6⟩ := hJ
        have hMk : M.le Mk := leOf (keT (keOf hMM1) j1)
        exact ⟨hk, ρk, Mk, fun g cs hgc => (hR.glob g cs hgc).mono hMk (Nm.le.refl _), j5, ⟨hvals.len, fun i c v hc hv => (hvals.at_ i c v hc hv).mono hMk j3⟩, fun ρ' M' V' q1 q2 q3 q4 => ⟨hk, ρ', M', keT j1 (keOf q1), q1.obj _ _ j2, fun i x hx => q2 i (by have := hw.dom i x hx; omega) x (j3 i x hx), ⟨fun b o v hb e => j4.cell b o v hb (q3.cell b o v hb e), fun b v hb e => j4.map b v hb (q3.map b v hb e), fun b v hb e => j4.obj b v hb (q3.obj b v hb e)⟩, q4, j6⟩⟩) ?_ ⟨Nat.zero_le _, ρ, M1, ⟨fun _ _ _ e => e, fun _ _ e => e, fun _ _ _ e => e, rfl, fun _ _ _ _ => rfl⟩, hR1, Nm.le.refl _, hfr1, by rw [h0]; exact hw2, by rw [h0]; exact Nat.le_refl _⟩).mono ?_
    · -- one round
      rintro k x V u hx0 ⟨hkm, ρk, Mk, j1, j2, j3, j4, j5, j6⟩ hu
      have hl := (j5.fro.obj _ _ j2).1
      have hy := run_yield (P := C.P) (args := #[u]) hl (by rw [hrec]; rfl)
      rw [hrec] at hy
      refine ⟨_, _, _, _, hy, roundIn_of_wpIn trivial ?_⟩
      rw [foldl1]
      have hMk : M.le Mk := leOf (keT (keOf hMM1) j1)
      have hRk : Rel ⟨C.P, C.G, st.h.length⟩ w0 ρk Mk ⟨st.t.set p x, S k⟩ { tmps := a.tmps.setIfInBounds p u, defers := [] } V := by
        refine ⟨?_, j5, fun g cs hgc => (hR.glob g cs hgc).mono hMk (Nm.le.refl _), j6, Marks.nil _⟩
        have s1 : L2 (VR Mk ρk) st.t ({ tmps := a.tmps, defers := [] } : Act).tmps.toList := hR.slots.mono hMk j3
        exact put_slots s1 (some p) (hu _ _)
      refine wpIn_mono (hA k x hkm hx0 (W.heap.size + 1) _ w0 ρk Mk _ V hRk) (fun ex a1 V1 hh => ?_)
      obtain ⟨rfl, ρ1, M2, q1, q2, q3, q4⟩ := hh
      have hl1 := (q4.wr.fro.obj _ _ (q1.obj _ _ j2)).1
      refine ⟨_, run_beginRound hl1 (by rw [hrec]), ?_⟩
      have hw3 := q4.wr.turnO hl1 rfl (o' := .loop { rec .ready none with state := .busy }) rfl (by omega)
      have hR3 : Rel ⟨C.P, C.G, st.h.length⟩ w0 ρ1 (M2.note (W.heap.size + 1) (.loop { rec .ready none with state := .busy })) ⟨T k, Am k⟩ a1 (V1.putObj (W.heap.size + 1) (.loop { rec .ready none with state := .busy })) := by
        refine ⟨⟨q4.slots.len, fun i c v p q => (q4.slots.at_ i c v p q).note _ _⟩, hw3, fun g cs hgc => (q4.glob g cs hgc).note _ _, q4.keep, ?_⟩
        obtain ⟨ds, d1, d2, d3⟩ := q4.defers
        refine ⟨ds, d1, d2, fun b hb => ⟨(d3 b hb).1, ?_⟩⟩
        refine (keN M2 _).2.2.1 _ _ (fun eb => ?_) (d3 b hb).2
        have := (d3 b hb).2
        rw [eb, q1.obj _ _ j2] at this
        cases this
      have hρ1 : ρ.le ρ1 := fun i y hy => q2 i (hw.dom i y hy) y (j3 i y hy)
      have hke3 : Ke M1 (M2.note (W.heap.size + 1) (.loop { rec .ready none with state := .busy })) := keT j1 (keT (keOf q1) (keN _ _))
      have hf3 : Fresh M (M2.note (W.heap.size + 1) (.loop { rec .ready none with state := .busy })) w0.heap.size := ⟨fun b o v hb e => j4.cell b o v hb (q3.cell b o v hb e), fun b v hb e => j4.map b v hb (q3.map b v hb e), fun b v hb e => j4.obj b v hb (q3.obj b v hb ((Fresh.note M2 _ (by have := hw.bel.size; omega)).obj b v hb e))⟩
      have fin : ∀ {ρ4 : Nm} {M4 : Mem} {t4 : List AV} {B4 : List Bk} {a4 : Act} {V4 : World} (jump : Option Code), (M2.note (W.heap.size + 1) (.loop { rec .ready none with state := .busy })).le M4 → (∀ i, i < st.h.length → ∀ x, ρ1 i = some x → ρ4 i = some x) → Fresh (M2.note (W.heap.size + 1) (.loop { rec .ready none with state := .busy })) M4 w0.heap.size → Rel ⟨C.P, C.G, st.h.length⟩ w0 ρ4 M4 ⟨t4, B4⟩ a4 V4 →
          ∃ V5, (Instr.endRound (W.heap.size + 1) jump).run C.P V4 = .ok (.bool jump.isNone) V5 ∧ Jg (rec (if jump.isNone then .ready else .done) jump) B4 V5 := by
        intro ρ4 M4 t4 B4 a4 V4 jump r1 r2 r3 r4
        have hl4 := (r4.wr.fro.obj _ _ (r1.obj _ _ (noted _ _))).1
        have hend := run_endRound (P := C.P) jump hl4
        refine ⟨_, hend, ρ4, _, keT hke3 (keT (keOf r1) (keN M4 _)), noted _ _, fun i y hy => r2 i (hw.dom i y hy) y (hρ1 i y hy), ⟨fun b o v hb e => hf3.cell b o v hb (r3.cell b o v hb e), fun b v hb e => hf3.map b v hb (r3.map b v hb e), fun b v hb e => hf3.obj b v hb (r3.obj b v hb ((Fresh.note M4 _ (by have := hw.bel.size; omega)).obj b v hb e))⟩, ?_, r4.keep⟩
        have := r4.wr.turnO hl4 rfl (o' := .loop { { rec .ready none with state := .busy } with state := if jump.isNone then .ready else .done, pending := jump }) rfl (by omega)
        rw [hrec] at this ⊢
        exact this
      by_cases hkm2 : k < m
      · obtain ⟨t', hbk⟩ := hB k hkm2
        refine wpIn_mono (hbk (W.heap.size + 1) _ w0 ρ1 _ _ _ hR3) (fun ex a4 V4 hh => ?_)
        obtain ⟨rfl, ρ4, M4, r1, r2, r3, r4⟩ := hh
        obtain ⟨V5, f1, f2⟩ := fin none r1 r2 r3 r4
        exact ⟨_, V5, f1, .inl ⟨rfl, hkm2, f2⟩⟩
      · have hkm3 : k = m := by omega
        subst hkm3
        have hlt : k < xs.length := (List.getElem?_eq_some_iff.1 hx0).1
        rcases hE with ⟨e1, _⟩ | ⟨_, id, t', e1, hbk⟩
        · omega
        · refine wpIn_mono (hbk (W.heap.size + 1) _ w0 ρ1 _ _ _ hR3) (fun ex a4 V4 hh => ?_)
          obtain ⟨rfl, ρ4, M4, r1, r2, r3, r4⟩ := hh
          obtain ⟨V5, f1, f2⟩ := fin (some (.exit id)) r1 r2 r3 r4
          exact ⟨_, V5, f1, .inr ⟨rfl, id, e1, hlt, f2⟩⟩
    · rintro ex V ⟨⟨v, rfl⟩, hh⟩
      rcases hh with ⟨hk, hJ⟩ | ⟨k, _, id, e1, hlt, hJ⟩
      · have hmx : m = xs.length := by omega
        rcases hE with ⟨_, e2, e3⟩ | ⟨e2, _⟩
        · obtain ⟨f1, f2⟩ := hfin _ V _ (by rw [hrec]; simp) hJ
          rw [← hmx, ← e3] at f2
          have hp : (rec .ready none).pending = none := by rw [hrec]
          subst e2
          refine ⟨_, _, f1, ?_⟩
          split
          · exact ⟨rfl, f2⟩
          · rename_i c hc
            rw [hp] at hc
            cases hc
        · omega
      · obtain ⟨f1, f2⟩ := hfin _ V _ (by rw [hrec]; simp) hJ
        have hp : (rec .done (some (.exit id))).pending = some (.exit id) := by rw [hrec]
        subst e1
        refine ⟨_, _, f1, ?_⟩
        split
        · rename_i hc
          rw [hp] at hc
          cases hc
        · rename_i c hc
          rw [hp] at hc
          cases hc
          exact wpIn_exit ⟨rfl, f2⟩
end
end Go.Pm
