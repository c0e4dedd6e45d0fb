/- The machine of plain values: a state seen more weakly. By the prover of this seat. -/
import Derived.Test.YtjjmidhpilmnbaaDoorPm25
set_option linter.unusedVariables false
namespace Go.Pm
open Go Go.RowKit
section
variable {w0 W : World} {ρ : Nm} {M : Mem} {H : List Bk}
theorem posOf_spec : ∀ (l : List Nat) (j i : Nat), posOf l j = some i → l[i]? = some j := by
  intro l
  induction l with
  | nil => intro j i h; simp [posOf] at h
  | cons a l ih =>
    intro j i h
    unfold posOf at h
    split at h
    · rename_i e; cases h; simp [e]
    · simp only [Option.map_eq_some_iff] at h
      obtain ⟨i', h1, rfl⟩ := h
      simpa using ih j i' h1
def renN (ρ : Nm) (l : List Nat) : Nm := fun i => (l[i]?).bind ρ
theorem renN_pos {l : List Nat} {j i : Nat} (h : posOf l j = some i) : renN ρ l i = ρ j := by simp [renN, posOf_spec l j i h]
theorem reC_ok {l : List Nat} {c : AV} {v : Value} (h : VR M ρ c v) : VR M (renN ρ l) (reC l c) v := by
  cases h with
  | any => exact .any _ _
  | s => exact .s _ _
  | agg => exact .any _ _
  | tup => exact .any _ _
  | sl_e a b => exact .sl_e a b
  | sl f a b d => exact .sl f a b d
  | sx_e a => exact .sx_e a
  | sx f a b d => exact .sx f a b d
  | nsl => exact .sl_e (Nat.le_refl _) (fun _ => rfl)
  | osl_e =>
    simp only [reC]
    split
    · exact .osl_e
    · exact .any _ _
  | osl a b d =>
    simp only [reC]
    split
    · rename_i i hi; exact .osl (by rw [renN_pos hi]; exact a) b d
    · exact .any _ _
  | ptr a =>
    simp only [reC]
    split
    · rename_i i hi; exact .ptr (by rw [renN_pos hi]; exact a)
    · exact .any _ _
  | fptr_e => exact .fptr_e
  | fptr f a b => exact .fptr f a b
  | mp_e => exact .mp_e
  | mp kv pq a b c d e f => exact .mp kv pq a b c d e f
  | omp a =>
    simp only [reC]
    split
    · rename_i i hi; exact .omp (by rw [renN_pos hi]; exact a)
    · exact .any _ _
  | fn a b c d =>
    simp only [reC]
    split
    · rename_i hc
      exact VR.pure (c := .fn _ _ _) (.fn a b c d) hc _
    · exact .any _ _
theorem map_ok {l : List Nat} {f : AV → AV} (hf : ∀ c v, VR M ρ c v → VR M (renN ρ l) (f c) v) {cs : List AV} {vs : List Value} (h : L2 (VR M ρ) cs vs) : L2 (VR M (renN ρ l)) (cs.map f) vs := by
  refine ⟨by simpa using h.len, fun i c v hc hv => ?_⟩
  simp only [List.getElem?_map, Option.map_eq_some_iff] at hc
  obtain ⟨c0, hc0, rfl⟩ := hc
  exact hf _ _ (h.at_ i c0 v hc0 hv)
theorem reF_ok {l : List Nat} {c : AV} {v : Value} (h : VR M ρ c v) : VR M (renN ρ l) (reF l c) v := by
  by_cases ha : ∃ cs, c = .agg cs
  · obtain ⟨cs, rfl⟩ := ha
    obtain ⟨vs, rfl, h1, h2⟩ := h.inv_agg
    exact .mkAgg (map_ok (fun _ _ => reC_ok) h1) h2
  · have e : reF l c = reC l c := by cases c <;> first | rfl | exact absurd ⟨_, rfl⟩ ha
    rw [e]; exact reC_ok h
theorem reA_ok {l : List Nat} {c : AV} {v : Value} (h : VR M ρ c v) : VR M (renN ρ l) (reA l c) v := by
  cases h with
  | fn a b c d =>
    have h1 := map_ok (l := l) (fun _ _ => reF_ok) ⟨a, b⟩
    have h2 := map_ok (l := l) (fun _ _ => reF_ok) ⟨c, d⟩
    exact .fn h1.len h1.at_ h2.len h2.at_
  | tup a b => exact .mkTup (map_ok (fun _ _ => reF_ok) ⟨a, b⟩)
  | any => exact .any _ _
  | s => exact .s _ _
  | agg a b d => exact reF_ok (.agg a b d)
  | sl_e a b => exact .sl_e a b
  | sl f a b d => exact .sl f a b d
  | sx_e a => exact .sx_e a
  | sx f a b d => exact .sx f a b d
  | nsl => exact reF_ok .nsl
  | osl_e => exact reF_ok .osl_e
  | osl a b d => exact reF_ok (.osl a b d)
  | ptr a => exact reF_ok (.ptr a)
  | fptr_e => exact .fptr_e
  | fptr f a b => exact .fptr f a b
  | mp_e => exact .mp_e
  | mp kv pq a b c d e f => exact .mp kv pq a b c d e f
  | omp a => exact reF_ok (.omp a)
theorem slots_at (f : Fg) : ∀ (t : List AV) (i : Nat), (fgSlots f i t).length = t.length ∧ ∀ (k : Nat) c', (fgSlots f i t)[k]? = some c' → ∃ c, t[k]? = some c ∧ c' = fgSlot f (i + k) c := by
  intro t
  induction t with
  | nil => intro i; exact ⟨rfl, fun k c' h => by simp [fgSlots] at h⟩
  | cons c t ih =>
    intro i
    obtain ⟨h1, h2⟩ := ih (i + 1)
    refine ⟨by simp [fgSlots, h1], fun k c' h => ?_⟩
    cases k with
    | zero => simp [fgSlots] at h; exact ⟨c, rfl, by rw [Nat.add_zero]; exact h.symm⟩
    | succ k =>
      obtain ⟨d, d1, d2⟩ := h2 k c' (by simpa [fgSlots] using h)
      exact ⟨d, by simpa using d1, by rw [show i + (k + 1) = i + 1 + k by omega]; exact d2⟩
theorem preOk_spec : ∀ (n i : Nat) (l : List Nat), preOk i l n = true → ∀ k, k < n → l[k]? = some (i + k) := by
  intro n
  induction n with
  | zero => intro i l _ k hk; omega
  | succ n ih =>
    intro i l h k hk
    cases l with
    | nil => simp [preOk] at h
    | cons j l =>
      simp only [preOk, Bool.and_eq_true, beq_iff_eq] at h
      cases k with
      | zero => simp [h.1]
      | succ k =>
        have := ih (i + 1) l h.2 k (by omega)
        simp only [List.getElem?_cons_succ]
        rw [this]; congr 1; omega
theorem allP_mem {ps : List Prop} (h : allP ps) : ∀ p ∈ ps, p := by
  induction ps with
  | nil => intro p hp; cases hp
  | cons q ps ih =>
    intro p hp
    rcases List.mem_cons.1 hp with rfl | hp
    · exact h.1
    · exact ih h.2 p hp
theorem reB_ok {l : List Nat} {b s : Nat} {B : Bk} (h : BR ρ M W b s B) : BR (renN ρ l) M W b s (reB l B) := by
  cases B with
  | dead => trivial
  | arr L cs fz =>
    obtain ⟨h1, h2, ⟨cur, e, fr, h3, h4, h5, h6⟩, h7⟩ := h
    refine ⟨by simpa using h1, h2, ⟨cur, e, fr, h3, h4, h5, fun i c hc => ?_⟩, h7⟩
    simp only [List.getElem?_map, Option.map_eq_some_iff] at hc
    obtain ⟨c0, hc0, rfl⟩ := hc
    obtain ⟨u, a, b, d⟩ := h6 i c0 hc0
    exact ⟨u, a, b, reC_ok d⟩
  | map es fz => trivial
theorem forget_ok {C : Cx} {f : Fg} {st : St} {a : Act} (hR : Rel C w0 ρ M st a W) (ha : allP (fgAsk f C.keep st.h)) :
    ∃ ρ', (∀ i, i < C.keep → ∀ x, ρ i = some x → ρ' i = some x) ∧ Rel C w0 ρ' M (forget f st) a W := by
  obtain ⟨h0, hask⟩ := allP_append ha
  obtain ⟨h0, _⟩ := h0
  simp only [Bool.and_eq_true, decide_eq_true_eq] at h0
  obtain ⟨hnd, hpre⟩ := h0
  have hpre' := preOk_spec _ _ _ hpre
  have hpure : ∀ j B, j ∈ f.l → st.h[j]? = some B → f.mx.contains j = false → B.live → pureB B = true := by
    intro j B hj hB hc hl
    have hm := allP_mem hask
    cases B with
    | dead => exact hl.elim
    | arr L cs fz => exact hm _ (List.mem_filterMap.2 ⟨j, hj, by simp only [hc, hB]; rfl⟩)
    | map es fz => exact hm _ (List.mem_filterMap.2 ⟨j, hj, by simp only [hc, hB]; rfl⟩)
  have hw := hR.wr
  have hat : ∀ i x, renN ρ f.l i = some x → ∃ j B, f.l[i]? = some j ∧ ρ j = some x ∧ st.h[j]? = some B ∧ (forget f st).h[i]? = some (if f.mx.contains j then reB f.l B else B) := by
    intro i x hi
    unfold renN at hi
    cases hl : f.l[i]? with
    | none => simp [hl] at hi
    | some j =>
      simp only [hl, Option.bind_some] at hi
      have hj := hw.dom j x hi
      have hil : i < f.l.length := (List.getElem?_eq_some_iff.1 hl).1
      refine ⟨j, st.h[j], rfl, hi, List.getElem?_eq_getElem hj, ?_⟩
      simp only [forget]
      rw [List.getElem?_append_left (by simpa using hil), List.getElem?_map, hl]
      simp only [Option.map_some, fgBlock, List.getElem?_eq_getElem hj]
  have hlive : ∀ {j : Nat} {B B' : Bk}, (if f.mx.contains j then reB f.l B else B) = B' → B'.live → B.live := by
    intro j B B' h hl
    split at h
    · cases B with
      | arr => trivial
      | map => subst h; exact hl.elim
      | dead => subst h; exact hl.elim
    · subst h; exact hl
  have hinj : ∀ (i i' j : Nat), f.l[i]? = some j → f.l[i']? = some j → i = i' := by
    intro i i' j h1 h2
    have l1 := (List.getElem?_eq_some_iff.1 h1)
    have l2 := (List.getElem?_eq_some_iff.1 h2)
    obtain ⟨p1, e1⟩ := l1
    obtain ⟨p2, e2⟩ := l2
    exact (List.getElem_inj hnd).1 (e1.trans e2.symm)
  refine ⟨renN ρ f.l, fun i hi x hx => by simp only [renN, hpre' i hi, Option.bind_some, Nat.zero_add]; exact hx, ?_, ⟨hw.bel, hw.fro, ?_, ?_, ?_, ?_⟩, hR.glob, ?_, hR.defers⟩
  · obtain ⟨s1, s2⟩ := slots_at f st.t 0
    refine ⟨by simp only [forget]; rw [s1]; exact hR.slots.len, fun i c' v hc hv => ?_⟩
    obtain ⟨c, hc0, rfl⟩ := s2 i c' hc
    have hr := hR.slots.at_ i c v hc0 hv
    rw [Nat.zero_add]
    unfold fgSlot
    split
    · split
      · cases hr with
        | nsl => exact .osl_e
      · exact .any _ _
    · split
      · exact reA_ok hr
      · exact .any _ _
  · intro i x hi
    obtain ⟨j, B, h1, h2, h3, h4⟩ := hat i x hi
    exact (List.getElem?_eq_some_iff.1 h4).1
  · intro i i' b s t B1 B2 hi hi' g1 l1 g2 l2
    obtain ⟨j, B, h1, h2, h3, h4⟩ := hat i _ hi
    obtain ⟨j', B', h1', h2', h3', h4'⟩ := hat i' _ hi'
    rw [h4] at g1
    rw [h4'] at g2
    cases g1
    cases g2
    have := hw.inj j j' b s t B B' h2 h2' h3 (hlive rfl l1) h3' (hlive rfl l2)
    subst this
    exact hinj i i' j h1 h1'
  · intro i b s B1 hi g1 l1
    obtain ⟨j, B, h1, h2, h3, h4⟩ := hat i _ hi
    rw [h4] at g1
    cases g1
    exact hw.new j b s B h2 h3 (hlive rfl l1)
  · intro i b s B1 hi g1
    obtain ⟨j, B, h1, h2, h3, h4⟩ := hat i _ hi
    rw [h4] at g1
    cases g1
    have hbr := hw.blk j b s B h2 h3
    split
    · exact reB_ok hbr
    · rename_i hc
      by_cases hl : B.live
      · exact hbr.pure (hpure j B (List.mem_of_getElem? h1) h3 (by simpa using hc) hl) _
      · cases B with
        | dead => trivial
        | arr => exact absurd trivial hl
        | map => exact absurd trivial hl
  · simp only [forget, List.length_append, List.length_map]
    rcases Nat.eq_zero_or_pos C.keep with h | h
    · omega
    · have := (List.getElem?_eq_some_iff.1 (hpre' (C.keep - 1) (by omega))).1
      omega
end
end Go.Pm
