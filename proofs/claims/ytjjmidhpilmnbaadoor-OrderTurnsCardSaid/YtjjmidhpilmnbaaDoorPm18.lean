/- The machine of plain values: calls. By the prover of this seat. -/
import Derived.Test.YtjjmidhpilmnbaaDoorPm17
set_option linter.unusedVariables false
namespace Go.Pm
open Go Go.RowKit
section
variable {P : Program} {w0 W W' : World} {ρ ρ' : Nm} {M M' : Mem} {H : List Bk}
theorem empty_isEmpty {α : Type} {l : List α} (h : l.isEmpty = true) : l = [] := by cases l <;> simp_all
theorem VR.pure0 {c : AV} {v : Value} (h : VR M ρ c v) (hp : pureC0 c = true) (ρ' : Nm) : VR M ρ' c v := by
  cases h with
  | s => exact .s _ _
  | sl_e a b => exact .sl_e a b
  | sl f a b d => exact .sl f a b d
  | sx_e a => exact .sx_e a
  | sx f a b d => exact .sx f a b d
  | nsl => exact .nsl
  | fptr_e => exact .fptr_e
  | fptr f a b => exact .fptr f a b
  | mp_e => exact .mp_e
  | mp kv pq a b c d e f => exact .mp kv pq a b c d e f
  | _ => simp [pureC0] at hp
theorem VR.pureF {c : AV} {v : Value} (h : VR M ρ c v) (hp : pureF c = true) (ρ' : Nm) : VR M ρ' c v := by
  by_cases ha : ∃ cs, c = .agg cs
  · obtain ⟨cs, rfl⟩ := ha
    obtain ⟨vs, rfl, k1, k2⟩ := h.inv_agg
    exact .mkAgg ⟨k1.len, fun i c v a b => (k1.at_ i c v a b).pure0 (List.all_eq_true.1 hp c (List.mem_of_getElem? a)) ρ'⟩ k2
  · have : pureC0 c = true := by cases c <;> first | exact hp | exact absurd ⟨_, rfl⟩ ha
    exact h.pure0 this ρ'
theorem VR.pure {c : AV} {v : Value} (h : VR M ρ c v) (hp : pureC c = true) (ρ' : Nm) : VR M ρ' c v := by
  cases h with
  | fn a b c d =>
    simp only [pureC, Bool.and_eq_true] at hp
    exact .fn a (fun i c v h k => (b i c v h k).pureF (List.all_eq_true.1 hp.1 c (List.mem_of_getElem? h)) ρ') c (fun i c v h k => (d i c v h k).pureF (List.all_eq_true.1 hp.2 c (List.mem_of_getElem? h)) ρ')
  | any => simp [pureC, pureC0] at hp
  | s => exact .s _ _
  | agg => simp [pureC, pureC0] at hp
  | tup => simp [pureC, pureC0] at hp
  | sl_e a b => exact .sl_e a b
  | sl f a b d => exact .sl f a b d
  | sx_e a => exact .sx_e a
  | sx f a b d => exact .sx f a b d
  | nsl => exact .nsl
  | osl_e => simp [pureC, pureC0] at hp
  | osl => simp [pureC, pureC0] at hp
  | ptr => simp [pureC, pureC0] at hp
  | fptr_e => exact .fptr_e
  | fptr f a b => exact .fptr f a b
  | mp_e => exact .mp_e
  | mp kv pq a b c d e f => exact .mp kv pq a b c d e f
  | omp => simp [pureC, pureC0] at hp
theorem BR.pure {b s : Nat} {B : Bk} (h : BR ρ M W b s B) (hp : pureB B = true) (ρ' : Nm) : BR ρ' M W b s B := by
  cases B with
  | dead => trivial
  | arr L cs fz =>
    obtain ⟨h1, h2, ⟨cur, e, fr, h3, h4, h5, h6⟩, h7⟩ := h
    refine ⟨h1, h2, ⟨cur, e, fr, h3, h4, h5, fun i c hc => ?_⟩, h7⟩
    obtain ⟨u, a, b, d⟩ := h6 i c hc
    exact ⟨u, a, b, d.pure (List.all_eq_true.1 hp c (List.mem_of_getElem? hc)) ρ'⟩
  | map es fz =>
    obtain ⟨⟨ents, clock, h1, pq, h2, h3, h4, h5, h6⟩, h7⟩ := h
    have key : ∀ x : AV, pureA x = true → ∀ v, VR M ρ x v → VR M ρ' x v := by
      intro x hx v hv
      by_cases ha : ∃ cs, x = .agg cs
      · obtain ⟨cs, rfl⟩ := ha
        obtain ⟨vs, rfl, k1, k2⟩ := hv.inv_agg
        exact .mkAgg ⟨k1.len, fun i c v a b => (k1.at_ i c v a b).pure (List.all_eq_true.1 hx c (List.mem_of_getElem? a)) ρ'⟩ k2
      · have : pureC x = true := by cases x <;> first | exact hx | exact absurd ⟨_, rfl⟩ ha
        exact hv.pure this ρ'
    have hall := fun i (c : AV × AV) (hc : es[i]? = some c) => List.all_eq_true.1 hp c (List.mem_of_getElem? hc)
    exact ⟨⟨ents, clock, h1, pq, h2, h3, h4, fun i c v x y => key _ (by have := hall i c x; simp at this; exact this.1) _ (h5 i c v x y), fun i c v x y => key _ (by have := hall i c x; simp at this; exact this.2) _ (h6 i c v x y)⟩, h7⟩
theorem BR.mem {b s : Nat} {B : Bk} (h : BR ρ M W b s B) (hM : M.le M') (hf : ∀ o v, M'.cell b o = some v → M.cell b o = some v) (hf2 : ∀ kv, M'.map b = some kv → M.map b = some kv) (hW : W'.heap[b]? = W.heap[b]?) (hr : ρ.le ρ') : BR ρ' M' W' b s B := by
  cases B with
  | dead => trivial
  | arr L cs fz =>
    obtain ⟨h1, h2, ⟨cur, e, fr, h3, h4, h5, h6⟩, h7⟩ := h
    exact ⟨h1, h2, ⟨cur, e, fr, hW.trans h3, h4, h5, fun i c hc => by
      obtain ⟨u, a, b, d⟩ := h6 i c hc
      exact ⟨u, a, b, d.mono hM hr⟩⟩, fun o v hv => h7 o v (hf o v hv)⟩
  | map es fz =>
    obtain ⟨⟨ents, clock, h1, pq, h2, h3, h4, h5, h6⟩, h7⟩ := h
    refine ⟨⟨ents, clock, hW.trans h1, pq, h2, h3, h4, fun i c v a b => (h5 i c v a b).mono hM hr, fun i c v a b => (h6 i c v a b).mono hM hr⟩, fun hs => h7 ?_⟩
    obtain ⟨kv, hkv⟩ := Option.isSome_iff_exists.1 hs
    rw [hf2 kv hkv]; rfl
/-- a cell of an argument, as one that nobody writes any more -/
theorem frzC_ok (hw : WR w0 ρ M H W) {F : List Nat} {c : AV} {v : Value} (hv : VR M ρ c v) (hF : ∀ i ∈ topId c, i ∈ F ∧ ((H[i]?).map pureB).getD false = true) (hp : pureC (frzC (fun j => H[j]?) c) = true) :
    VR (frzM M ρ H W F) Nm.none (frzC (fun j => H[j]?) c) v := by
  have hle := frzM_le M ρ H W F
  have hself : ∀ {c : AV}, VR M ρ c v → pureC c = true → VR (frzM M ρ H W F) Nm.none c v := fun h h1 => (h.pure h1 Nm.none).mono hle (Nm.le.refl _)
  cases hv with
  | any => simp [frzC, pureC, pureC0] at hp
  | s => exact .s _ _
  | agg => simp [frzC, pureC, pureC0] at hp
  | tup => simp [frzC, pureC, pureC0] at hp
  | sl_e a b => exact .sl_e a b
  | sl f a b d => exact hself (.sl f a b d) rfl
  | sx_e a => exact .sx_e a
  | sx f a b d => exact hself (.sx f a b d) rfl
  | nsl => exact .sl_e (Nat.le_refl _) (fun _ => rfl)
  | osl_e =>
    rename_i id off k a
    simp only [frzC] at hp ⊢
    split
    · rw [Nat.zero_mul, List.take_zero]
      exact .sl_e (Nat.le_refl _) (fun _ => rfl)
    · exact .any _ _
  | osl h1 h2 h3 =>
    rename_i id off n k b sz cap
    obtain ⟨hi, hpb⟩ := hF id (by simp [topId])
    simp only [frzC] at hp ⊢
    split
    · rename_i L cs fz hB
      rw [hB] at hpb
      simp at hpb
      obtain ⟨b1, b2, ⟨cur, e, fr, b3, b4, b5, b6⟩, b7⟩ := hw.blk _ _ _ _ h1 hB
      have key : ∀ (i : Nat) c, ((cs.drop off).take (n * k))[i]? = some c → cs[off + i]? = some c := by
        intro i c hc
        rw [List.getElem?_take] at hc
        split at hc
        · rwa [List.getElem?_drop] at hc
        · cases hc
      refine .sl (fun i => cur.getD (off + i) undef) h2 (fun i c hc => ?_) (fun i c hc => ?_)
      · obtain ⟨u, u1, u2, u3⟩ := b6 _ _ (key i c hc)
        have hol : off + i < L := by rw [b1]; exact (List.getElem?_eq_some_iff.1 (key i c hc)).1
        have hcell : W.cell? ⟨b, off + i, none⟩ = some u := by simp [World.cell?, b3, u1]
        have hg : cur.getD (off + i) undef = u := by simp [Array.getD_eq_getD_getElem?, u1]
        rw [hg]
        simp only [frzM]
        cases hm : M.cell b (off + i) with
        | some u' =>
          have := (hw.fro.cell _ _ _ hm).1
          rw [hcell] at this
          simpa using this.symm
        | none => simp only []; rw [if_pos ⟨id, sz, L, cs, fz, hi, h1, hB, hol⟩]; exact hcell
      · obtain ⟨u, u1, u2, u3⟩ := b6 _ _ (key i c hc)
        have hg : cur.getD (off + i) undef = u := by simp [Array.getD_eq_getD_getElem?, u1]
        rw [hg]
        exact (u3.pure (List.all_eq_true.1 hpb c (List.mem_of_getElem? (key i c hc))) Nm.none).mono hle (Nm.le.refl _)
    · exact .any _ _
  | ptr => simp [frzC, pureC, pureC0] at hp
  | fptr_e => exact .fptr_e
  | fptr f a b => exact hself (.fptr f a b) rfl
  | mp_e => exact .mp_e
  | mp kv pq a b c d e f => exact hself (.mp kv pq a b c d e f) rfl
  | omp h1 =>
    rename_i id b sz
    obtain ⟨hi, hpb⟩ := hF id (by simp [topId])
    simp only [frzC] at hp ⊢
    split
    · rename_i es fz hB
      rw [hB] at hpb
      simp at hpb
      have hbr := BR.pure (hw.blk _ _ _ _ h1 hB) (by simpa [pureB] using hpb) Nm.none
      obtain ⟨⟨ents, clock, b1, pq, b2, b3, b4, b5, b6⟩, b7⟩ := hbr
      refine .mp (ents.toList.map fun e => (e.key, e.val)) pq ?_ b2 b3 b4 (fun i c v x y => (b5 i c v x y).mono hle (Nm.le.refl _)) (fun i c v x y => (b6 i c v x y).mono hle (Nm.le.refl _))
      simp only [frzM]
      cases hm : M.map b with
      | some kv =>
        obtain ⟨es', cl', e1, e2⟩ := hw.fro.map _ _ hm
        rw [b1] at e1
        cases e1
        simp [e2]
      | none => simp only []; rw [if_pos ⟨id, sz, es, fz, hi, h1, hB⟩, b1]
    · exact .any _ _
  | fn a b c d =>
    simp only [frzC] at hp ⊢
    split
    · rename_i hc
      exact hself (.fn a b c d) hc
    · exact .any _ _
theorem frzA_ok (hw : WR w0 ρ M H W) {F : List Nat} {x : AV} {v : Value} (hv : VR M ρ x v) (hF : ∀ i ∈ idsA x, i ∈ F ∧ ((H[i]?).map pureB).getD false = true) (hp : pureA (frzA (fun j => H[j]?) x) = true) :
    VR (frzM M ρ H W F) Nm.none (frzA (fun j => H[j]?) x) v := by
  by_cases ha : ∃ cs, x = .agg cs
  · obtain ⟨cs, rfl⟩ := ha
    obtain ⟨vs, rfl, h1, h2⟩ := hv.inv_agg
    simp only [frzA, pureA] at hp ⊢
    refine .mkAgg ⟨by simpa using h1.len, fun i c v hc hv' => ?_⟩ h2
    simp only [List.getElem?_map, Option.map_eq_some_iff] at hc
    obtain ⟨c0, hc0, rfl⟩ := hc
    refine frzC_ok hw (h1.at_ i c0 v hc0 hv') (fun j hj => hF j ?_) ?_
    · simp only [idsA, List.mem_flatMap]
      exact ⟨c0, List.mem_of_getElem? hc0, hj⟩
    · exact List.all_eq_true.1 hp _ (List.mem_map.2 ⟨c0, List.mem_of_getElem? hc0, rfl⟩)
  · have e1 : frzA (fun j => H[j]?) x = frzC (fun j => H[j]?) x := by cases x <;> first | rfl | exact absurd ⟨_, rfl⟩ ha
    have e2 : idsA x = topId x := by cases x <;> first | rfl | exact absurd ⟨_, rfl⟩ ha
    rw [e1] at hp ⊢
    rw [e2] at hF
    refine frzC_ok hw hv hF ?_
    have hna : ∀ cs, frzC (fun j => H[j]?) x ≠ .agg cs := by
      intro cs
      cases x <;> simp [frzC] <;> (split <;> simp)
    generalize frzC (fun j => H[j]?) x = y at hp hna
    cases y <;> first | exact hp | exact absurd rfl (hna _)
end
end Go.Pm
