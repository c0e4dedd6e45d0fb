/- The machine of plain values: what is handed on is written no more; calls. By the prover of this seat. -/
import Derived.Test.YtjjmidhpilmnbaaDoorPm16
set_option linter.unusedVariables false
namespace Go.Pm
open Go Go.RowKit
section
variable {P : Program} {w0 W : World} {ρ : Nm} {M : Mem} {H : List Bk}
theorem get_mark (H : List Bk) : ∀ (F : List Nat) (K : List Bk), K.length = H.length → (∀ j : Nat, K[j]? = H[j]? ∨ K[j]? = (H[j]?).map markB) → 
    (putW K (markW (fun j => H[j]?) F)).length = H.length ∧ (∀ j : Nat, (putW K (markW (fun j => H[j]?) F))[j]? = if j ∈ F then (H[j]?).map markB else K[j]?) := by
  intro F
  induction F with
  | nil => intro K hl hK; exact ⟨hl, fun j => by simp [markW, putW]⟩
  | cons i F ih =>
    intro K hl hK
    have skip : (putW K (markW (fun j => H[j]?) (i :: F)) = putW K (markW (fun j => H[j]?) F)) → (∀ j : Nat, j = i → (H[j]?).map markB = K[j]?) → 
        (putW K (markW (fun j => H[j]?) (i :: F))).length = H.length ∧ (∀ j : Nat, (putW K (markW (fun j => H[j]?) (i :: F)))[j]? = if j ∈ i :: F then (H[j]?).map markB else K[j]?) := by
      intro e hk
      obtain ⟨h1, h2⟩ := ih K hl hK
      rw [e]
      refine ⟨h1, fun j => ?_⟩
      rw [h2]
      by_cases hj : j = i
      · subst hj
        by_cases hm : j ∈ F
        · simp [hm]
        · simp [hm, hk j rfl]
      · simp [hj]
    have go : ∀ b : Bk, H[i]? = some b → (markW (fun j => H[j]?) (i :: F) = (i, markB b) :: markW (fun j => H[j]?) F) →
        (putW K (markW (fun j => H[j]?) (i :: F))).length = H.length ∧ (∀ j : Nat, (putW K (markW (fun j => H[j]?) (i :: F)))[j]? = if j ∈ i :: F then (H[j]?).map markB else K[j]?) := by
      intro b hi e
      rw [e]
      have hil : i < H.length := (List.getElem?_eq_some_iff.1 hi).1
      have hl2 : (putB K (i, markB b)).length = H.length := by rw [len_putB]; simp only; omega
      have hg : ∀ j : Nat, (putB K (i, markB b))[j]? = if j = i then some (markB b) else K[j]? := by
        intro j
        rw [get_putB]
        by_cases hj : j = i
        · simp [hj]
        · rw [if_neg hj, if_neg hj]
          by_cases hjl : j < K.length
          · rw [if_pos hjl]
          · rw [if_neg hjl, if_neg (by omega), List.getElem?_eq_none (by omega)]
      obtain ⟨h1, h2⟩ := ih (putB K (i, markB b)) hl2 (fun j => by
        rw [hg]
        by_cases hj : j = i
        · right; rw [if_pos hj, hj, hi]; rfl
        · rw [if_neg hj]; exact hK j)
      refine ⟨h1, fun j => ?_⟩
      show (putW (putB K (i, markB b)) _)[j]? = _
      rw [h2, hg]
      by_cases hj : j = i
      · subst hj
        simp [hi]
      · simp [hj]
    cases hi : H[i]? with
    | none =>
      refine skip (by simp only [markW, hi]) fun j hj => ?_
      subst hj
      have hk : K[j]? = none := by
        rw [List.getElem?_eq_none_iff] at hi ⊢
        omega
      simp [hi, hk]
    | some b =>
      cases b with
      | arr L cs fz => exact go _ hi (by simp only [markW, hi])
      | map es fz => exact go _ hi (by simp only [markW, hi])
      | dead =>
        refine skip (by simp only [markW, hi]) fun j hj => ?_
        subst hj
        rcases hK j with h | h <;> rw [h, hi] <;> rfl
theorem mark_live {B B' : Bk} (h : markB B = B') : B'.live ↔ B.live := by subst h; cases B <;> exact Iff.rfl
open Classical in
/-- memory in which the blocks of F are written no more -/
noncomputable def frzM (M : Mem) (ρ : Nm) (H : List Bk) (W : World) (F : List Nat) : Mem where
  cell b o := match M.cell b o with
    | some v => some v
    | none => if ∃ i s L cs fz, i ∈ F ∧ ρ i = some (b, s) ∧ H[i]? = some (.arr L cs fz) ∧ o < L then W.cell? ⟨b, o, none⟩ else none
  map b := match M.map b with
    | some v => some v
    | none => if ∃ i s es fz, i ∈ F ∧ ρ i = some (b, s) ∧ H[i]? = some (.map es fz) then (match W.heap[b]? with | some (.map ents _) => some (ents.toList.map fun e => (e.key, e.val)) | _ => none) else none
theorem frzM_le (M : Mem) (ρ : Nm) (H : List Bk) (W : World) (F : List Nat) : M.le (frzM M ρ H W F) :=
  ⟨fun b o v h => by simp [frzM, h], fun b v h => by simp [frzM, h]⟩
theorem frzM_cell {F : List Nat} {b o : Nat} {v : Value} (h : (frzM M ρ H W F).cell b o = some v) : M.cell b o = some v ∨ (M.cell b o = none ∧ W.cell? ⟨b, o, none⟩ = some v ∧ ∃ i s L cs fz, i ∈ F ∧ ρ i = some (b, s) ∧ H[i]? = some (.arr L cs fz) ∧ o < L) := by
  simp only [frzM] at h
  cases hm : M.cell b o with
  | some u => simp [hm] at h; exact .inl (by rw [h])
  | none =>
    simp only [hm] at h
    split at h
    · rename_i hex; exact .inr ⟨rfl, h, hex⟩
    · cases h
theorem frzM_map {F : List Nat} {b : Nat} {kv : List (Value × Value)} (h : (frzM M ρ H W F).map b = some kv) : M.map b = some kv ∨ (M.map b = none ∧ (∃ ents clock, W.heap[b]? = some (.map ents clock) ∧ ents.toList.map (fun e => (e.key, e.val)) = kv) ∧ ∃ i s es fz, i ∈ F ∧ ρ i = some (b, s) ∧ H[i]? = some (.map es fz)) := by
  simp only [frzM] at h
  cases hm : M.map b with
  | some u => simp [hm] at h; exact .inl (by rw [h])
  | none =>
    simp only [hm] at h
    split at h
    · rename_i hex
      split at h
      · rename_i ents clock hh; cases h; exact .inr ⟨rfl, ⟨_, _, hh, rfl⟩, hex⟩
      · cases h
    · cases h
/-- the blocks of F are written no more -/
theorem WR.mark (hw : WR w0 ρ M H W) (F : List Nat) : WR w0 ρ (frzM M ρ H W F) (putW H (markW (fun j => H[j]?) F)) W ∧ Fresh M (frzM M ρ H W F) w0.heap.size := by
  obtain ⟨hlen, hget⟩ := get_mark H F H rfl (fun j => .inl rfl)
  have hle := frzM_le M ρ H W F
  have hback : ∀ i B, (putW H (markW (fun j => H[j]?) F))[i]? = some B → B.live → ∃ B0, H[i]? = some B0 ∧ B0.live ∧ (B = B0 ∨ i ∈ F ∧ B = markB B0) := by
    intro i B h l
    rw [hget] at h
    split at h
    · rename_i hi
      simp only [Option.map_eq_some_iff] at h
      obtain ⟨B0, h0, rfl⟩ := h
      exact ⟨B0, h0, (mark_live rfl).1 l, .inr ⟨hi, rfl⟩⟩
    · exact ⟨B, h, l, .inl rfl⟩
  refine ⟨⟨hw.bel, ⟨fun b o v h => ?_, fun b kv h => ?_⟩, fun i x hi => by rw [hlen]; exact hw.dom i x hi, ?_, ?_, ?_⟩, ⟨fun b o v hb h => ?_, fun b kv hb h => ?_⟩⟩
  · rcases frzM_cell h with h | ⟨_, h, i, s, L, cs, fz, hi, hid, hB, ho⟩
    · exact hw.fro.cell b o v h
    · refine ⟨h, ?_⟩
      obtain ⟨b1, b2, ⟨cur, e, fr, b3, b4, b5, b6⟩, b7⟩ := hw.blk _ _ _ _ hid hB
      obtain ⟨u, u1, u2, _⟩ := b6 o cs[o] (by simp [show o < cs.length by omega])
      simp [World.cell?, b3, u1] at h
      subst h
      exact u2
  · rcases frzM_map h with h | ⟨_, h, _⟩
    · exact hw.fro.map b kv h
    · exact h
  · intro i j b s t B B' hi hj h1 l1 h2 l2
    obtain ⟨B1, p1, p2, _⟩ := hback i B h1 l1
    obtain ⟨B2, q1, q2, _⟩ := hback j B' h2 l2
    exact hw.inj i j b s t B1 B2 hi hj p1 p2 q1 q2
  · intro i b s B hi h1 l1
    obtain ⟨B1, p1, p2, _⟩ := hback i B h1 l1
    exact hw.new i b s B1 hi p1 p2
  · intro i b s B hi h1
    by_cases hl : B.live
    · obtain ⟨B1, p1, p2, hB⟩ := hback i B h1 hl
      have hbr := hw.blk i b s B1 hi p1
      have uniq : ∀ i' s', i' ∈ F → ρ i' = some (b, s') → ∀ B2, H[i']? = some B2 → B2.live → i' = i := fun i' s' hf hi' B2 h2 l2 => hw.inj i' i b s' s B2 B1 hi' hi h2 l2 p1 p2
      cases B1 with
      | dead => exact p2.elim
      | arr L cs fz =>
        obtain ⟨b1, b2, ⟨cur, e, fr, b3, b4, b5, b6⟩, b7⟩ := hbr
        have hcells : ∀ (i : Nat) c, cs[i]? = some c → ∃ u, cur[i]? = some u ∧ u.oneCell' = true ∧ VR (frzM M ρ H W F) ρ c u := fun i c hc => by
          obtain ⟨u, u1, u2, u3⟩ := b6 i c hc
          exact ⟨u, u1, u2, u3.mono hle (Nm.le.refl _)⟩
        rcases hB with rfl | ⟨hiF, rfl⟩
        · refine ⟨b1, b2, ⟨cur, e, fr, b3, b4, b5, hcells⟩, fun o v h => ?_⟩
          rcases frzM_cell h with h | ⟨_, _, i', s', L', cs', fz', hi', hid', hB', ho⟩
          · exact b7 o v h
          · -- i is in F then: its block is marked
            have e := uniq i' s' hi' hid' _ hB' trivial
            subst e
            rw [hget, if_pos hi', p1] at h1
            simp [markB] at h1
            rw [p1] at hB'
            cases hB'
            exact ⟨by omega, ho⟩
        · refine ⟨b1, b2, ⟨cur, e, fr, b3, b4, b5, hcells⟩, fun o v h => ?_⟩
          rcases frzM_cell h with h | ⟨_, _, i', s', L', cs', fz', hi', hid', hB', ho⟩
          · exact ⟨(b7 o v h).2, (b7 o v h).2⟩
          · have e := uniq i' s' hi' hid' _ hB' trivial
            subst e
            rw [p1] at hB'
            cases hB'
            exact ⟨ho, ho⟩
      | map es fz =>
        obtain ⟨⟨ents, clock, b1, pq, b2, b3, b4, b5, b6⟩, b7⟩ := hbr
        have hm : ∀ fz', (M.map b).isSome = true ∨ i ∈ F → fz' = true → BR ρ (frzM M ρ H W F) W b s (.map es fz') := fun fz' _ hf => ⟨⟨ents, clock, b1, pq, b2, b3, b4, fun i c v x y => (b5 i c v x y).mono hle (Nm.le.refl _), fun i c v x y => (b6 i c v x y).mono hle (Nm.le.refl _)⟩, fun _ => hf⟩
        rcases hB with rfl | ⟨hiF, rfl⟩
        · refine ⟨⟨ents, clock, b1, pq, b2, b3, b4, fun i c v x y => (b5 i c v x y).mono hle (Nm.le.refl _), fun i c v x y => (b6 i c v x y).mono hle (Nm.le.refl _)⟩, fun h => ?_⟩
          obtain ⟨kv, hkv⟩ := Option.isSome_iff_exists.1 h
          rcases frzM_map hkv with h | ⟨_, _, i', s', es', fz', hi', hid', hB'⟩
          · exact b7 (by rw [h]; rfl)
          · have e := uniq i' s' hi' hid' _ hB' trivial
            subst e
            rw [hget, if_pos hi', p1] at h1
            simp [markB] at h1
            exact h1.symm ▸ rfl
        · exact hm true (.inr hiF) rfl
    · cases B with
      | dead => trivial
      | arr => exact absurd trivial hl
      | map => exact absurd trivial hl
  · rcases frzM_cell h with h | ⟨_, h, i, s, L, cs, fz, hi, hid, hB, ho⟩
    · exact h
    · exact absurd (hw.new _ _ _ _ hid hB trivial) (by omega)
  · rcases frzM_map h with h | ⟨_, h, i, s, es, fz, hi, hid, hB⟩
    · exact h
    · exact absurd (hw.new _ _ _ _ hid hB trivial) (by omega)
end
end Go.Pm
