/- The machine of plain values: structs and arrays laid together, parts, bytes and strings, builtins, new rows. By the prover of this seat. -/
import Derived.Test.YtjjmidhpilmnbaaDoorPm9
set_option linter.unusedVariables false
namespace Go.Pm
open Go Go.RowKit
section
variable {P : Program} {w0 W : World} {ρ : Nm} {M : Mem} {H : List Bk}
theorem ok_part {C : Cx} {t : TypeId} {cs : List AV} {off : Nat} {v : AV} (h : partA C t (cs.drop off) = some v) {vs : List Value} (hx : L2 (VR M ρ) cs vs) (h1 : ∀ u ∈ vs, u.oneCell' = true) : ∃ y, (part t vs.toArray off).run C.P W = .ok y W ∧ VR M ρ v y := by
  unfold partA at h
  split at h
  · rename_i sz hs ha
    simp only [Option.map_eq_some_iff] at h
    obtain ⟨xs, h2, rfl⟩ := h
    obtain ⟨h3, h4⟩ := takeE_some h2
    refine ⟨.agg (vs.toArray.extract off (off + sz)), by simp [part, run_aggB ha, run_szOf hs], ?_⟩
    have e : vs.toArray.extract off (off + sz) = ((vs.drop off).take sz).toArray := by
      rw [List.extract_toArray]
      simp [List.extract_eq_take_drop]
    rw [e]
    refine .mkAgg ?_ fun u hu => h1 u (List.mem_of_mem_drop (List.mem_of_mem_take hu))
    rw [← h4]
    exact (hx.drop off).take sz
  · rename_i sz hs ha
    rw [List.head?_eq_getElem?, List.getElem?_drop] at h
    obtain ⟨u, hu, hr⟩ := hx.get h
    simp only [Nat.add_zero] at hu
    exact ⟨u, by simp [part, run_aggB ha, hu], hr⟩
  · cases h
theorem placesOf_ok : ∀ {fs : List Field} {pl : List (Nat × Nat)}, placesOf P fs = some pl → ∀ W, (fs.mapM fun f => (do pure (f.offset, ← sizeOf f.type) : Sem (Nat × Nat))).run P W = .ok pl W := by
  intro fs
  induction fs with
  | nil => intro pl h W; simp [placesOf] at h; subst h; simp
  | cons f fs ih =>
    intro pl h W
    unfold placesOf at h
    split at h
    · rename_i s l hs hl
      cases h
      have := ih hl
      simp only [List.mapM_cons, Sem.run_bind, run_szOf hs, Result.andThen_ok, Sem.run_pure, this]
    · cases h
/-- the parts of a struct or of an array laid into its cells -/
theorem fill_ok {pl pl' : Nat → Option (Nat × Nat)} (hpl : ∀ i, pl i = pl' i) : ∀ (ps : List (Nat × AV)) (qs : List (Nat × Value)) (cs ds : List AV) (vs : List Value), fillA pl cs ps = some ds → L2 (VR M ρ) cs vs → (∀ u ∈ vs, u.oneCell' = true) → ps.length = qs.length →
    (∀ (i : Nat) p q, ps[i]? = some p → qs[i]? = some q → p.1 = q.1 ∧ VR M ρ p.2 q.2) → ∃ us : List Value, Instr.fill pl' vs.toArray qs = some us.toArray ∧ L2 (VR M ρ) ds us ∧ ∀ u ∈ us, u.oneCell' = true := by
  intro ps
  induction ps with
  | nil =>
    intro qs cs ds vs h hx h1 hl _
    cases qs with
    | nil => simp [fillA] at h; subst h; exact ⟨vs, rfl, hx, h1⟩
    | cons q qs => simp at hl
  | cons p ps ih =>
    intro qs cs ds vs h hx h1 hl hq
    cases qs with
    | nil => simp at hl
    | cons q qs =>
      obtain ⟨i, x⟩ := p
      obtain ⟨j, y⟩ := q
      obtain ⟨hij, hxy⟩ := hq 0 _ _ rfl rfl
      simp only at hij hxy
      subst hij
      unfold fillA at h
      split at h
      · cases h
      · rename_i off size hplace
        split at h
        · rename_i hc
          obtain ⟨k1, k2, k3⟩ := hc
          obtain ⟨c1, c2⟩ := hxy.cells k1
          have hy : y.cells.size = size := by rw [← k2, c1.len]; simp
          have hsz : vs.length = cs.length := hx.len.symm
          have hfold : y.cells.zipIdx.foldl (fun cs (c, j) => cs.setIfInBounds (off + j) c) vs.toArray = (splice vs off y.cells.toList).toArray := by
            have key : ∀ (l : List Value) (k : Nat) (vs : List Value), off + k + l.length ≤ vs.length → (l.zipIdx k).foldl (fun (cs : Array Value) (p : Value × Nat) => cs.setIfInBounds (off + p.2) p.1) vs.toArray = (splice vs (off + k) l).toArray := by
              intro l
              induction l with
              | nil => intro k vs _; simp [splice]
              | cons c l ihl =>
                intro k vs hle
                simp only [List.zipIdx_cons, List.foldl_cons, List.setIfInBounds_toArray]
                rw [ihl (k + 1) (vs.set (off + k) c) (by simp at hle ⊢; omega)]
                congr 1
                simp only [splice, List.length_cons] at hle ⊢
                have e1 : (vs.set (off + k) c).take (off + (k + 1)) = vs.take (off + k) ++ [c] := by
                  rw [List.take_set, ← Nat.add_assoc, List.take_succ_eq_append_getElem (by omega)]
                  rw [List.set_append_right _ _ (by simp; omega)]
                  simp [show min (off + k) vs.length = off + k by omega]
                have e2 : (vs.set (off + k) c).drop (off + (k + 1) + l.length) = vs.drop (off + k + (l.length + 1)) := by
                  rw [List.drop_set, if_pos (by omega)]
                  congr 1; omega
                rw [e1, e2]
                simp
            have := key y.cells.toList 0 vs (by simp [hy]; omega)
            rw [Nat.add_zero] at this
            rw [← this]
            rw [← Array.foldl_toList, Array.toList_zipIdx]
          have hlt : ¬ (off + y.cells.size > vs.toArray.size) := by simp [hy]; omega
          unfold Instr.fill
          rw [← hpl, hplace]
          simp only []
          rw [if_neg (by simp only [ne_eq, Bool.or_eq_true, decide_eq_true_eq, not_or]; exact ⟨by simp [hy], by simpa using hlt⟩)]
          rw [hfold]
          refine ih qs _ _ _ h (hx.splice off c1) ?_ (by simpa using hl) (fun i p q hp hq' => hq (i + 1) p q (by simpa using hp) (by simpa using hq'))
          intro u hu
          simp only [splice, List.mem_append] at hu
          rcases hu with (hu | hu) | hu
          · exact h1 u (List.mem_of_mem_take hu)
          · exact c2 u hu
          · exact h1 u (List.mem_of_mem_drop hu)
        · cases h
end
end Go.Pm
