/- Numbers sorted, each once. By the prover of this seat. -/
import Derived.Test.YtcnlgdbmcdlknaaSc
set_option linter.unusedVariables false
set_option linter.unusedSimpArgs false
set_option maxRecDepth 100000
namespace Go.Proofs.Ytcnlgdbmcdlknaa.Bn
open Go Go.RowKit Go.Pm
open Go.Sort (putRow grow Holds HoldsK flatK SWO PermIn SortedIn)
open Go.Shelf Go.Lib
theorem comp_ok (d : Array Int) (hs : ∀ i j : Nat, i ≤ j → j < d.size → d[i]! ≤ d[j]!) : ∀ m, m ≤ d.size → (compactUpTo d m).Pairwise (· < ·) ∧ ∀ x, x ∈ compactUpTo d m ↔ ∃ j, j < m ∧ d[j]! = x := by
  intro m
  induction m with
  | zero =>
    intro _
    exact ⟨by simp [compactUpTo], fun x => by simp [compactUpTo]⟩
  | succ m ih =>
    intro hm
    obtain ⟨i1, i2⟩ := ih (by omega)
    rw [compactUpTo_succ]
    cases hk : keeps d m with
    | true =>
      rw [if_pos rfl]
      refine ⟨List.pairwise_append.2 ⟨i1, List.pairwise_singleton .., fun a ha b hb => ?_⟩, fun x => ?_⟩
      · rw [List.mem_singleton] at hb
        subst hb
        obtain ⟨j, hj, rfl⟩ := (i2 a).1 ha
        unfold keeps at hk
        rw [decide_eq_true_iff] at hk
        rcases hk with hk | hk
        · omega
        · have h1 := hs j (m - 1) (by omega) (by omega)
          have h2 := hs (m - 1) m (by omega) (by omega)
          omega
      · rw [List.mem_append, List.mem_singleton, i2]
        constructor
        · rintro (⟨j, hj, h⟩ | h)
          · exact ⟨j, by omega, h⟩
          · exact ⟨m, by omega, h.symm⟩
        · rintro ⟨j, hj, h⟩
          by_cases e : j = m
          · subst e; exact .inr h.symm
          · exact .inl ⟨j, by omega, h⟩
    | false =>
      rw [if_neg (by simp), List.append_nil]
      refine ⟨i1, fun x => ?_⟩
      rw [i2]
      unfold keeps at hk
      rw [decide_eq_false_iff_not] at hk
      constructor
      · rintro ⟨j, hj, h⟩; exact ⟨j, by omega, h⟩
      · rintro ⟨j, hj, h⟩
        by_cases e : j = m
        · subst e
          refine ⟨j - 1, ?_, ?_⟩
          · rcases Nat.eq_zero_or_pos j with h0 | h0
            · exact absurd (Or.inl h0) hk
            · omega
          · have : d[j]! = d[j - 1]! := Classical.byContradiction fun q => hk (.inr q)
            rw [← this]; exact h
        · exact ⟨j, by omega, h⟩
def msI (zs : List Int) : List Int := zs.mergeSort fun x y => decide (x ≤ y)
/-- each number once, rising -/
def sortU (zs : List Int) : List Int := Lib.compact (msI zs)
theorem ms_perm (zs : List Int) : (msI zs).Perm zs := List.mergeSort_perm _ _
theorem ms_sorted (zs : List Int) : (msI zs).Pairwise (fun a b => a ≤ b) := by
  have := List.pairwise_mergeSort (le := fun x y : Int => decide (x ≤ y)) (fun a b c h1 h2 => by simp at *; omega) (fun a b => by simp; omega) zs
  exact this.imp fun h => by simpa using h
theorem sortU_ok (zs : List Int) : (sortU zs).Pairwise (· < ·) ∧ ∀ x, x ∈ sortU zs ↔ x ∈ zs := by
  have hs := ms_sorted zs
  have h := comp_ok (msI zs).toArray (fun i j hij hj => by
    have hj' : j < (msI zs).length := by simpa using hj
    rw [getElem!_pos _ i (by simp; omega), getElem!_pos _ j hj]
    by_cases e : i = j
    · subst e; exact Int.le_refl _
    · have := List.pairwise_iff_getElem.1 hs i j (by omega) hj' (by omega)
      simpa using this) (msI zs).length (by simp)
  refine ⟨h.1, fun x => ?_⟩
  show x ∈ compactUpTo (msI zs).toArray (msI zs).length ↔ _
  rw [h.2, ← (ms_perm zs).mem_iff]
  constructor
  · rintro ⟨j, hj, e⟩
    rw [getElem!_pos _ j (by simpa using hj)] at e
    subst e
    simp
  · intro hx
    obtain ⟨j, hj, e⟩ := List.mem_iff_getElem.1 hx
    exact ⟨j, hj, by rw [getElem!_pos _ j (by simpa using hj)]; simpa using e⟩
theorem comp_len (zs : List Int) : (Lib.compact zs).length ≤ zs.length := by
  unfold Lib.compact compactUpTo
  rw [List.length_map]
  have := List.length_filter_le (keeps zs.toArray) (List.range zs.length)
  simpa using this
theorem sortU_len (zs : List Int) : (sortU zs).length ≤ zs.length := by
  have h1 := comp_len (msI zs)
  have h2 := (ms_perm zs).length_eq
  unfold sortU
  omega
theorem put_enc {α : Type} [Inhabited α] (enc : α → Value) (w : World) (b o : Nat) (d : Array α) : putRow enc w b o d = putRow id w b o (d.map enc) := by
  unfold Go.Sort.putRow
  congr 1
  funext c
  unfold Go.Sort.putCells
  apply Array.ext
  · simp
  · intro i h1 h2
    simp only [Array.getElem_mapIdx, Array.size_map]
    by_cases q : o ≤ i ∧ i < o + d.size
    · rw [if_pos q, if_pos q, getElem!_pos d (i - o) (by omega), getElem!_pos (d.map enc) (i - o) (by simp; omega)]
      simp
    · rw [if_neg q, if_neg q]
def encN (n : Int) : Value := .int .i64 n
theorem eI_V (l : List Int) : (l.map encN).map AV.s = l.flatMap eI := by
  rw [List.map_map]
  induction l with
  | nil => rfl
  | cons a l ih => rw [List.map_cons, List.flatMap_cons, ih]; rfl
theorem one_N (l : List Int) : ∀ v ∈ (l.map encN), v.oneCell' = true := by
  intro v hv
  obtain ⟨r, -, rfl⟩ := List.mem_map.1 hv
  rfl
theorem holds_int {w0 W : World} {ρ : Nm} {M : Mem} {b : Nat} {s : Sz} {L : Nat} (zs : List Int) (hw : WR w0 ρ M [.arr L (zs.flatMap eI) 0] W) (hid : ρ 0 = some (b, s)) : Holds (Value.int .i64) W b (0 + s.base) zs.toArray ∧ b < W.heap.size := by
  obtain ⟨h1, h2⟩ := holds_row (zs.map encN).toArray (L := L) (fz := 0) (by rw [List.toList_toArray, eI_V]; exact hw) hid
  refine ⟨fun j hj => ?_, h2⟩
  have hj' : j < zs.length := by simpa using hj
  obtain ⟨a, c⟩ := h1 j (by simpa using hj)
  refine ⟨?_, c⟩
  rw [a, getElem!_pos _ j (by simpa using hj'), getElem!_pos _ j hj]
  simp [encN]
theorem wr_ints {w0 W : World} {ρ : Nm} {M : Mem} {L b : Nat} {s : Sz} {cs : List AV} (hw : WR w0 ρ M [.arr L cs 0] W) (hid : ρ 0 = some (b, s)) (zs : List Int) (hl : zs.length = L) (n : Nat) (os : Array Obj) : WR w0 ρ M [.arr L (zs.flatMap eI) 0] (grow (putRow (Value.int .i64) (Go.Sort.ahead W n) b (0 + s.base) zs.toArray) os) := by
  have hL : L = cs.length := (hw.blk 0 b s _ hid rfl).1
  have hlen : (zs.flatMap eI).length = zs.length * 1 := row_len (sz := 1) (fun _ => rfl) zs
  have := wr_sorted hw hid 0 (zs.map encN).toArray (xs := zs.flatMap eI) (by rw [← eI_V, List.toList_toArray]; exact l2_s _) (by rw [List.toList_toArray]; exact one_N _) (by rw [hlen]; omega) (Nat.le_refl _) n os
  rw [splice_full _ _ (by rw [hlen]; omega)] at this
  rw [put_enc]
  have e : (zs.map encN).toArray = zs.toArray.map (Value.int .i64) := by simp [encN]
  rw [← e]
  exact this
theorem sortI_ok (zs : List Int) (hl : zs.length ≤ 1000000) : CallH Try.prog G0 46 [.osl 0 0 zs.length 1] [.arr (zs.length * 1) (zs.flatMap eI) 0] (.tup []) [.arr (zs.length * 1) ((msI zs).flatMap eI) 0] := by
  refine ⟨by kernel_rfl, fun w0 ρ M W vals hw hg ha => ?_⟩
  obtain ⟨v, us, rfl, q1, q2⟩ := ha.inv_cons
  obtain rfl : us = [] := by have := q2.len; cases us <;> simp at this; rfl
  have hlm := (ms_perm zs).length_eq
  have none : ∀ p cap, v = .slice p 0 cap → zs.length = 0 → Calls Try.prog 46 #[v] W fun e W' => ∃ v ρ' M', e = .returned v ∧ M.le M' ∧ ρ.le ρ' ∧ WR w0 ρ' M' [.arr (zs.length * 1) ((msI zs).flatMap eI) 0] W' ∧ VR M' ρ' (.tup []) v ∧ Fresh M M' w0.heap.size := by
    intro p cap e h0
    obtain rfl := List.eq_nil_of_length_eq_zero h0
    have hs : msI [] = [] := List.eq_nil_of_length_eq_zero (by simpa using hlm)
    rw [hs]
    subst e
    refine (Try.slices_Sort_int_none p cap W).mono ?_
    rintro e w' ⟨rfl, rfl⟩
    exact ⟨_, ρ, M, rfl, Mem.le.refl _, Nm.le.refl _, hw, .mkTup (vs := []) L2.nil, Fresh.refl _ _⟩
  generalize hn : zs.length = n at q1
  cases q1 with
  | osl_e =>
    have hh := none _ _ rfl hn
    rw [hn] at hh
    exact hh
  | osl h1 h2 h3 =>
    rename_i b s cap
    subst hn
    by_cases h0 : zs.length = 0
    · exact none (some ⟨b, 0 + s.base, Option.none⟩) cap (by rw [h0]) h0
    · obtain ⟨hH, hblk⟩ := holds_int zs hw h1
      refine (Try.slices_Sort_int b (0 + s.base) cap zs W hH hblk (by omega)).mono ?_
      rintro e w' ⟨rfl, m, os, rfl⟩
      exact ⟨_, ρ, M, rfl, Mem.le.refl _, Nm.le.refl _, wr_ints hw h1 (msI zs) (by omega) m os, .mkTup (vs := []) L2.nil, Fresh.refl _ _⟩
theorem compI_ok (zs : List Int) (hl : zs.length ≤ 1000000) : CallH Try.prog G0 47 [.osl 0 0 zs.length 1] [.arr (zs.length * 1) (zs.flatMap eI) 0] (.osl 0 0 (Lib.compact zs).length 1) [.arr ((Lib.compact zs).length * 1) ((Lib.compact zs).flatMap eI) 0] := by
  have hcl := comp_len zs
  have key : CallH Try.prog G0 47 [.osl 0 0 zs.length 1] [.arr (zs.length * 1) (zs.flatMap eI) 0] (.osl 0 0 (Lib.compact zs).length 1) [.arr (zs.length * 1) ((Lib.compact zs ++ List.replicate (zs.length - (Lib.compact zs).length) 0).flatMap eI) 0] := by
    refine ⟨by kernel_rfl, fun w0 ρ M W vals hw hg ha => ?_⟩
    obtain ⟨v, us, rfl, q1, q2⟩ := ha.inv_cons
    obtain rfl : us = [] := by have := q2.len; cases us <;> simp at this; rfl
    generalize hn : zs.length = n at q1
    cases q1 with
    | osl_e =>
      rename_i a
      obtain rfl := List.eq_nil_of_length_eq_zero hn
      refine (Try.slices_Compact_int_empty a 0 W).mono ?_
      rintro e w' ⟨rfl, rfl⟩
      exact ⟨_, ρ, M, rfl, Mem.le.refl _, Nm.le.refl _, hw, .osl_e, Fresh.refl _ _⟩
    | osl h1 h2 h3 =>
      rename_i b s cap
      subst hn
      obtain ⟨hH, hblk⟩ := holds_int zs hw h1
      refine (Try.slices_Compact_int b (0 + s.base) cap zs W hH (by omega) h2).mono ?_
      rintro e w' ⟨rfl, m, rfl⟩
      have := wr_ints hw h1 (Lib.compact zs ++ List.replicate (zs.length - (Lib.compact zs).length) 0) (by simp; omega) m #[]
      rw [Go.Sort.grow_empty] at this
      exact ⟨_, ρ, M, rfl, Mem.le.refl _, Nm.le.refl _, this, .osl h1 (by omega) h3, Fresh.refl _ _⟩
  refine CallH.trim key ((Lib.compact zs).length * 1) (i := 0) rfl (Nat.zero_le _) (by omega) ?_ rfl
  rw [List.flatMap_append, List.take_left' (row_len (sz := 1) (fun _ => rfl) _)]
end Go.Proofs.Ytcnlgdbmcdlknaa.Bn
