/- Whole. By the prover of this seat. -/
import Derived.Test.YtdcoomeagbjhlaaUg
set_option linter.unusedVariables false
set_option linter.unusedSimpArgs false
set_option maxRecDepth 100000
set_option maxHeartbeats 4000000
namespace Go.Proofs.Ytdcoomeagbjhlaa
open Go.RowKit Go.Pm
theorem nums_of {l : List Int} (h : ∀ n ∈ l, 0 ≤ n ∧ n ≤ 4294967295) : numsD l = true := by
  unfold numsD
  cases hx : idxD badD l with
  | none => rfl
  | some k =>
    obtain ⟨h1, h2, _⟩ := idx_some hx
    have := h _ (nth_mem h1)
    simp only [badD, numD, Bool.not_eq_true', decide_eq_false_iff_not] at h2
    exact absurd this h2
theorem repl_cells (n : Nat) : replZ n [i64 0] = (List.replicate n (0 : Int)).flatMap eI := by
  induction n with
  | zero => rfl
  | succ n ih =>
    show [i64 0] ++ replZ n [i64 0] = _
    rw [ih, List.replicate_succ, List.flatMap_cons]; rfl
def errN (n : Nat) : Int := if n ≤ 65536 then 0 else 4
def gvN (n : Nat) : Give := if n ≤ 65536 then ⟨List.replicate n 0, 16382, 0, true⟩ else ⟨[], 0, 0, false⟩
theorem new_n (n : Nat) : Pu 21 [slI (List.replicate n 0), i64 16382] (.tup [A (giveL (gvN n)), i64 (errN n)]) := by
  unfold gvN errN
  by_cases h : n ≤ 65536
  · rw [if_pos h, if_pos h]
    exact new_good _ _ (by omega) (by rw [List.length_replicate]; omega) (nums_of fun x hx => by rw [List.eq_of_mem_replicate hx]; omega)
  · rw [if_neg h, if_neg h]
    exact new_long _ _ (by omega) (by rw [List.length_replicate]; omega)
def errM (m : Int) : Int := if m < 1 ∨ m > 16382 then 17 else 0
def gvM (m : Int) : Give := if m < 1 ∨ m > 16382 then ⟨[], 0, 0, false⟩ else ⟨[], m, 0, true⟩
theorem new_m (m : Int) : Pu 21 [slI [], i64 m] (.tup [A (giveL (gvM m)), i64 (errM m)]) := by
  unfold gvM errM
  by_cases h : m < 1 ∨ m > 16382
  · rw [if_pos h, if_pos h]; exact new_size _ _ h
  · rw [if_neg h, if_neg h]; exact new_good _ _ h (by simp) rfl
theorem part_le (d : List Int) (m i : Nat) : (partAt d m i).length ≤ m := by unfold partAt; rw [List.length_take]; omega
theorem nums_part {d : List Int} (h : ∀ n ∈ d, 0 ≤ n ∧ n ≤ 4294967295) (m i : Nat) : numsD (partAt d m i) = true := nums_of fun n hn => h n (List.mem_of_mem_drop (List.mem_of_mem_take hn))
theorem kind_all {d : List Int} (h : ∀ n ∈ d, 0 ≤ n ∧ n ≤ 4294967295) {m k : Nat} (m0 : 1 ≤ m) (m1 : m ≤ 16382) (hl : d.length ≤ 65536) (hk : k < (allD d m).length) :
    kindD (nth (allD d m) k) = if d.length ≤ m then 0 else if k = 0 then 1 else if k = cntD d m + 1 then 3 else 2 := by
  have hlen := all_len d m
  have hn := nums_of h
  unfold allD at hk hlen ⊢
  by_cases hs : d.length ≤ m
  · simp only [hs, if_true] at hk hlen ⊢
    obtain rfl : k = 0 := by omega
    show kindD (wholeP d) = 0
    unfold kindD kindT wholeP
    simp only
    rw [if_neg (by omega), if_pos hn, if_pos trivial]
  · simp only [hs, if_false] at hk hlen ⊢
    by_cases h0 : k = 0
    · subst h0
      rw [if_pos rfl]
      show kindD (annP d) = 1
      unfold kindD kindT annP
      simp only [List.length_nil]
      have a1 : 1 ≤ (d.length : Int) := by omega
      have a2 : (d.length : Int) ≤ 65536 := by omega
      simp [a1, a2, numsD_nil]
    · rw [if_neg h0]
      obtain ⟨j, rfl⟩ : ∃ j, k = j + 1 := ⟨k - 1, by omega⟩
      show kindD (nth (List.map (partP d m) (List.range (cntD d m)) ++ [endP]) j) = _
      by_cases hj : j < cntD d m
      · rw [if_neg (by omega)]
        have e : nth (List.map (partP d m) (List.range (cntD d m)) ++ [endP]) j = partP d m j := by
          simp [nth, List.getD_eq_getElem?_getD, List.getElem?_append_left, hj]
        rw [e]
        have h1 := (cnt_lt (d := d) m0 j).1 hj
        have h2 := part_le d m j
        have h3 : 1 ≤ (partAt d m j).length := by unfold partAt; rw [List.length_take, List.length_drop]; omega
        have h4 := nums_part h m j
        unfold kindD kindT partP
        simp only
        rw [if_neg (by omega), if_pos h4, if_neg (by omega), if_pos trivial]
      · have hj' : j = cntD d m := by omega
        subst hj'
        rw [if_pos rfl]
        have e : nth (List.map (partP d m) (List.range (cntD d m)) ++ [endP]) (cntD d m) = endP := by
          simp [nth, List.getD_eq_getElem?_getD]
        rw [e]; rfl
/-- what a take has behind k pieces -/
def takeAt (d : List Int) (m k : Nat) : Take :=
  if k = 0 then ⟨[], 0, 0⟩ else if d.length ≤ m then ⟨d, d.length, 2⟩ else if k = cntD d m + 2 then ⟨d, d.length, 2⟩ else ⟨d.take ((k - 1) * m), d.length, 1⟩
theorem part_snoc (d : List Int) (m j : Nat) : d.take (j * m) ++ partAt d m j = d.take ((j + 1) * m) := by
  unfold partAt
  rw [Nat.add_one_mul, List.take_add]
theorem take_all (d : List Int) (m : Nat) (m0 : 1 ≤ m) : d.take (cntD d m * m) = d := List.take_of_length_le (Nat.le_of_not_lt fun q => Nat.lt_irrefl _ ((cnt_lt (d := d) m0 (cntD d m)).2 q))
theorem got_all {d : List Int} (h : ∀ n ∈ d, 0 ≤ n ∧ n ≤ 4294967295) {m k : Nat} (m0 : 1 ≤ m) (m1 : m ≤ 16382) (hl : d.length ≤ 65536) (hk : k < (allD d m).length) :
    gotK (takeAt d m k) (nth (allD d m) k) (kindD (nth (allD d m) k)) = (takeAt d m (k + 1), 0) := by
  rw [kind_all h m0 m1 hl hk]
  have hlen := all_len d m
  by_cases hs : d.length ≤ m
  · simp only [hs, if_true] at hlen
    obtain rfl : k = 0 := by omega
    have e : nth (allD d m) 0 = wholeP d := by unfold allD; rw [if_pos hs]; rfl
    rw [e]
    simp [gotK, takeAt, hs, wholeP]
  · simp only [hs, if_false] at hlen
    have hc := cnt_pos m0 hs
    by_cases h0 : k = 0
    · subst h0
      have e : nth (allD d m) 0 = annP d := by unfold allD; rw [if_neg hs]; rfl
      rw [e]
      have : ¬ (0 + 1 : Nat) = cntD d m + 2 := by omega
      simp [gotK, takeAt, hs, annP]
    · obtain ⟨j, rfl⟩ : ∃ j, k = j + 1 := ⟨k - 1, by omega⟩
      have en : nth (allD d m) (j + 1) = nth (List.map (partP d m) (List.range (cntD d m)) ++ [endP]) j := by unfold allD; rw [if_neg hs]; rfl
      by_cases hj : j < cntD d m
      · have e : nth (List.map (partP d m) (List.range (cntD d m)) ++ [endP]) j = partP d m j := by
          simp [nth, List.getD_eq_getElem?_getD, List.getElem?_append_left, hj]
        rw [en, e]
        have n1 : ¬ j + 1 = cntD d m + 1 := by omega
        have n2 : ¬ j + 1 = cntD d m + 2 := by omega
        have n3 : ¬ j + 1 + 1 = cntD d m + 2 := by omega
        have n4 : ¬ j + 1 = 0 := by omega
        have n5 : ¬ j + 1 + 1 = 0 := by omega
        have hle : ((d.take (j * m)).length : Int) + (partAt d m j).length ≤ d.length := by
          have := congrArg List.length (part_snoc d m j)
          rw [List.length_append, List.length_take (l := d) (i := (j + 1) * m)] at this
          omega
        unfold gotK takeAt
        simp only [if_neg hs, if_neg n1, if_neg n2, if_neg n3, if_neg n4, if_neg n5, partP, if_true, if_false]
        simp only [show ¬ ((1 : Int) = 2 ∨ (1 : Int) = 3) by omega, show ((2 : Int) = 2 ∨ (2 : Int) = 3) by omega, show ¬ (2 : Int) = 4 by omega, if_true, if_false, true_or, or_true]
        rw [show j + 1 - 1 = j by omega, show j + 1 + 1 - 1 = j + 1 by omega, if_neg (by omega), part_snoc]
      · have hj' : j = cntD d m := by omega
        subst hj'
        have e : nth (List.map (partP d m) (List.range (cntD d m)) ++ [endP]) (cntD d m) = endP := by
          simp [nth, List.getD_eq_getElem?_getD]
        rw [en, e]
        have n2 : ¬ cntD d m + 1 = cntD d m + 2 := by omega
        have n4 : ¬ cntD d m + 1 = 0 := by omega
        have n5 : ¬ cntD d m + 1 + 1 = 0 := by omega
        unfold gotK takeAt
        simp only [if_neg hs, if_neg n2, if_neg n4, if_neg n5, if_true, if_false]
        simp only [show ¬ ((1 : Int) = 2 ∨ (1 : Int) = 3) by omega, show ((3 : Int) = 2 ∨ (3 : Int) = 3) by omega, show ¬ (3 : Int) = 4 by omega, show ¬ (3 : Int) = 2 by omega, if_true, if_false, true_or, or_true]
        rw [show cntD d m + 1 - 1 = cntD d m by omega, take_all d m m0, if_neg (by omega)]
theorem take_end (d : List Int) (m : Nat) (m0 : 1 ≤ m) : (takeAt d m (allD d m).length).data = d ∧ (takeAt d m (allD d m).length).state = 2 := by
  rw [all_len]
  unfold takeAt
  by_cases hs : d.length ≤ m
  · simp [hs]
  · simp [hs]
theorem take_mid {d : List Int} {m k : Nat} (m0 : 1 ≤ m) (hk : k < (allD d m).length) : ¬ (takeAt d m k).state = 2 := by
  rw [all_len] at hk
  unfold takeAt
  by_cases h0 : k = 0
  · simp [h0]
  · by_cases hs : d.length ≤ m
    · rw [if_pos hs] at hk; omega
    · rw [if_neg hs] at hk
      rw [if_neg h0, if_neg hs, if_neg (by omega)]
      simp
theorem take_len (d : List Int) (m k : Nat) : (takeAt d m k).data.length ≤ d.length := by
  unfold takeAt
  repeat' split
  all_goals simp <;> omega
end Go.Proofs.Ytdcoomeagbjhlaa
