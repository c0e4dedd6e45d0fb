/- Gives, piece by piece. By the prover of this seat. -/
import Derived.Test.YtdcoomeagbjhlaaUf
set_option linter.unusedVariables false
set_option linter.unusedSimpArgs false
set_option maxRecDepth 100000
set_option maxHeartbeats 4000000
namespace Go.Proofs.Ytdcoomeagbjhlaa
open Go.RowKit Go.Pm
def t0 : Take := ⟨[], 0, 0⟩
def stepT (l : List Piece) (q : Int) (i : Nat) (s : Take × Take) : Take × Take :=
  if q = i then ((gotK (refusedD s.1) (nth l i) (kindD (nth l i))).1, (rgotK (rrefD s.2) (nth l i) (kindD (nth l i))).1)
  else ((gotK s.1 (nth l i) (kindD (nth l i))).1, (rgotK s.2 (nth l i) (kindD (nth l i))).1)
def runT (l : List Piece) (q : Int) : Nat → Take × Take
  | 0 => (t0, t0)
  | i + 1 => stepT l q i (runT l q i)
theorem run_inv (l : List Piece) (q : Int) : ∀ n, (∀ i, i < n → (nth l i).data.length ≤ 200) → Sim (runT l q n).1 (runT l q n).2 ∧ (runT l q n).1.data.length ≤ 200 * n := by
  intro n
  induction n with
  | zero => intro _; exact ⟨⟨rfl, rfl, fun _ => rfl, by simp [runT, t0]⟩, by simp [runT, t0]⟩
  | succ n ih =>
    intro h
    obtain ⟨h1, h2⟩ := ih fun i hi => h i (by omega)
    have h3 := h n (by omega)
    have hk := kind_range (nth l n)
    unfold runT stepT
    split
    · refine ⟨(sim_got (sim_ref h1) _ _ hk).2, ?_⟩
      have := got_len (refusedD (runT l q n).1) (nth l n) (kindD (nth l n))
      have := ref_len (runT l q n).1
      simp only
      omega
    · refine ⟨(sim_got h1 _ _ hk).2, ?_⟩
      have := got_len (runT l q n).1 (nth l n) (kindD (nth l n))
      simp only
      omega
def gvAt (d : List Int) (m k : Nat) : Give := ⟨d, m, k, true⟩
theorem gv_at {d : List Int} {m k : Nat} (m0 : 1 ≤ m) (m1 : m ≤ 16382) (hk : k ≤ 1000000) (hl : d.length ≤ 65536) : Gv (gvAt d m k) := ⟨by simp only [gvAt]; omega, by simp only [gvAt]; omega, by simp only [gvAt]; omega, by simp only [gvAt]; omega, hl⟩
theorem parts_at {d : List Int} {m k : Nat} (m0 : 1 ≤ m) : partsD (gvAt d m k) = if d.length ≤ m then 0 else (cntD d m : Int) := by
  unfold partsD gvAt cntD
  simp only
  by_cases h : d.length ≤ m
  · rw [if_pos (by omega), if_pos h]
  · rw [if_neg (by omega), if_neg h, Int.natCast_ediv]
    congr 1
    omega
theorem cnt_pos {d : List Int} {m : Nat} (m0 : 1 ≤ m) (h : ¬ d.length ≤ m) : 1 ≤ cntD d m := (cnt_lt (d := d) m0 0).2 (by omega)
theorem all_len (d : List Int) (m : Nat) : (allD d m).length = if d.length ≤ m then 1 else cntD d m + 2 := by
  unfold allD
  split <;> simp
theorem done_at {d : List Int} {m k : Nat} (m0 : 1 ≤ m) : doneD (gvAt d m k) = decide ((allD d m).length ≤ k) := by
  have hc : ¬ d.length ≤ m → 1 ≤ cntD d m := cnt_pos m0
  unfold doneD
  rw [parts_at m0, all_len]
  simp only [gvAt, if_true]
  by_cases h : d.length ≤ m
  · simp only [h, if_true]
    rw [if_neg (by omega)]
    exact decide_eq_decide.2 (by omega)
  · have := hc h
    simp only [h, if_false]
    rw [if_pos (by omega)]
    exact decide_eq_decide.2 (by omega)
theorem put_at {d : List Int} {m k : Nat} (m0 : 1 ≤ m) (hk : k < (allD d m).length) : putD (gvAt d m k) = (nth (allD d m) k, true) := by
  unfold putD
  rw [done_at m0, if_neg (by simp; omega), parts_at m0]
  have hl := all_len d m
  have hc : ¬ d.length ≤ m → 1 ≤ cntD d m := cnt_pos m0
  unfold allD at hk hl ⊢
  by_cases h : d.length ≤ m
  · simp only [h, if_true] at hk hl ⊢
    obtain rfl : k = 0 := by simp at hk; omega
    rfl
  · have hc := hc h
    simp only [h, if_false] at hk hl ⊢
    have hz : ¬ (cntD d m : Int) = 0 := by omega
    rw [if_neg hz]
    by_cases h0 : k = 0
    · subst h0; rw [if_pos (show (gvAt d m 0).at_ = 0 from rfl)]; rfl
    · rw [if_neg (show ¬ (gvAt d m k).at_ = 0 by show ¬ (k : Int) = 0; omega)]
      obtain ⟨j, rfl⟩ : ∃ j, k = j + 1 := ⟨k - 1, by omega⟩
      have en : nth (annP d :: List.map (partP d m) (List.range (cntD d m)) ++ [endP]) (j + 1) = nth (List.map (partP d m) (List.range (cntD d m)) ++ [endP]) j := rfl
      rw [en]
      by_cases hj : j < cntD d m
      · rw [if_pos (show (gvAt d m (j + 1)).at_ ≤ cntD d m by show ((j + 1 : Nat) : Int) ≤ cntD d m; omega)]
        have : nth (List.map (partP d m) (List.range (cntD d m)) ++ [endP]) j = partP d m j := by
          simp [nth, List.getD_eq_getElem?_getD, List.getElem?_append_left, hj]
        rw [this]
        show (_, true) = (_, true)
        congr 1
        show (⟨true, 0, partAt d ((m : Int)).toNat ((((j + 1 : Nat) : Int)) - 1).toNat, false⟩ : Piece) = ⟨true, 0, partAt d m j, false⟩
        rw [Int.toNat_natCast, show ((((j + 1 : Nat) : Int)) - 1).toNat = j by omega]
      · rw [if_neg (show ¬ (gvAt d m (j + 1)).at_ ≤ cntD d m by show ¬ ((j + 1 : Nat) : Int) ≤ cntD d m; omega)]
        have hj' : j = cntD d m := by
          simp only [List.length_append, List.length_cons, List.length_map, List.length_range, List.length_nil] at hk
          omega
        subst hj'
        have : nth (List.map (partP d m) (List.range (cntD d m)) ++ [endP]) (cntD d m) = endP := by
          simp [nth, List.getD_eq_getElem?_getD]
        rw [this]; rfl
theorem put_end {d : List Int} {m : Nat} (m0 : 1 ≤ m) : putD (gvAt d m (allD d m).length) = (p0, false) := by
  unfold putD
  rw [done_at m0, if_pos (by simp)]
theorem gone_at {d : List Int} {m k : Nat} (m0 : 1 ≤ m) (hk : k < (allD d m).length) : goneD (gvAt d m k) = gvAt d m (k + 1) := by
  unfold goneD
  rw [done_at m0, if_neg (by simp; omega)]
  simp [gvAt]
theorem gone_end {d : List Int} {m : Nat} (m0 : 1 ≤ m) : goneD (gvAt d m (allD d m).length) = gvAt d m (allD d m).length := by
  unfold goneD
  rw [done_at m0, if_pos (by simp)]
theorem all_le {d : List Int} {m : Nat} (m0 : 1 ≤ m) : (allD d m).length ≤ d.length + 2 := by
  rw [all_len]
  split
  · omega
  · have : cntD d m ≤ d.length := Nat.le_of_not_lt fun q => by
      have := (cnt_lt (d := d) m0 d.length).1 q
      have h2 : d.length * 1 ≤ d.length * m := Nat.mul_le_mul_left _ m0
      omega
    omega
theorem nth_mem {α : Type} [Inhabited α] {l : List α} {k : Nat} (h : k < l.length) : nth l k ∈ l := by rw [nth_eq h]; exact List.getElem_mem h
theorem all_data {d : List Int} {m k : Nat} (hk : k < (allD d m).length) : (nth (allD d m) k).data.length ≤ d.length := by
  have := nth_mem hk
  unfold allD at this ⊢
  split at this
  · rename_i h
    rw [if_pos h]
    rw [List.mem_singleton] at this
    rw [this]; simp [wholeP]
  · rename_i h
    rw [if_neg h]
    rcases List.mem_append.1 this with h1 | h1
    · rcases List.mem_cons.1 h1 with h1 | h1
      · rw [h1]; simp [annP]
      · obtain ⟨j, _, h2⟩ := List.mem_map.1 h1
        rw [← h2]
        simp only [partP, partAt, List.length_take, List.length_drop]
        omega
    · rw [List.mem_singleton] at h1
      rw [h1]; simp [endP]
def gvSt (want : List Piece) (g : Give) (k : Nat) : St := ⟨mkT 90 [(5, .ptr 0 0), (7, slP want), (9, i64 k)], [.arr 4 (giveL g) 0]⟩
end Go.Proofs.Ytdcoomeagbjhlaa
