/- The windows' tree: all rounds. By the prover of this seat. -/
import Derived.Test.YtcnlgdbmcdlknaaDoorRd
set_option linter.unusedVariables false
set_option linter.unusedSimpArgs false
set_option maxRecDepth 100000
set_option maxHeartbeats 4000000
namespace Go.Proofs.YtcnlgdbmcdlknaaDoor.Tr
open Go.RowKit Go.Pm
def idOf (w : Wn) (k : Nat) : Int := (w.c % 3 + 1) * 1048576 + (k : Int) + 1
def upOf (w : Wn) (ids : List Int) : Int := nth ids (w.u % (ids.length : Int)).toNat
def madeD : List Wn → Nat → List Kid → List Up → List Int → (List Kid × List Up × List Int) × Bool
  | [], _, K, U, ids => ((K, U, ids), true)
  | w :: r, k, K, U, ids => if (addD K U (idOf w k) (upOf w ids)).2.2 = 0 then madeD r (k + 1) (addD K U (idOf w k) (upOf w ids)).1 (addD K U (idOf w k) (upOf w ids)).2.1 (ids ++ [idOf w k]) else ((K, U, ids), false)
/-- what holds between rounds -/
structure MI (k : Nat) (K : List Kid) (U : List Up) (ids : List Int) : Prop where
  tree : TOk K U
  row : ids = 1 :: U.map Up.id
  len : U.length = k
  few : k ≤ 63
  up : ∀ x ∈ U, 1 ≤ x.id ∧ x.up ∈ ids
  own : ∀ x ∈ U, 1 ≤ x.id / 1048576 ∧ x.id / 1048576 ≤ 3 ∧ ¬ x.id % 1048576 = 0
theorem addD_zero {K : List Kid} {U : List Up} {id p : Int} (h : (addD K U id p).2.2 = 0) : addD K U id p = (putM Kid.p K ⟨p, kidsD K p ++ [id]⟩, U ++ [⟨id, p⟩], 0) ∧ U.length + 1 < 64 ∧ hasD U id = false ∧ hasD U p = true := by
  unfold addD at h ⊢
  by_cases c0 : checkD id = 0
  · rw [if_neg (by simp [c0])] at h ⊢
    by_cases c1 : hasD U id = true
    · rw [if_pos c1] at h; simp at h
    · rw [if_neg c1] at h ⊢
      by_cases c2 : hasD U p = false
      · rw [if_pos c2] at h; simp at h
      · rw [if_neg c2] at h ⊢
        by_cases c3 : (U.length : Int) + 1 ≥ 64
        · rw [if_pos c3] at h; simp at h
        · rw [if_neg c3]
          exact ⟨rfl, by omega, by simpa using c1, by simpa using c2⟩
  · rw [if_pos c0] at h
    exact absurd h c0
theorem MI.rng {k : Nat} {K : List Kid} {U : List Up} {ids : List Int} (h : MI k K U ids) : ids.length = k + 1 ∧ ∀ a ∈ ids, 1 ≤ a ∧ a ≤ 4294967295 := by
  refine ⟨by rw [h.row]; simp [h.len], fun a ha => ?_⟩
  rw [h.row] at ha
  rcases List.mem_cons.1 ha with rfl | ha
  · omega
  · obtain ⟨x, hx, rfl⟩ := List.mem_map.1 ha
    exact ⟨(h.up x hx).1, (h.tree.up.2 x hx).2⟩
theorem idOf_rng {w : Wn} {k : Nat} (h0 : 0 ≤ w.c) (hk : k ≤ 63) : 1048577 ≤ idOf w k ∧ idOf w k ≤ 4294967295 := by
  unfold idOf
  omega
theorem upOf_mem {w : Wn} {ids : List Int} (h : 1 ≤ ids.length) : upOf w ids ∈ ids := by
  unfold upOf
  have h1 := Int.emod_nonneg w.u (b := (ids.length : Int)) (by omega)
  have h2 := Int.emod_lt_of_pos w.u (b := (ids.length : Int)) (by omega)
  exact nth_mem (by omega)
theorem MI.next {k : Nat} {K : List Kid} {U : List Up} {ids : List Int} (h : MI k K U ids) {w : Wn} (c0 : 0 ≤ w.c) (hz : (addD K U (idOf w k) (upOf w ids)).2.2 = 0) : MI (k + 1) (addD K U (idOf w k) (upOf w ids)).1 (addD K U (idOf w k) (upOf w ids)).2.1 (ids ++ [idOf w k]) := by
  have hi := idOf_rng (w := w) c0 h.few
  have hm := upOf_mem (w := w) (ids := ids) (by rw [h.rng.1]; omega)
  have hu := h.rng.2 _ hm
  have ht := add_keeps h.tree (id := idOf w k) (p := upOf w ids) (by omega) (by omega) (by omega) (by omega)
  obtain ⟨e, hlt, -, -⟩ := addD_zero hz
  have hl := h.len
  refine ⟨ht, ?_, ?_, by omega, ?_, ?_⟩
  · rw [e]; simp [h.row]
  · rw [e]; simp [h.len]
  · rw [e]
    intro x hx
    rcases List.mem_append.1 hx with hx | hx
    · exact ⟨(h.up x hx).1, List.mem_append_left _ (h.up x hx).2⟩
    · rw [List.mem_singleton] at hx
      subst hx
      exact ⟨by show 1 ≤ idOf w k; omega, List.mem_append_left _ hm⟩
  · rw [e]
    intro x hx
    rcases List.mem_append.1 hx with hx | hx
    · exact h.own x hx
    · rw [List.mem_singleton] at hx
      subst hx
      have := h.few
      show 1 ≤ idOf w k / 1048576 ∧ idOf w k / 1048576 ≤ 3 ∧ ¬ idOf w k % 1048576 = 0
      unfold idOf
      omega
end Go.Proofs.YtcnlgdbmcdlknaaDoor.Tr
