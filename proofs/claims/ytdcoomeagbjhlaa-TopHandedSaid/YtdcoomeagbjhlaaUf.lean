/- Rows and pieces, there and back. By the prover of this seat. -/
import Derived.Test.YtdcoomeagbjhlaaUe
set_option linter.unusedVariables false
set_option linter.unusedSimpArgs false
set_option maxRecDepth 100000
set_option maxHeartbeats 4000000
namespace Go.Proofs.Ytdcoomeagbjhlaa
open Go.RowKit Go.Pm
theorem piece_eta (p : Piece) : (⟨p.incr, p.total, p.data, p.last⟩ : Piece) = p := rfl
/-- what was written is read -/
theorem read_code (p : Piece) (h : ¬ kindD p = 4) : readD (codeD p) = (p, 0) := by
  have hr := kind_range p
  unfold codeD readD
  rw [if_neg h]
  have e0 : nth (kindD p :: p.total :: p.data) 0 = kindD p := rfl
  have e1 : nth (kindD p :: p.total :: p.data) 1 = p.total := rfl
  have e2 : (kindD p :: p.total :: p.data).drop 2 = p.data := rfl
  rw [e0, e1, e2, if_neg (by simp), if_neg (by omega)]
  have ep : (⟨decide (¬ kindD p = 0), p.total, p.data, decide (kindD p = 0 ∨ kindD p = 3)⟩ : Piece) = p := by
    obtain ⟨a, t, d, b⟩ := p
    unfold kindD kindT at h ⊢
    simp only at h ⊢
    cases a <;> cases b <;> simp only at h ⊢ <;> (repeat' split) <;> simp_all
  rw [ep, if_pos rfl]
structure Sim (a b : Take) : Prop where
  d : a.data = b.data
  s : a.state = b.state
  t : a.state = 1 → a.total = b.total
  r : 0 ≤ a.state ∧ a.state ≤ 3
theorem sim_got {a b : Take} (h : Sim a b) (p : Piece) (n : Int) (hn : n = 4 ∨ (0 ≤ n ∧ n ≤ 3)) : (gotK a p n).2 = (rgotK b p n).2 ∧ Sim (gotK a p n).1 (rgotK b p n).1 := by
  obtain ⟨d, t, s⟩ := a
  obtain ⟨d', t', s'⟩ := b
  obtain ⟨h1, h2, h3, h4⟩ := h
  simp only at h1 h2 h3 h4
  subst h1 h2
  unfold gotK rgotK
  simp only
  by_cases n4 : n = 4
  · rw [if_pos n4, if_pos n4]; exact ⟨rfl, rfl, rfl, h3, h4⟩
  · rw [if_neg n4, if_neg n4]
    by_cases s2 : s = 2 ∨ s = 3
    · have hs1 : s > 1 := by omega
      rw [if_pos s2, if_pos hs1]; exact ⟨rfl, rfl, rfl, h3, h4⟩
    · have hs1 : ¬ s > 1 := by omega
      rw [if_neg s2, if_neg hs1]
      by_cases n23 : n = 2 ∨ n = 3
      · have hn1 : n > 1 := by omega
        rw [if_pos n23, if_pos hn1]
        by_cases s1 : s = 1
        · rw [if_pos s1, if_pos s1, h3 s1]
          by_cases n2 : n = 2
          · rw [if_pos n2, if_pos n2]
            split
            · exact ⟨rfl, rfl, rfl, fun _ => rfl, h4⟩
            · exact ⟨rfl, rfl, s1, fun _ => rfl, h4⟩
          · rw [if_neg n2, if_neg n2]
            split
            · exact ⟨rfl, rfl, rfl, fun _ => rfl, h4⟩
            · exact ⟨rfl, rfl, rfl, fun q => absurd q (by simp), by simp⟩
        · rw [if_neg s1, if_neg s1]; exact ⟨rfl, rfl, rfl, h3, h4⟩
      · have hn1 : ¬ n > 1 := by omega
        rw [if_neg n23, if_neg hn1]
        by_cases s1 : s = 1
        · rw [if_pos s1, if_pos s1]; exact ⟨rfl, rfl, rfl, h3, h4⟩
        · rw [if_neg s1, if_neg s1]
          by_cases n0 : n = 0
          · rw [if_pos n0, if_pos n0]; exact ⟨rfl, rfl, rfl, fun q => absurd q (by simp), by simp⟩
          · rw [if_neg n0, if_neg n0]; exact ⟨rfl, rfl, rfl, fun _ => rfl, by simp⟩
theorem got_len (a : Take) (p : Piece) (n : Int) : (gotK a p n).1.data.length ≤ a.data.length + p.data.length := by
  unfold gotK
  repeat' split
  all_goals simp <;> omega
def rrefD (k : Take) : Take := if k.state = 2 then k else ⟨[], 0, 3⟩
theorem sim_ref {a b : Take} (h : Sim a b) : Sim (refusedD a) (rrefD b) := by
  unfold refusedD rrefD
  rw [h.s]
  split
  · exact h
  · exact ⟨rfl, rfl, fun _ => rfl, by simp⟩
theorem ref_len (a : Take) : (refusedD a).data.length ≤ a.data.length := by
  unfold refusedD
  split <;> simp
def tkSt (l : List Piece) (q : Int) (a b : Take) (i : Nat) : St := ⟨mkT 85 [(0, slP l), (1, u8 q), (5, .ptr 0 0), (6, .ptr 1 0), (7, i64 i)], [.arr 3 (takeL a) 0, .arr 3 (rtakeL b) 0]⟩
def tkHit : St := ⟨mkT 85 [(4, bl true)], []⟩
end Go.Proofs.Ytdcoomeagbjhlaa
