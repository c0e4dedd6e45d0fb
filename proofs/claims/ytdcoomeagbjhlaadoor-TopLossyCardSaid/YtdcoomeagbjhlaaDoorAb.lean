/- What a span holds, how wide it is, upon plain values. By the prover of this seat. -/
import Derived.Test.YtdcoomeagbjhlaaDoorAa
set_option linter.unusedVariables false
set_option linter.unusedSimpArgs false
set_option maxRecDepth 100000
set_option maxHeartbeats 4000000
namespace Go.Proofs.YtdcoomeagbjhlaaDoor.Or
open Go.RowKit Go.Pm
def hasD (s : Span) (v : Int) : Bool := decide (s.low ≤ v) && decide (v ≤ s.high)
theorem has_ok (s : Span) (v : Int) : Pu 31 [A (spL s), i64 v] (bl (hasD s v)) := by
  by_cases h1 : s.low ≤ v
  · by_cases h2 : v ≤ s.high
    · have e : hasD s v = true := by simp [hasD, h1, h2]
      rw [e]
      exact pure_of (hs := hint [((1,3), {val := some (bl true)}), ((1,8), {val := some (bl true)})]) (ps := [bl (decide (s.low ≤ v)) = bl true, bl (decide (v ≤ s.high)) = bl true]) (by kernel_rfl) ⟨by rw [decide_t h1], by rw [decide_t h2], trivial⟩
    · have e : hasD s v = false := by simp [hasD, h1, h2]
      rw [e]
      exact pure_of (hs := hint [((1,3), {val := some (bl true)}), ((1,8), {val := some (bl false)})]) (ps := [bl (decide (s.low ≤ v)) = bl true, bl (decide (v ≤ s.high)) = bl false]) (by kernel_rfl) ⟨by rw [decide_t h1], by rw [decide_eq_false h2], trivial⟩
  · have e : hasD s v = false := by simp [hasD, h1]
    rw [e]
    exact pure_of (hs := hint [((1,3), {val := some (bl false)})]) (ps := [bl (decide (s.low ≤ v)) = bl false]) (by kernel_rfl) ⟨by rw [decide_eq_false h1], trivial⟩
theorem width1 (l h : Int) : Pu 38 [A (spL ⟨1, l, h⟩)] (i64 1) := pure_of (hs := hint []) (ps := []) (by kernel_rfl) trivial
theorem width2 (l h : Int) : Pu 38 [A (spL ⟨2, l, h⟩)] (i64 2) := pure_of (hs := hint []) (ps := []) (by kernel_rfl) trivial
theorem width4 (l h : Int) : Pu 38 [A (spL ⟨4, l, h⟩)] (i64 4) := pure_of (hs := hint []) (ps := []) (by kernel_rfl) trivial
theorem widthn1 (l h : Int) : Pu 38 [A (spL ⟨-1, l, h⟩)] (i64 1) := pure_of (hs := hint []) (ps := []) (by kernel_rfl) trivial
theorem widthn2 (l h : Int) : Pu 38 [A (spL ⟨-2, l, h⟩)] (i64 2) := pure_of (hs := hint []) (ps := []) (by kernel_rfl) trivial
theorem widthn4 (l h : Int) : Pu 38 [A (spL ⟨-4, l, h⟩)] (i64 4) := pure_of (hs := hint []) (ps := []) (by kernel_rfl) trivial
/-- a span's width -/
def Span.wide (s : Span) (w : Nat) : Prop := s.size = (w : Int) ∨ s.size = -(w : Int)
theorem width_ok (s : Span) (w : Nat) (hw : w = 1 ∨ w = 2 ∨ w = 4) (h : s.wide w) : Pu 38 [A (spL s)] (i64 w) := by
  obtain ⟨z, l, hh⟩ := s
  rcases hw with rfl | rfl | rfl <;> rcases h with h | h <;> simp only at h <;> subst h
  · exact width1 l hh
  · exact widthn1 l hh
  · exact width2 l hh
  · exact widthn2 l hh
  · exact width4 l hh
  · exact widthn4 l hh
/-! the bytes of a number -/
noncomputable def adBody : Code := loopOf Tryd.prog 32 4
def byteV (v : Int) (j : Nat) : AV := .s (.int .u8 (IntKind.u8.wrap ((IntKind.u64.wrap v).fdiv (2 ^ min (8 * j) 64))))
def adF0 : Fg := { ks := [2, 9, 10, 11], l := [], gh := [(1, 1)] }
def adFg : Fg := { ks := [1, 2, 9, 10, 11], l := [2] }
def adFe : Fg := { ks := [1, 2, 9, 10, 11], l := [0] }
def adSt (o : Int) (v : Int) (w k : Nat) (bs : List AV) : St := ⟨mkT 38 [(1, .osl 0 0 k 1), (2, i64 o), (9, i64 w), (10, .s (.int .u64 (IntKind.u64.wrap v))), (11, i64 k)], [.arr k bs 0]⟩
end Go.Proofs.YtdcoomeagbjhlaaDoor.Or
