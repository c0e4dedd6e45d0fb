/- Slices that are only read, as lists of cells. By the prover of this seat. -/
import Derived.Test.YtnkiljopbilknaaMap
namespace Go.Gz
open Go.RowKit
/-- v is a slice of n elements whose cells, one element behind the other, are cs -/
def Sl (w : World) (v : Value) (n : Nat) (cs : List Value) : Prop :=
  ∃ a cap, v = .slice a n cap ∧ (cs = [] ∨ ∃ b off, a = some ⟨b, off, none⟩ ∧ b < w.heap.size ∧ ∀ i, i < cs.length → w.cell? ⟨b, off + i, none⟩ = cs[i]?)
theorem Sl.nil (w : World) (a : Option Addr) (cap : Nat) : Sl w (.slice a 0 cap) 0 [] := ⟨a, cap, rfl, .inl rfl⟩
theorem Sl.below {w w' : World} {v : Value} {n : Nat} {cs : List Value} (h : Sl w v n cs) (hb : Below w.heap.size w w') : Sl w' v n cs := by
  obtain ⟨a, cap, hv, h⟩ := h
  refine ⟨a, cap, hv, h.imp id ?_⟩
  rintro ⟨b, off, ha, hlt, hc⟩
  refine ⟨b, off, ha, Nat.lt_of_lt_of_le hlt hb.size, fun i hi => ?_⟩
  rw [hb.cell (p := ⟨b, off + i, none⟩) hlt]
  exact hc i hi
theorem Sl.at {w : World} {n cap : Nat} {a : Option Addr} {cs : List Value} (h : Sl w (.slice a n cap) n cs) (hne : 0 < cs.length) :
    ∃ b off, a = some ⟨b, off, none⟩ ∧ b < w.heap.size ∧ ∀ i, i < cs.length → w.cell? ⟨b, off + i, none⟩ = cs[i]? := by
  obtain ⟨a', cap', hv, h⟩ := h
  cases hv
  rcases h with rfl | h
  · simp at hne
  · exact h
/-- a block that was just made -/
theorem Sl.made (w : World) (cs : List Value) (n cap : Nat) (T : TypeId) : Sl (w.alloc (.cells cs.toArray T)) (.slice (some ⟨w.heap.size, 0, none⟩) n cap) n cs := by
  refine ⟨_, cap, rfl, .inr ⟨_, _, rfl, by simp, fun i hi => ?_⟩⟩
  rw [World.cell?_alloc_at _ _ _ _ rfl]
  simp
end Go.Gz
