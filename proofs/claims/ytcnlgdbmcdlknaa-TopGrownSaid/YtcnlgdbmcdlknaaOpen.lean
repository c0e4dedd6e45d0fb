/- Arguments opened for the walks: slices of whole numbers. By the prover of this seat. -/
import Derived.Test.YtcnlgdbmcdlknaaSl
import Derived.ProofKit
import Derived.OpenShut
import Derived.ShutString
import Derived.ChangeOld
import Derived.Below
namespace Go.Gz
open Go.RowKit
open Go.ChangeShapes Go.WideShapes Go.ChangeAt
theorem bds_u32 {n : Int} (h : (Lit.int .u32 n).wf = true) : 0 ≤ n ∧ n < 4294967296 := by
  simp [Lit.wf, IntKind.min, IntKind.max, IntKind.signed, IntKind.bits] at h
  omega
theorem bds_u8 {n : Int} (h : (Lit.int .u8 n).wf = true) : 0 ≤ n ∧ n < 256 := by
  simp [Lit.wf, IntKind.min, IntKind.max, IntKind.signed, IntKind.bits] at h
  omega
theorem bds_i64 {n : Int} (h : (Lit.int .i64 n).wf = true) : -9223372036854775808 ≤ n ∧ n ≤ 9223372036854775807 := by
  simp [Lit.wf, IntKind.min, IntKind.max, IntKind.signed, IntKind.bits] at h
  omega
theorem cell_place {w : World} {x : Addr} {v : Value} (h : w.cell? x = some v) : x.spot = none ∧ x.block < w.heap.size := by
  unfold World.cell? at h
  split at h
  · rename_i hb
    refine ⟨?_, (Array.getElem?_eq_some_iff.1 hb).1⟩
    split at h
    · cases h
    · rename_i hs; simpa using hs
  · cases h
/-- a slice of whole numbers that came in -/
theorem sl_ints {k : IntKind} {w : World} {a : Option Addr} {len cap : Nat} {zs : List Int}
    (h : (a = none ∧ len = 0 ∧ cap = 0 ∧ zs = []) ∨ ∃ x, a = some x ∧ len ≤ cap ∧ cap ≤ maxLen ∧ zs.length = cap ∧ (∀ i, i < zs.length → w.cell? (x.add i) = some (.int k (zs.getD i 0))) ∧ ∀ n ∈ zs, (Lit.int k n).wf = true) :
    ∃ xs : List Int, len = xs.length ∧ xs.length ≤ maxLen ∧ (∀ n ∈ xs, (Lit.int k n).wf = true) ∧ Sl w (.slice a len cap) len (xs.map (Value.int k)) := by
  rcases h with ⟨rfl, rfl, rfl, rfl⟩ | ⟨x, rfl, hl, hm, hz, hc, hw⟩
  · exact ⟨[], rfl, by simp, by simp, Sl.nil _⟩
  · refine ⟨zs.take len, by simp; omega, by simp; omega, fun n hn => hw n (List.mem_of_mem_take hn), _, _, rfl, ⟨(fun h => by cases h), hl⟩, ?_⟩
    by_cases h0 : len = 0
    · left; subst h0; simp
    · right
      obtain ⟨b, off, sp⟩ := x
      have h1 := hc 0 (by omega)
      obtain ⟨hs, hb⟩ := cell_place h1
      have hs' : sp = none := by simpa [Addr.add] using hs
      subst hs'
      refine ⟨b, off, rfl, by simpa [Addr.add] using hb, fun i hi => ?_⟩
      have hi' : i < len := by simp at hi; omega
      have h2 := hc i (by omega)
      have e : Addr.add ⟨b, off, none⟩ i = ⟨b, off + i, none⟩ := by unfold Addr.add; split <;> simp_all
      rw [e] at h2
      rw [h2]
      simp [hi', List.getElem?_eq_getElem (show i < zs.length by omega)]
end Go.Gz
