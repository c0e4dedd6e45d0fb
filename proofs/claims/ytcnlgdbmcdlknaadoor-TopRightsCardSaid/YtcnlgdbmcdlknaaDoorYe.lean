/- Requests' forms, by their numbers. By the prover of this seat. -/
import Derived.Test.YtcnlgdbmcdlknaaDoorYd
set_option linter.unusedVariables false
set_option linter.unusedSimpArgs false
set_option maxRecDepth 100000
set_option maxHeartbeats 4000000
namespace Go.Proofs.YtcnlgdbmcdlknaaDoor
open Go.RowKit Go.Pm
theorem le58 {n : Nat} (h0 : 1 ≤ n) (h : n ≤ 58) : (n ≤ 29 ∧ (n = 1 ∨ n = 2 ∨ n = 3 ∨ n = 4 ∨ n = 5 ∨ n = 6 ∨ n = 7 ∨ n = 8 ∨ n = 9 ∨ n = 10 ∨ n = 11 ∨ n = 12 ∨ n = 13 ∨ n = 14 ∨ n = 15 ∨ n = 16 ∨ n = 17 ∨ n = 18 ∨ n = 19 ∨ n = 20 ∨ n = 21 ∨ n = 22 ∨ n = 23 ∨ n = 24 ∨ n = 25 ∨ n = 26 ∨ n = 27 ∨ n = 28 ∨ n = 29)) ∨ (30 ≤ n ∧ (n = 30 ∨ n = 31 ∨ n = 32 ∨ n = 33 ∨ n = 34 ∨ n = 35 ∨ n = 36 ∨ n = 37 ∨ n = 38 ∨ n = 39 ∨ n = 40 ∨ n = 41 ∨ n = 42 ∨ n = 43 ∨ n = 44 ∨ n = 45 ∨ n = 46 ∨ n = 47 ∨ n = 48 ∨ n = 49 ∨ n = 50 ∨ n = 51 ∨ n = 52 ∨ n = 53 ∨ n = 54 ∨ n = 55 ∨ n = 56 ∨ n = 57 ∨ n = 58)) := by omega
theorem req_in (n : Nat) (h0 : 1 ≤ n) (h : n ≤ 58) : PS 24 [i64 n] (A (entC n)) := by
  rcases le58 h0 h with ⟨_, h⟩ | ⟨_, h⟩
  · rcases h with rfl | rfl | rfl | rfl | rfl | rfl | rfl | rfl | rfl | rfl | rfl | rfl | rfl | rfl | rfl | rfl | rfl | rfl | rfl | rfl | rfl | rfl | rfl | rfl | rfl | rfl | rfl | rfl | rfl <;> exact pure_of (hs := hint [((4,0), {call := some ((A earlyC))})]) (ps := [_]) (by kernel_rfl) ⟨(early_ok), trivial⟩
  · rcases h with rfl | rfl | rfl | rfl | rfl | rfl | rfl | rfl | rfl | rfl | rfl | rfl | rfl | rfl | rfl | rfl | rfl | rfl | rfl | rfl | rfl | rfl | rfl | rfl | rfl | rfl | rfl | rfl | rfl <;> exact pure_of (hs := hint [((5,0), {call := some ((A lateC))})]) (ps := [_]) (by kernel_rfl) ⟨(late_ok), trivial⟩
def fldB (n : Nat) : ByteArray := sB (fldS.getD n "")
def slAt (f : Fm) : List AV := [slJ f.fixed, bl f.bytes, i64 f.list]
theorem Req_1 (f : Fm) (h : PS 25 [st (fldB 1)] (fmA f)) : PS 8 [i64 1] (.tup [fmA f, bl true]) := by
  have q := req_in 1 (by omega) (by omega)
  exact pure_of (hs := hint [((1,1), {call := some ((A (entC (1 : Nat))))}), ((4,2), {call := some ((fmA f))})]) (ps := [_, _]) (by kernel_rfl) ⟨(q), (h), trivial⟩
theorem Req_out (n : Int) (h : n < 1 ∨ 58 < n) : PS 8 [i64 n] (.tup [fmA ⟨[], false, 0⟩, bl false]) := by
  have q := req_out n h
  exact pure_of (hs := hint [((1,1), {call := some ((A [st { data := #[] : ByteArray }, st { data := #[] : ByteArray }, st { data := #[] : ByteArray }]))})]) (ps := [_]) (by kernel_rfl) ⟨(q), trivial⟩
end Go.Proofs.YtcnlgdbmcdlknaaDoor
