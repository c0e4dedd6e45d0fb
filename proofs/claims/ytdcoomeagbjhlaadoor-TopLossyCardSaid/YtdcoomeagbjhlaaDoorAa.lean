/- The table, and which row is known, upon plain values. By the prover of this seat. -/
import Derived.Test.YtdcoomeagbjhlaaDoorRows
import Derived.Test.YtdcoomeagbjhlaaDoorPmF
set_option linter.unusedVariables false
set_option linter.unusedSimpArgs false
set_option maxRecDepth 100000
set_option maxHeartbeats 4000000
namespace Go.Proofs.YtdcoomeagbjhlaaDoor.Or
open Go.RowKit Go.Pm
structure Span where
  size : Int
  low : Int
  high : Int
  deriving DecidableEq
def spL (s : Span) : List AV := [i64 s.size, i64 s.low, i64 s.high]
def table : List Span := [⟨1, 0, 255⟩, ⟨2, 0, 65535⟩, ⟨4, 0, 4294967295⟩, ⟨(-1), (-128), 127⟩, ⟨(-2), (-32768), 32767⟩, ⟨(-4), (-2147483648), 2147483647⟩]
def spansC : List AV := table.flatMap spL
def sizesC : List AV := [i64 1, i64 2, i64 4, i64 (-1), i64 (-2), i64 (-4)]
def G1 : Nat → Option (List AV) := fun g => if g = 0 then some spansC else none
noncomputable def C1 : Cx := ⟨Tryd.prog, G1, 0⟩
abbrev Pu (f : FuncId) (args : List AV) (r : AV) : Prop := Pure Tryd.prog G1 f args r []
noncomputable def kBody : Code := loopOf Tryd.prog 30 4
def kFg : Fg := { ks := [0, 1, 4, 5, 15, 16], l := [0], mx := [0] }
def kFe : Fg := { ks := [4, 5], l := [0], mx := [0] }
def kSt (a n : Int) (k : Int) : St := ⟨mkT 26 [(0, i64 a), (1, i64 n), (4, .ptr 0 0), (5, i64 0), (15, A spansC), (16, i64 k)], [.arr 3 (spL ⟨0, 0, 0⟩) 0]⟩
def kEnd (s : Span) (e : Int) : St := ⟨mkT 26 [(4, .ptr 0 0), (5, i64 e)], [.arr 3 (spL s) 0]⟩
theorem eq_f {a b : Int} (h : b ≠ a) : bl (a == b) = bl false := by
  have : (a == b) = false := by simp; omega
  rw [this]
theorem eq_t {a b : Int} (h : b = a) : bl (a == b) = bl true := by subst h; simp
theorem k_miss0 (a n : Int) (h : n ≠ 1) : Tri C1 kBody (kSt a n 0) .normal (kSt a n 1) :=
  runF_ok (hs := hint [((6,3), {val := some (bl false)})]) (f := kFg) (ps := [bl ((1 : Int) == n) = bl false, true = true]) (by kernel_rfl) ⟨eq_f h, rfl, trivial⟩
theorem k_hit0 (a n : Int) (h : n = 1) : LoopT C1 kBody (kSt a n 0) .ret (kEnd ⟨1, 0, 255⟩ 0) :=
  LoopT.fin (hs := hint [((6,3), {val := some (bl true)})]) (f := kFe) (ps := [bl ((1 : Int) == n) = bl true, true = true]) (by kernel_rfl) ⟨eq_t h, rfl, trivial⟩ (by decide)
theorem k_miss1 (a n : Int) (h : n ≠ 2) : Tri C1 kBody (kSt a n 1) .normal (kSt a n 2) :=
  runF_ok (hs := hint [((6,3), {val := some (bl false)})]) (f := kFg) (ps := [bl ((2 : Int) == n) = bl false, true = true]) (by kernel_rfl) ⟨eq_f h, rfl, trivial⟩
theorem k_hit1 (a n : Int) (h : n = 2) : LoopT C1 kBody (kSt a n 1) .ret (kEnd ⟨2, 0, 65535⟩ 0) :=
  LoopT.fin (hs := hint [((6,3), {val := some (bl true)})]) (f := kFe) (ps := [bl ((2 : Int) == n) = bl true, true = true]) (by kernel_rfl) ⟨eq_t h, rfl, trivial⟩ (by decide)
theorem k_miss2 (a n : Int) (h : n ≠ 4) : Tri C1 kBody (kSt a n 2) .normal (kSt a n 3) :=
  runF_ok (hs := hint [((6,3), {val := some (bl false)})]) (f := kFg) (ps := [bl ((4 : Int) == n) = bl false, true = true]) (by kernel_rfl) ⟨eq_f h, rfl, trivial⟩
theorem k_hit2 (a n : Int) (h : n = 4) : LoopT C1 kBody (kSt a n 2) .ret (kEnd ⟨4, 0, 4294967295⟩ 0) :=
  LoopT.fin (hs := hint [((6,3), {val := some (bl true)})]) (f := kFe) (ps := [bl ((4 : Int) == n) = bl true, true = true]) (by kernel_rfl) ⟨eq_t h, rfl, trivial⟩ (by decide)
theorem k_miss3 (a n : Int) (h : n ≠ (-1)) : Tri C1 kBody (kSt a n 3) .normal (kSt a n 4) :=
  runF_ok (hs := hint [((6,3), {val := some (bl false)})]) (f := kFg) (ps := [bl (((-1) : Int) == n) = bl false, true = true]) (by kernel_rfl) ⟨eq_f h, rfl, trivial⟩
theorem k_hit3 (a n : Int) (h : n = (-1)) : LoopT C1 kBody (kSt a n 3) .ret (kEnd ⟨(-1), (-128), 127⟩ 0) :=
  LoopT.fin (hs := hint [((6,3), {val := some (bl true)})]) (f := kFe) (ps := [bl (((-1) : Int) == n) = bl true, true = true]) (by kernel_rfl) ⟨eq_t h, rfl, trivial⟩ (by decide)
theorem k_miss4 (a n : Int) (h : n ≠ (-2)) : Tri C1 kBody (kSt a n 4) .normal (kSt a n 5) :=
  runF_ok (hs := hint [((6,3), {val := some (bl false)})]) (f := kFg) (ps := [bl (((-2) : Int) == n) = bl false, true = true]) (by kernel_rfl) ⟨eq_f h, rfl, trivial⟩
theorem k_hit4 (a n : Int) (h : n = (-2)) : LoopT C1 kBody (kSt a n 4) .ret (kEnd ⟨(-2), (-32768), 32767⟩ 0) :=
  LoopT.fin (hs := hint [((6,3), {val := some (bl true)})]) (f := kFe) (ps := [bl (((-2) : Int) == n) = bl true, true = true]) (by kernel_rfl) ⟨eq_t h, rfl, trivial⟩ (by decide)
theorem k_miss5 (a n : Int) (h : n ≠ (-4)) : Tri C1 kBody (kSt a n 5) .normal (kSt a n 6) :=
  runF_ok (hs := hint [((6,3), {val := some (bl false)})]) (f := kFg) (ps := [bl (((-4) : Int) == n) = bl false, true = true]) (by kernel_rfl) ⟨eq_f h, rfl, trivial⟩
theorem k_hit5 (a n : Int) (h : n = (-4)) : LoopT C1 kBody (kSt a n 5) .ret (kEnd ⟨(-4), (-2147483648), 2147483647⟩ 0) :=
  LoopT.fin (hs := hint [((6,3), {val := some (bl true)})]) (f := kFe) (ps := [bl (((-4) : Int) == n) = bl true, true = true]) (by kernel_rfl) ⟨eq_t h, rfl, trivial⟩ (by decide)
theorem k_none (a n : Int) : LoopT C1 kBody (kSt a n 6) (.exit 0) (kSt a n 6) :=
  LoopT.fin (hs := hint []) (f := kFg) (ps := [true = true]) (by kernel_rfl) ⟨rfl, trivial⟩ (by decide)
def knownD (n : Int) : Option Span := if n = 1 then some ⟨1, 0, 255⟩ else if n = 2 then some ⟨2, 0, 65535⟩ else if n = 4 then some ⟨4, 0, 4294967295⟩ else if n = (-1) then some ⟨(-1), (-128), 127⟩ else if n = (-2) then some ⟨(-2), (-32768), 32767⟩ else if n = (-4) then some ⟨(-4), (-2147483648), 2147483647⟩ else none
theorem k_loop (a n : Int) : (∃ s, knownD n = some s ∧ LoopT C1 kBody (kSt a n 0) .ret (kEnd s 0)) ∨ (knownD n = none ∧ LoopT C1 kBody (kSt a n 0) (.exit 0) (kSt a n 6)) := by
  by_cases h0 : n = 1
  · exact .inl ⟨⟨1, 0, 255⟩, by subst h0; rfl, (k_hit0 a n h0)⟩
  by_cases h1 : n = 2
  · exact .inl ⟨⟨2, 0, 65535⟩, by subst h1; rfl, (LoopT.next (k_miss0 a n h0) (k_hit1 a n h1))⟩
  by_cases h2 : n = 4
  · exact .inl ⟨⟨4, 0, 4294967295⟩, by subst h2; rfl, (LoopT.next (k_miss0 a n h0) (LoopT.next (k_miss1 a n h1) (k_hit2 a n h2)))⟩
  by_cases h3 : n = (-1)
  · exact .inl ⟨⟨(-1), (-128), 127⟩, by subst h3; rfl, (LoopT.next (k_miss0 a n h0) (LoopT.next (k_miss1 a n h1) (LoopT.next (k_miss2 a n h2) (k_hit3 a n h3))))⟩
  by_cases h4 : n = (-2)
  · exact .inl ⟨⟨(-2), (-32768), 32767⟩, by subst h4; rfl, (LoopT.next (k_miss0 a n h0) (LoopT.next (k_miss1 a n h1) (LoopT.next (k_miss2 a n h2) (LoopT.next (k_miss3 a n h3) (k_hit4 a n h4)))))⟩
  by_cases h5 : n = (-4)
  · exact .inl ⟨⟨(-4), (-2147483648), 2147483647⟩, by subst h5; rfl, (LoopT.next (k_miss0 a n h0) (LoopT.next (k_miss1 a n h1) (LoopT.next (k_miss2 a n h2) (LoopT.next (k_miss3 a n h3) (LoopT.next (k_miss4 a n h4) (k_hit5 a n h5))))))⟩
  exact .inr ⟨by unfold knownD; rw [if_neg h0, if_neg h1, if_neg h2, if_neg h3, if_neg h4, if_neg h5], (LoopT.next (k_miss0 a n h0) (LoopT.next (k_miss1 a n h1) (LoopT.next (k_miss2 a n h2) (LoopT.next (k_miss3 a n h3) (LoopT.next (k_miss4 a n h4) (LoopT.next (k_miss5 a n h5) (k_none a n)))))))⟩
def sp0 : Span := ⟨0, 0, 0⟩
theorem known_odd (a n : Int) (h0 : a ≠ 0) (h1 : a ≠ 1) : Pu 30 [i64 a, i64 n] (.tup [A (spL sp0), i64 10]) :=
  pure_of (hs := hint [((1,1), {val := some (bl true)}), ((1,4), {val := some (bl true)})]) (ps := [bl (!(a == (0 : Int))) = bl true, bl (!(a == (1 : Int))) = bl true]) (by kernel_rfl) ⟨by rw [show (a == (0 : Int)) = false from beq_eq_false_iff_ne.mpr h0]; rfl, by rw [show (a == (1 : Int)) = false from beq_eq_false_iff_ne.mpr h1]; rfl, trivial⟩
theorem known_none (a n : Int) (ha : a = 0 ∨ a = 1) (h : knownD n = none) : Pu 30 [i64 a, i64 n] (.tup [A (spL sp0), i64 17]) := by
  rcases k_loop a n with ⟨s, h1, _⟩ | ⟨_, hl⟩
  · rw [h] at h1; cases h1
  · rcases ha with rfl | rfl
    · exact pure_of (hs := hint [((4,1000), {loop := some (kFg, kSt 0 n 0, .exit 0, kSt 0 n 6)})]) (ps := [kSt 0 n 0 = kSt 0 n 0, LoopT C1 kBody (kSt 0 n 0) (.exit 0) (kSt 0 n 6), true = true]) (by kernel_rfl) ⟨rfl, hl, rfl, trivial⟩
    · exact pure_of (hs := hint [((4,1000), {loop := some (kFg, kSt 1 n 0, .exit 0, kSt 1 n 6)})]) (ps := [kSt 1 n 0 = kSt 1 n 0, LoopT C1 kBody (kSt 1 n 0) (.exit 0) (kSt 1 n 6), true = true]) (by kernel_rfl) ⟨rfl, hl, rfl, trivial⟩
theorem known_some (a n : Int) (s : Span) (ha : a = 0 ∨ a = 1) (h : knownD n = some s) : Pu 30 [i64 a, i64 n] (.tup [A (spL s), i64 0]) := by
  rcases k_loop a n with ⟨s', h1, hl⟩ | ⟨h1, _⟩
  · rw [h] at h1; cases h1
    rcases ha with rfl | rfl
    · exact pure_of (hs := hint [((4,1000), {loop := some (kFg, kSt 0 n 0, .ret, kEnd s 0)})]) (ps := [kSt 0 n 0 = kSt 0 n 0, LoopT C1 kBody (kSt 0 n 0) .ret (kEnd s 0), true = true]) (by kernel_rfl) ⟨rfl, hl, rfl, trivial⟩
    · exact pure_of (hs := hint [((4,1000), {loop := some (kFg, kSt 1 n 0, .ret, kEnd s 0)})]) (ps := [kSt 1 n 0 = kSt 1 n 0, LoopT C1 kBody (kSt 1 n 0) .ret (kEnd s 0), true = true]) (by kernel_rfl) ⟨rfl, hl, rfl, trivial⟩
  · rw [h] at h1; cases h1
end Go.Proofs.YtdcoomeagbjhlaaDoor.Or
