/- The reference's sizes and bounds, upon plain values. By the prover of this seat. -/
import Derived.Test.YtjjmidhpilmnbaaDoorKe
set_option linter.unusedVariables false
set_option maxRecDepth 100000
namespace Go.Proofs.YtjjmidhpilmnbaaDoor
open Go.RowKit Go.Pm
theorem rsize0 : Pu 25 [i64 1] (i64 1) := pure_of (hs := hint []) (ps := []) (by kernel_rfl) trivial
theorem rleast0 : Pu 26 [i64 1] (i64 0) := pure_of (hs := hint []) (ps := []) (by kernel_rfl) trivial
theorem rmost0 : Pu 27 [i64 1] (i64 255) := pure_of (hs := hint []) (ps := []) (by kernel_rfl) trivial
theorem rsize1 : Pu 25 [i64 2] (i64 2) := pure_of (hs := hint []) (ps := []) (by kernel_rfl) trivial
theorem rleast1 : Pu 26 [i64 2] (i64 0) := pure_of (hs := hint []) (ps := []) (by kernel_rfl) trivial
theorem rmost1 : Pu 27 [i64 2] (i64 65535) := pure_of (hs := hint []) (ps := []) (by kernel_rfl) trivial
theorem rsize2 : Pu 25 [i64 4] (i64 4) := pure_of (hs := hint []) (ps := []) (by kernel_rfl) trivial
theorem rleast2 : Pu 26 [i64 4] (i64 0) := pure_of (hs := hint []) (ps := []) (by kernel_rfl) trivial
theorem rmost2 : Pu 27 [i64 4] (i64 4294967295) := pure_of (hs := hint []) (ps := []) (by kernel_rfl) trivial
theorem rsize3 : Pu 25 [i64 (-1)] (i64 1) := pure_of (hs := hint []) (ps := []) (by kernel_rfl) trivial
theorem rleast3 : Pu 26 [i64 (-1)] (i64 (-128)) := pure_of (hs := hint []) (ps := []) (by kernel_rfl) trivial
theorem rmost3 : Pu 27 [i64 (-1)] (i64 127) := pure_of (hs := hint []) (ps := []) (by kernel_rfl) trivial
theorem rsize4 : Pu 25 [i64 (-2)] (i64 2) := pure_of (hs := hint []) (ps := []) (by kernel_rfl) trivial
theorem rleast4 : Pu 26 [i64 (-2)] (i64 (-32768)) := pure_of (hs := hint []) (ps := []) (by kernel_rfl) trivial
theorem rmost4 : Pu 27 [i64 (-2)] (i64 32767) := pure_of (hs := hint []) (ps := []) (by kernel_rfl) trivial
theorem rsize5 : Pu 25 [i64 (-4)] (i64 4) := pure_of (hs := hint []) (ps := []) (by kernel_rfl) trivial
theorem rleast5 : Pu 26 [i64 (-4)] (i64 (-2147483648)) := pure_of (hs := hint []) (ps := []) (by kernel_rfl) trivial
theorem rmost5 : Pu 27 [i64 (-4)] (i64 2147483647) := pure_of (hs := hint []) (ps := []) (by kernel_rfl) trivial
theorem known_cases {n : Int} {s : Span} (h : knownD n = some s) : (n = 1 ∧ s = ⟨1, 0, 255⟩) ∨ (n = 2 ∧ s = ⟨2, 0, 65535⟩) ∨ (n = 4 ∧ s = ⟨4, 0, 4294967295⟩) ∨ (n = -1 ∧ s = ⟨-1, -128, 127⟩) ∨ (n = -2 ∧ s = ⟨-2, -32768, 32767⟩) ∨ (n = -4 ∧ s = ⟨-4, -2147483648, 2147483647⟩) := by
  unfold knownD at h
  split at h
  · cases h; exact .inl ⟨by assumption, rfl⟩
  · split at h
    · cases h; exact .inr (.inl ⟨by assumption, rfl⟩)
    · split at h
      · cases h; exact .inr (.inr (.inl ⟨by assumption, rfl⟩))
      · split at h
        · cases h; exact .inr (.inr (.inr (.inl ⟨by assumption, rfl⟩)))
        · split at h
          · cases h; exact .inr (.inr (.inr (.inr (.inl ⟨by assumption, rfl⟩))))
          · split at h
            · cases h; exact .inr (.inr (.inr (.inr (.inr ⟨by assumption, rfl⟩))))
            · cases h
theorem known_not {n : Int} (h : knownD n = none) : n ≠ 1 ∧ n ≠ 2 ∧ n ≠ 4 ∧ n ≠ -1 ∧ n ≠ -2 ∧ n ≠ -4 := by
  refine ⟨?_, ?_, ?_, ?_, ?_, ?_⟩ <;> (rintro rfl; exact absurd h (by decide))
theorem rleast_ok {n : Int} {s : Span} (h : knownD n = some s) : Pu 26 [i64 n] (i64 s.low) := by
  rcases known_cases h with ⟨rfl, rfl⟩ | ⟨rfl, rfl⟩ | ⟨rfl, rfl⟩ | ⟨rfl, rfl⟩ | ⟨rfl, rfl⟩ | ⟨rfl, rfl⟩
  · exact rleast0
  · exact rleast1
  · exact rleast2
  · exact rleast3
  · exact rleast4
  · exact rleast5
theorem rmost_ok {n : Int} {s : Span} (h : knownD n = some s) : Pu 27 [i64 n] (i64 s.high) := by
  rcases known_cases h with ⟨rfl, rfl⟩ | ⟨rfl, rfl⟩ | ⟨rfl, rfl⟩ | ⟨rfl, rfl⟩ | ⟨rfl, rfl⟩ | ⟨rfl, rfl⟩
  · exact rmost0
  · exact rmost1
  · exact rmost2
  · exact rmost3
  · exact rmost4
  · exact rmost5
theorem rsize_ok {n : Int} {s : Span} {w : Nat} (h : knownD n = some s) (hw : s.wide w) : Pu 25 [i64 n] (i64 w) := by
  have key : ∀ q : Nat, (q : Int) = s.size ∨ (q : Int) = -s.size → 0 < q → q = w := by
    intro q hq h0
    unfold Span.wide at hw
    omega
  rcases known_cases h with ⟨rfl, rfl⟩ | ⟨rfl, rfl⟩ | ⟨rfl, rfl⟩ | ⟨rfl, rfl⟩ | ⟨rfl, rfl⟩ | ⟨rfl, rfl⟩
  · obtain rfl := key 1 (by simp) (by simp); exact rsize0
  · obtain rfl := key 2 (by simp) (by simp); exact rsize1
  · obtain rfl := key 4 (by simp) (by simp); exact rsize2
  · obtain rfl := key 1 (by simp) (by simp); exact rsize3
  · obtain rfl := key 2 (by simp) (by simp); exact rsize4
  · obtain rfl := key 4 (by simp) (by simp); exact rsize5
theorem rsize_none {n : Int} (h : knownD n = none) : Pu 25 [i64 n] (i64 0) := by
  obtain ⟨h1, h2, h3, h4, h5, h6⟩ := known_not h
  have e : ∀ {b : Int}, n ≠ b → bl (n == b) = bl false := fun hb => by rw [beq_eq_false_iff_ne.mpr hb]
  exact pure_of (hs := hint [((2,0), {val := some (bl false)}), ((3,0), {val := some (bl false)}), ((5,0), {val := some (bl false)}), ((6,0), {val := some (bl false)}), ((8,0), {val := some (bl false)}), ((9,0), {val := some (bl false)})])
    (ps := [bl (n == (1 : Int)) = bl false, bl (n == (-1 : Int)) = bl false, bl (n == (2 : Int)) = bl false, bl (n == (-2 : Int)) = bl false, bl (n == (4 : Int)) = bl false, bl (n == (-4 : Int)) = bl false]) (by kernel_rfl) ⟨e h1, e h4, e h2, e h5, e h3, e h6, trivial⟩
noncomputable def whBody : Code := loopOf Tryd.prog 28 3
def whFg : Fg := { ks := [0, 3, 4] }
def whSt (w k : Nat) (x : Int) : St := ⟨mkT 13 [(0, i64 w), (3, i64 x), (4, i64 k)], []⟩
theorem wh_1 : LoopT C1 whBody (whSt 1 0 1) (.exit 0) (whSt 1 1 256) := by
  refine LoopT.go (hs := hint []) (f := whFg) (st2 := whSt 1 1 256) (ps := [true = true]) (by kernel_rfl) ⟨rfl, trivial⟩ ?_
  exact LoopT.fin (hs := hint []) (f := whFg) (ps := [true = true]) (by kernel_rfl) ⟨rfl, trivial⟩ (by decide)
theorem whole_1 : Pu 28 [i64 1] (i64 256) :=
  pure_of (hs := hint [((3,1000), {loop := some (whFg, whSt 1 0 1, .exit 0, whSt 1 1 256)})]) (ps := [whSt 1 0 1 = whSt 1 0 1, LoopT C1 whBody (whSt 1 0 1) (.exit 0) (whSt 1 1 256), true = true]) (by kernel_rfl) ⟨rfl, wh_1, rfl, trivial⟩
theorem wh_2 : LoopT C1 whBody (whSt 2 0 1) (.exit 0) (whSt 2 2 65536) := by
  refine LoopT.go (hs := hint []) (f := whFg) (st2 := whSt 2 1 256) (ps := [true = true]) (by kernel_rfl) ⟨rfl, trivial⟩ ?_
  refine LoopT.go (hs := hint []) (f := whFg) (st2 := whSt 2 2 65536) (ps := [true = true]) (by kernel_rfl) ⟨rfl, trivial⟩ ?_
  exact LoopT.fin (hs := hint []) (f := whFg) (ps := [true = true]) (by kernel_rfl) ⟨rfl, trivial⟩ (by decide)
theorem whole_2 : Pu 28 [i64 2] (i64 65536) :=
  pure_of (hs := hint [((3,1000), {loop := some (whFg, whSt 2 0 1, .exit 0, whSt 2 2 65536)})]) (ps := [whSt 2 0 1 = whSt 2 0 1, LoopT C1 whBody (whSt 2 0 1) (.exit 0) (whSt 2 2 65536), true = true]) (by kernel_rfl) ⟨rfl, wh_2, rfl, trivial⟩
theorem wh_4 : LoopT C1 whBody (whSt 4 0 1) (.exit 0) (whSt 4 4 4294967296) := by
  refine LoopT.go (hs := hint []) (f := whFg) (st2 := whSt 4 1 256) (ps := [true = true]) (by kernel_rfl) ⟨rfl, trivial⟩ ?_
  refine LoopT.go (hs := hint []) (f := whFg) (st2 := whSt 4 2 65536) (ps := [true = true]) (by kernel_rfl) ⟨rfl, trivial⟩ ?_
  refine LoopT.go (hs := hint []) (f := whFg) (st2 := whSt 4 3 16777216) (ps := [true = true]) (by kernel_rfl) ⟨rfl, trivial⟩ ?_
  refine LoopT.go (hs := hint []) (f := whFg) (st2 := whSt 4 4 4294967296) (ps := [true = true]) (by kernel_rfl) ⟨rfl, trivial⟩ ?_
  exact LoopT.fin (hs := hint []) (f := whFg) (ps := [true = true]) (by kernel_rfl) ⟨rfl, trivial⟩ (by decide)
theorem whole_4 : Pu 28 [i64 4] (i64 4294967296) :=
  pure_of (hs := hint [((3,1000), {loop := some (whFg, whSt 4 0 1, .exit 0, whSt 4 4 4294967296)})]) (ps := [whSt 4 0 1 = whSt 4 0 1, LoopT C1 whBody (whSt 4 0 1) (.exit 0) (whSt 4 4 4294967296), true = true]) (by kernel_rfl) ⟨rfl, wh_4, rfl, trivial⟩
end Go.Proofs.YtjjmidhpilmnbaaDoor
