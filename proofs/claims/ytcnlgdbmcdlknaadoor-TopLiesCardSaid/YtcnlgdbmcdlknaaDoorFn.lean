/- Sizes; forms; fields. By the prover of this seat. -/
import Derived.Test.YtcnlgdbmcdlknaaDoorFm
set_option linter.unusedVariables false
set_option linter.unusedSimpArgs false
set_option maxRecDepth 100000
set_option maxHeartbeats 4000000
namespace Go.Proofs.YtcnlgdbmcdlknaaDoor.Fo
open Go.RowKit Go.Pm
def padB (b : ByteArray) : Nat → ByteArray
  | 0 => b
  | p + 1 => padB b p ++ oneB 0
theorem padB_size (b : ByteArray) (p : Nat) : (padB b p).size = b.size + p := by
  induction p with
  | zero => rfl
  | succ p ih => rw [padB, ByteArray.size_append, ih]; rfl
def padN (n : Nat) : Nat := (4 - n % 4) % 4
theorem padD_nat (n : Nat) : padD n = (padN n : Nat) := by
  unfold padD padN
  have e1 : (n : Int).tmod 4 = (n : Int) % 4 := Int.tmod_eq_emod_of_nonneg (by omega)
  rw [if_neg (by omega), e1, Int.tmod_eq_emod_of_nonneg (by omega)]
  omega
def szB (n : Int) : Bool := (knownD n).isSome
def wdD (n : Int) : Nat := n.natAbs
theorem sized_1 : Pu 74 [i64 1] (bl true) := by
  exact pure_of (hs := hint [((2,1000), {unroll := 1})]) (ps := []) (by kernel_rfl) trivial
theorem sized_2 : Pu 74 [i64 2] (bl true) := by
  exact pure_of (hs := hint [((2,1000), {unroll := 2})]) (ps := []) (by kernel_rfl) trivial
theorem sized_4 : Pu 74 [i64 4] (bl true) := by
  exact pure_of (hs := hint [((2,1000), {unroll := 3})]) (ps := []) (by kernel_rfl) trivial
theorem sized_n1 : Pu 74 [i64 (-1)] (bl true) := by
  exact pure_of (hs := hint [((2,1000), {unroll := 4})]) (ps := []) (by kernel_rfl) trivial
theorem sized_n2 : Pu 74 [i64 (-2)] (bl true) := by
  exact pure_of (hs := hint [((2,1000), {unroll := 5})]) (ps := []) (by kernel_rfl) trivial
theorem sized_n4 : Pu 74 [i64 (-4)] (bl true) := by
  exact pure_of (hs := hint [((2,1000), {unroll := 6})]) (ps := []) (by kernel_rfl) trivial
theorem sized_no (n : Int) (h1 : ¬ n = 1) (h2 : ¬ n = 2) (h3 : ¬ n = 4) (h4 : ¬ n = -1) (h5 : ¬ n = -2) (h6 : ¬ n = -4) : Pu 74 [i64 n] (bl false) := by
  exact pure_of (hs := hint [((4001,2), {val := some (bl (false))}), ((4002,2), {val := some (bl (false))}), ((4003,2), {val := some (bl (false))}), ((4004,2), {val := some (bl (false))}), ((4005,2), {val := some (bl (false))}), ((4006,2), {val := some (bl (false))}), ((2,1000), {unroll := 7})]) (ps := [bl ((1 : Int) == n) = bl (false), bl ((2 : Int) == n) = bl (false), bl ((4 : Int) == n) = bl (false), bl ((-1 : Int) == n) = bl (false), bl ((-2 : Int) == n) = bl (false), bl ((-4 : Int) == n) = bl (false)]) (by kernel_rfl) ⟨(beF (by omega)), (beF (by omega)), (beF (by omega)), (beF (by omega)), (beF (by omega)), (beF (by omega)), trivial⟩
theorem sized_ok (n : Int) : Pu 74 [i64 n] (bl (szB n)) := by
  unfold szB
  cases h : knownD n with
  | none =>
    obtain ⟨h1, h2, h3, h4, h5, h6⟩ := known_not h
    exact sized_no n h1 h2 h3 h4 h5 h6
  | some s =>
    rcases known_cases h with ⟨rfl, _⟩ | ⟨rfl, _⟩ | ⟨rfl, _⟩ | ⟨rfl, _⟩ | ⟨rfl, _⟩ | ⟨rfl, _⟩
    · exact sized_1
    · exact sized_2
    · exact sized_4
    · exact sized_n1
    · exact sized_n2
    · exact sized_n4
theorem wide_1 : Pu 55 [i64 1] (i64 1) := by
  exact pure_of (hs := hint []) (ps := []) (by kernel_rfl) trivial
theorem wide_2 : Pu 55 [i64 2] (i64 2) := by
  exact pure_of (hs := hint []) (ps := []) (by kernel_rfl) trivial
theorem wide_4 : Pu 55 [i64 4] (i64 4) := by
  exact pure_of (hs := hint []) (ps := []) (by kernel_rfl) trivial
theorem wide_n1 : Pu 55 [i64 (-1)] (i64 1) := by
  exact pure_of (hs := hint []) (ps := []) (by kernel_rfl) trivial
theorem wide_n2 : Pu 55 [i64 (-2)] (i64 2) := by
  exact pure_of (hs := hint []) (ps := []) (by kernel_rfl) trivial
theorem wide_n4 : Pu 55 [i64 (-4)] (i64 4) := by
  exact pure_of (hs := hint []) (ps := []) (by kernel_rfl) trivial
theorem wide_ok (n : Int) (h : szB n = true) : Pu 55 [i64 n] (i64 (wdD n)) := by
  unfold szB at h
  cases hk : knownD n with
  | none => rw [hk] at h; cases h
  | some s =>
    rcases known_cases hk with ⟨rfl, _⟩ | ⟨rfl, _⟩ | ⟨rfl, _⟩ | ⟨rfl, _⟩ | ⟨rfl, _⟩ | ⟨rfl, _⟩
    · exact wide_1
    · exact wide_2
    · exact wide_4
    · exact wide_n1
    · exact wide_n2
    · exact wide_n4
end Go.Proofs.YtcnlgdbmcdlknaaDoor.Fo
