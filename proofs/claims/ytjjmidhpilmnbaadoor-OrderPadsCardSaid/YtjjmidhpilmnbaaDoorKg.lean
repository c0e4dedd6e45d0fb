/- A string turned, upon plain values. By the prover of this seat. -/
import Derived.Test.YtjjmidhpilmnbaaDoorKf
set_option linter.unusedVariables false
set_option maxRecDepth 100000
namespace Go.Proofs.YtjjmidhpilmnbaaDoor
open Go.RowKit Go.Pm
noncomputable def tuBody : Code := loopOf Tryd.prog 11 3
def tuFg : Fg := { ks := [0, 3, 4] }
def revB (s : ByteArray) (k : Nat) : ByteArray := ⟨(s.data.toList.take k).reverse.toArray⟩
def tuSt (s : ByteArray) (k : Nat) : St := ⟨mkT 19 [(0, st s), (3, st (revB s k)), (4, i64 k)], []⟩
theorem wrap_small {n : Int} (h0 : -9223372036854775808 ≤ n) (h : n ≤ 9223372036854775807) : IntKind.i64.wrap n = n := by
  simp only [IntKind.wrap, IntKind.signed, IntKind.bits]
  simp
  omega
theorem i64_wrap {k : Int} (h0 : -9223372036854775808 ≤ k) (h : k ≤ 9223372036854775807) : i64 (IntKind.i64.wrap k) = i64 k := by rw [wrap_small h0 h]
theorem rev_step (s : ByteArray) (k : Nat) (h : k < s.size) : s.extract k (k + 1) ++ revB s k = revB s (k + 1) := by
  apply ByteArray.ext
  apply Array.ext'
  have hk : k < s.data.toList.length := by rw [Array.length_toList]; exact h
  rw [ByteArray.data_append, Array.toList_append, ByteArray.data_extract, Array.toList_extract, List.extract_eq_take_drop]
  show ((s.data.toList.drop k).take (k + 1 - k)) ++ (s.data.toList.take k).reverse = (s.data.toList.take (k + 1)).reverse
  rw [List.take_add_one, List.getElem?_eq_getElem hk, List.reverse_append, List.drop_eq_getElem_cons hk, show k + 1 - k = 1 by omega]
  rfl
theorem rev_size (s : ByteArray) (k : Nat) (h : k ≤ s.size) : (revB s k).size = k := by
  have hk : k ≤ s.data.size := h
  show ((s.data.toList.take k).reverse.toArray).size = k
  rw [List.size_toArray, List.length_reverse, List.length_take, Array.length_toList]
  exact Nat.min_eq_left hk
theorem tuLoop (s : ByteArray) (hs : s.size ≤ 1000000000) : ∀ (n k : Nat), k + n = s.size → LoopT C1 tuBody (tuSt s k) (.exit 0) (tuSt s s.size) := by
  intro n
  induction n with
  | zero =>
    intro k hk
    obtain rfl : k = s.size := by omega
    exact LoopT.fin (hs := hint [((3,3), {val := some (bl false)})]) (f := tuFg) (ps := [bl (decide ((s.size : Int) < (s.size : Int))) = bl false, true = true]) (by kernel_rfl) ⟨by rw [decide_eq_false (by omega)], rfl, trivial⟩ (by decide)
  | succ n ih =>
    intro k hk
    have hlt : k < s.size := by omega
    exact LoopT.go (hs := hint [((3,3), {val := some (bl true)}), ((5,3), {val := some (i64 ((k + 1 : Nat) : Int))}), ((5,4), {sym := true}), ((5,6), {sym := true, val := some (st (revB s (k + 1)))}), ((4,1), {val := some (i64 ((k + 1 : Nat) : Int))})]) (f := tuFg) (st2 := tuSt s (k + 1))
      (ps := [bl (decide ((k : Int) < (s.size : Int))) = bl true, i64 (IntKind.i64.wrap ((k : Int) + 1)) = i64 ((k + 1 : Nat) : Int), slIn (k : Int) ((k + 1 : Nat) : Int) (s.size : Int) (s.size : Int) (some (i64 ((k + 1 : Nat) : Int))) none = true,
        decide ((s.extract k (k + 1)).size + (revB s k).size ≤ 9223372036854775807) = true, st (s.extract k (k + 1) ++ revB s k) = st (revB s (k + 1)), i64 (IntKind.i64.wrap ((k : Int) + 1)) = i64 ((k + 1 : Nat) : Int), true = true])
      (by kernel_rfl) ⟨by rw [decide_t (by omega)], i64_wrap (by omega) (by omega), by simp [slIn]; omega, decide_t (by rw [rev_size s k (by omega), ByteArray.size_extract]; omega), by rw [rev_step s k hlt], i64_wrap (by omega) (by omega), rfl, trivial⟩ (ih (k + 1) (by omega))
theorem turned_ok (s : ByteArray) (hs : s.size ≤ 1000000000) : Pu 11 [st s] (st (revB s s.size)) :=
  pure_of (hs := hint [((3,1000), {loop := some (tuFg, tuSt s 0, .exit 0, tuSt s s.size)})]) (ps := [tuSt s 0 = tuSt s 0, LoopT C1 tuBody (tuSt s 0) (.exit 0) (tuSt s s.size), true = true]) (by kernel_rfl) ⟨rfl, tuLoop s hs s.size 0 (by omega), rfl, trivial⟩
end Go.Proofs.YtjjmidhpilmnbaaDoor
