import Derived.Test.YtnkiljopbilknaaRows
import Derived.Test.YtnkiljopbilknaaSl
import Derived.WalkKit
import Derived.WalkSpells
import Derived.Lib.Hide
set_option linter.unusedVariables false
namespace Go.Proofs.Ytnkiljopbilknaa
open Go.RowKit Go.Gz
theorem Ret.of {v u : Value} {w : World} (h : v = u) : Ret u w (.returned v) w := ⟨by rw [h], rfl⟩
set_option maxHeartbeats 400000 in
theorem isClient_y (c : Int) (w : World) (h1 : 1 ≤ c) (h2 : c ≤ 8) : Calls Try.prog 17 #[.int .i64 c] w (Ret (.bool true) w) := by
  go_enter Try.func17, Try.ntmps17
  go_wp2
  go_ret
  exact ⟨rfl, rfl⟩
set_option maxHeartbeats 400000 in
theorem isClient_n (c : Int) (w : World) (h : ¬ (1 ≤ c ∧ c ≤ 8)) : Calls Try.prog 17 #[.int .i64 c] w (Ret (.bool false) w) := by
  by_cases h1 : 1 ≤ c
  · have h2 : ¬ c ≤ 8 := fun h2 => h ⟨h1, h2⟩
    clear h
    go_enter Try.func17, Try.ntmps17
    go_wp2
    go_ret
    exact ⟨rfl, rfl⟩
  · clear h
    go_enter Try.func17, Try.ntmps17
    go_wp2
    go_ret
    exact ⟨rfl, rfl⟩
set_option maxHeartbeats 400000 in
theorem base_y (c : Int) (w : World) (h1 : 1 ≤ c) (h2 : c ≤ 8) :
    Calls Try.prog 12 #[.int .i64 c] w (Ret (.tuple #[.int .u32 (c * 1048576), .bool true]) w) := by
  go_enter Try.func12, Try.ntmps12
  go_wp2_with (go_at_call 17; refine (isClient_y _ _ h1 h2).mono ?_; rintro e w' ⟨rfl, rfl⟩)
  go_ret2
  exact ⟨rfl, rfl⟩
set_option maxHeartbeats 400000 in
theorem base_n (c : Int) (w : World) (h : ¬ (1 ≤ c ∧ c ≤ 8)) :
    Calls Try.prog 12 #[.int .i64 c] w (Ret (.tuple #[.int .u32 0, .bool false]) w) := by
  have H := Lib.hid h
  clear h
  go_enter Try.func12, Try.ntmps12
  go_wp2_with (go_at_call 17; refine (isClient_n _ _ H.out).mono ?_; rintro e w' ⟨rfl, rfl⟩)
  go_ret2
  exact ⟨rfl, rfl⟩
/-- whose an id is; below 0: nobody's -/
def cl (n : Int) : Int := if n = 1 then 0 else if n % 1048576 = 0 ∨ n / 1048576 < 1 ∨ 8 < n / 1048576 then -1 else n / 1048576
theorem cl_one : cl 1 = 0 := rfl
theorem cl_cases (n : Int) (h0 : 0 ≤ n) : (n = 1 ∧ cl n = 0) ∨ ((n == 1) = false ∧ (n % 1048576 == 0) = true ∧ cl n = -1)
    ∨ ((n == 1) = false ∧ (n % 1048576 == 0) = false ∧ ¬ (1 ≤ n / 1048576 ∧ n / 1048576 ≤ 8) ∧ cl n = -1)
    ∨ ((n == 1) = false ∧ (n % 1048576 == 0) = false ∧ 1 ≤ n / 1048576 ∧ n / 1048576 ≤ 8 ∧ cl n = n / 1048576) := by
  by_cases h1 : n = 1
  · exact .inl ⟨h1, by rw [h1]; rfl⟩
  · by_cases h2 : n % 1048576 = 0
    · exact .inr (.inl ⟨by simp [h1], by simp [h2], by rw [cl, if_neg h1, if_pos (.inl h2)]⟩)
    · by_cases h3 : 1 ≤ n / 1048576 ∧ n / 1048576 ≤ 8
      · exact .inr (.inr (.inr ⟨by simp [h1], by simp [h2], h3.1, h3.2, by rw [cl, if_neg h1, if_neg (by omega)]⟩))
      · exact .inr (.inr (.inl ⟨by simp [h1], by simp [h2], h3, by rw [cl, if_neg h1, if_pos (by omega)]⟩))
set_option maxHeartbeats 400000 in
theorem client_any (n : Int) (w : World) (h0 : 0 ≤ n) (h1 : n < 4294967296) :
    Calls Try.prog 13 #[.int .u32 n] w (Ret (.tuple (if cl n < 0 then #[.int .i64 0, .bool false] else #[.int .i64 (cl n), .bool true])) w) := by
  rcases cl_cases n h0 with ⟨rfl, hc⟩ | ⟨a1, a2, hc⟩ | ⟨a1, a2, a3, hc⟩ | ⟨a1, a2, a3, a4, hc⟩
  · clear hc
    go_enter Try.func13, Try.ntmps13
    go_wp2_with fail
    go_ret2
    exact ⟨rfl, rfl⟩
  · rw [hc]; clear hc
    go_enter Try.func13, Try.ntmps13
    go_wp2_with fail
    go_ret2
    exact ⟨rfl, rfl⟩
  · rw [hc]; clear hc
    have A3 := Lib.hid a3
    clear a3
    go_enter Try.func13, Try.ntmps13
    go_wp2_with (go_at_call 17; refine (isClient_n _ _ A3.out).mono ?_; rintro e w' ⟨rfl, rfl⟩)
    go_ret2
    exact ⟨rfl, rfl⟩
  · rw [hc, if_neg (by omega)]; clear hc
    go_enter Try.func13, Try.ntmps13
    go_wp2_with (go_at_call 17; refine (isClient_y _ _ a3 a4).mono ?_; rintro e w' ⟨rfl, rfl⟩)
    go_ret2
    exact ⟨rfl, rfl⟩
set_option maxHeartbeats 400000 in
theorem refClient_any (n : Int) (w : World) (h0 : 0 ≤ n) (h1 : n < 4294967296) :
    Calls Try.prog 14 #[.int .u32 n] w (Ret (.int .i64 (cl n)) w) := by
  rcases cl_cases n h0 with ⟨rfl, hc⟩ | ⟨a1, a2, hc⟩ | ⟨a1, a2, a3, hc⟩ | ⟨a1, a2, a3, a4, hc⟩
  · clear hc
    go_enter Try.func14, Try.ntmps14
    go_wp2_with fail
    go_ret
    exact ⟨rfl, rfl⟩
  all_goals
    rw [hc]; clear hc
    by_cases b1 : n / 1048576 < 1
    all_goals by_cases b2 : 8 < n / 1048576
    all_goals try (exfalso; omega)
  all_goals
      go_enter Try.func14, Try.ntmps14
      go_wp2_with fail
      go_ret
      exact ⟨rfl, rfl⟩
end Go.Proofs.Ytnkiljopbilknaa
