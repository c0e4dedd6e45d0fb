import Derived.Test.YtnkiljopbilknaaWc
set_option linter.unusedVariables false
namespace Go.Proofs.Ytnkiljopbilknaa
open Go.RowKit Go.Gz
def mineB (c n : Int) : Bool := decide (0 < cl n ∧ cl n = c)
theorem cl_le (n : Int) (h0 : 0 ≤ n) : -1 ≤ cl n ∧ cl n ≤ 8 := by
  rcases cl_cases n h0 with ⟨rfl, hc⟩ | ⟨a1, a2, hc⟩ | ⟨a1, a2, a3, hc⟩ | ⟨a1, a2, a3, a4, hc⟩ <;> rw [hc] <;> omega
theorem client_y (n : Int) (w : World) (h0 : 0 ≤ n) (h1 : n < 4294967296) (h : 0 ≤ cl n) : Calls Try.prog 13 #[.int .u32 n] w (Ret (.tuple #[.int .i64 (cl n), .bool true]) w) := by
  have := client_any n w h0 h1; rwa [if_neg (by omega)] at this
theorem client_n (n : Int) (w : World) (h0 : 0 ≤ n) (h1 : n < 4294967296) (h : ¬ 0 ≤ cl n) : Calls Try.prog 13 #[.int .u32 n] w (Ret (.tuple #[.int .i64 0, .bool false]) w) := by
  have := client_any n w h0 h1; rwa [if_pos (by omega)] at this
set_option maxHeartbeats 1000000 in
theorem mine_any (c n : Int) (w : World) (h0 : 0 ≤ n) (h1 : n < 4294967296) :
    Calls Try.prog 16 #[.int .i64 c, .int .u32 n] w (Ret (.bool (mineB c n)) w) := by
  by_cases hp : 0 ≤ cl n
  · have hcl := client_y n w h0 h1 hp
    have HC := Lib.hid hcl
    by_cases hz : cl n = 0
    · have e : mineB c n = false := by simp [mineB, hz]
      rw [hz] at HC
      rw [e]
      clear hcl hp hz e
      go_enter Try.func16, Try.ntmps16
      go_wp2_with (go_at_call 13; refine HC.out.mono ?_; rintro e w' ⟨rfl, rfl⟩)
      go_ret
      exact ⟨rfl, rfl⟩
    · have e : mineB c n = (cl n == c) := by unfold mineB; by_cases e : cl n = c <;> simp [e]; omega
      have b : (cl n != 0) = true := by simp [hz]
      rw [e]
      clear hcl hz e
      generalize cl n = m at *
      go_enter Try.func16, Try.ntmps16
      go_wp2_with (go_at_call 13; refine HC.out.mono ?_; rintro e w' ⟨rfl, rfl⟩)
      go_ret
      exact ⟨rfl, rfl⟩
  · have HC := Lib.hid (client_n n w h0 h1 hp)
    have e : mineB c n = false := by simp [mineB]; omega
    rw [e]
    clear hp e
    go_enter Try.func16, Try.ntmps16
    go_wp2_with (go_at_call 13; refine HC.out.mono ?_; rintro e w' ⟨rfl, rfl⟩)
    go_ret
    exact ⟨rfl, rfl⟩
def check (n : Int) : Int := if n = 0 then 6 else if 0 ≤ cl n then 0 else 1
set_option maxHeartbeats 1000000 in
theorem check_any (n : Int) (w : World) (h0 : 0 ≤ n) (h1 : n < 4294967296) :
    Calls Try.prog 15 #[.int .u32 n] w (Ret (.int .i64 (check n)) w) := by
  by_cases hz : n = 0
  · subst hz
    have e : check 0 = 6 := rfl
    rw [e]
    go_enter Try.func15, Try.ntmps15
    go_wp2_with fail
    go_ret
    exact ⟨rfl, rfl⟩
  · have b : (n == 0) = false := by simp [hz]
    by_cases hp : 0 ≤ cl n
    · have HC := Lib.hid (client_y n w h0 h1 hp)
      have e : check n = 0 := by rw [check, if_neg hz, if_pos hp]
      rw [e]; clear e hp hz
      go_enter Try.func15, Try.ntmps15
      go_wp2_with (go_at_call 13; refine HC.out.mono ?_; rintro e w' ⟨rfl, rfl⟩)
      go_ret
      exact ⟨rfl, rfl⟩
    · have HC := Lib.hid (client_n n w h0 h1 hp)
      have e : check n = 1 := by rw [check, if_neg hz, if_neg hp]
      rw [e]; clear e hp hz
      go_enter Try.func15, Try.ntmps15
      go_wp2_with (go_at_call 13; refine HC.out.mono ?_; rintro e w' ⟨rfl, rfl⟩)
      go_ret
      exact ⟨rfl, rfl⟩
theorem awake_fresh (r : Int) (h : IsFresh 2097152 [2097153, 2097155] r) : r = 2097154 := by
  rcases h with ⟨i, h1, h2, rfl, h4, h5⟩ | ⟨_, h⟩
  · have a := h5 2 (by omega)
    simp only [List.mem_cons, List.not_mem_nil, or_false] at a h4
    by_cases e : 2 < i
    · have := a e; omega
    · omega
  · have := h 2 (by omega) (by omega)
    simp at this
theorem awake_call (w : World) : Calls Try.prog 10 #[.int .i64 2, .slice (some ⟨w.heap.size, 0, none⟩) 2 2] (w.alloc (.cells #[.int .u32 2097153, .int .u32 2097155] 25))
    fun e w' => e = .returned (.tuple #[.int .u32 2097154, .bool true]) ∧ Below w.heap.size w w' := by
  refine (fresh_y 2 (some ⟨w.heap.size, 0, none⟩) [2097153, 2097155] 2 _ (by omega) (by omega) (by simp) (Sl.made w (ids [2097153, 2097155]) 2 2 25)).mono ?_
  rintro e w' ⟨r, hr, rfl, hb⟩
  obtain rfl := awake_fresh r hr
  exact ⟨rfl, ((Below.refl _ _).alloc (Nat.le_refl _) _).trans (hb.mono (by simp))⟩
set_option maxHeartbeats 2000000 in
theorem awake_any (w : World) : Calls Try.prog 9 #[] w (RetB (.bool true) w) := by
  go_enter Try.func9, Try.ntmps9
  go_wp2_with (first | (go_at_call 12; refine (base_y _ _ (by omega) (by omega)).mono ?_; rintro e w' ⟨rfl, rfl⟩) | (go_at_call 10; refine (awake_call w).mono ?_; rintro e w' ⟨rfl, hb⟩) | (go_at_call 13; refine (client_any _ _ (by omega) (by omega)).mono ?_; rintro e w' ⟨rfl, rfl⟩) | (go_at_call 15; refine (check_any _ _ (by omega) (by omega)).mono ?_; rintro e w' ⟨rfl, rfl⟩))
  go_ret
  exact ⟨rfl, hb⟩
end Go.Proofs.Ytnkiljopbilknaa
