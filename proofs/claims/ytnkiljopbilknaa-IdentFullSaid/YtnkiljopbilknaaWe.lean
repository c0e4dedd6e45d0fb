import Derived.Test.YtnkiljopbilknaaWd
set_option linter.unusedVariables false
namespace Go.Proofs.Ytnkiljopbilknaa
open Go.RowKit Go.Gz
theorem IsFresh.uniq {b : Int} {xs : List Int} {r s : Int} (h : IsFresh b xs r) (k : IsFresh b xs s) : r = s := by
  rcases h with ⟨i, h1, h2, rfl, h4, h5⟩ | ⟨rfl, h⟩ <;> rcases k with ⟨j, k1, k2, rfl, k4, k5⟩ | ⟨rfl, k⟩
  · by_cases e : i < j
    · exact absurd (k5 i h1 e) h4
    · by_cases e2 : j < i
      · exact absurd (h5 j k1 e2) k4
      · omega
  · exact absurd (k i h1 h2) h4
  · exact absurd (h j k1 k2) k4
  · rfl
theorem refFresh_n (c : Int) (v : Value) (w : World) (h : ¬ (1 ≤ c ∧ c ≤ 8)) : Calls Try.prog 11 #[.int .i64 c, v] w (Ret (.int .u32 0) w) := by
  by_cases h1 : c < 1
  · clear h
    go_enter Try.func11, Try.ntmps11
    go_wp2_with fail
    go_ret
    exact ⟨rfl, rfl⟩
  · have h2 : 8 < c := by omega
    clear h
    go_enter Try.func11, Try.ntmps11
    go_wp2_with fail
    go_ret
    exact ⟨rfl, rfl⟩
set_option maxHeartbeats 1000000 in
theorem lawFresh (c : Int) (a : Option Addr) (xs : List Int) (cap : Nat) (w : World) (hs : Sl w (.slice a xs.length cap) xs.length (ids xs)) :
    Calls Try.prog 3 #[.int .i64 c, .slice a xs.length cap] w (RetB (.bool true) w) := by
  by_cases hl : 200 < xs.length
  · go_enter Try.func3, Try.ntmps3
    go_wp2_with (go_at_call 9; refine (awake_any _).mono ?_; rintro e w' ⟨rfl, hb⟩)
    go_ret
    exact ⟨rfl, hb⟩
  · have hn : xs.length ≤ 4611686018427387904 := by omega
    by_cases hc : 1 ≤ c ∧ c ≤ 8
    · obtain ⟨h1, h2⟩ := hc
      go_enter Try.func3, Try.ntmps3
      go_wp2_with (go_at_call 10; refine (fresh_y c a xs cap _ h1 h2 hn hs).mono ?_; rintro e w1 ⟨r, hr, rfl, hb⟩)
      refine (refFresh_y c a xs cap _ h1 h2 hn (hs.below hb)).mono ?_
      rintro e w2 ⟨r', hr', rfl, rfl⟩
      obtain rfl := IsFresh.uniq hr hr'
      by_cases hz : r = 0
      · subst hz
        go_wp2_with (go_at_call 9; refine (awake_any _).mono ?_; rintro e w' ⟨rfl, hb2⟩)
        go_ret
        exact ⟨rfl, hb.trans (hb2.mono hb.size)⟩
      · have e1 : (r != 0) = true := by simp [hz]
        go_wp2_with (go_at_call 9; refine (awake_any _).mono ?_; rintro e w' ⟨rfl, hb2⟩)
        go_ret
        exact ⟨rfl, hb.trans (hb2.mono hb.size)⟩
    · have H := Lib.hid hc
      clear hc
      go_enter Try.func3, Try.ntmps3
      go_wp2_with (first | (go_at_call 10; refine (fresh_n c _ _ H.out).mono ?_; rintro e w1 ⟨rfl, rfl⟩) | (go_at_call 11; refine (refFresh_n c _ _ H.out).mono ?_; rintro e w1 ⟨rfl, rfl⟩) | (go_at_call 9; refine (awake_any _).mono ?_; rintro e w' ⟨rfl, hb2⟩))
      go_ret
      exact ⟨rfl, hb2⟩
theorem mine_zero (c n : Int) (h : cl n ≤ 0) : mineB c n = false := by unfold mineB; simp; omega
theorem mine_eq (c n : Int) : mineB c n = (decide (0 < cl n) && (cl n == c)) := by
  unfold mineB; by_cases a : 0 < cl n <;> by_cases b : cl n = c <;> simp [a, b]
set_option maxHeartbeats 400000 in
theorem lawWhose1 (n c m : Int) (w : World) (hp : 0 ≤ m) (HC : Hid (Calls Try.prog 13 #[.int .u32 n] w (Ret (.tuple #[.int .i64 m, .bool true]) w))) (HR : Hid (Calls Try.prog 14 #[.int .u32 n] w (Ret (.int .i64 m) w)))
    (HK : Hid (Calls Try.prog 15 #[.int .u32 n] w (Ret (.int .i64 0) w))) (HM : Hid (Calls Try.prog 16 #[.int .i64 c, .int .u32 n] w (Ret (.bool (decide (0 < m) && (m == c))) w))) :
    Calls Try.prog 5 #[.int .u32 n, .int .i64 c] w (RetB (.bool true) w) := by
  by_cases a : 0 < m
  · by_cases b : m = c
    · subst b
      have e : (decide (0 < m) && (m == m)) = true := by simp [a]
      rw [e] at HM
      clear e
      go_enter Try.func5, Try.ntmps5
      go_wp2_with (first | (go_at_call 13; refine HC.out.mono ?_; rintro e w' ⟨rfl, rfl⟩) | (go_at_call 14; refine HR.out.mono ?_; rintro e w' ⟨rfl, rfl⟩) | (go_at_call 15; refine HK.out.mono ?_; rintro e w' ⟨rfl, rfl⟩) | (go_at_call 16; refine HM.out.mono ?_; rintro e w' ⟨rfl, rfl⟩) | (go_at_call 9; refine (awake_any _).mono ?_; rintro e w' ⟨rfl, hb2⟩))
      go_ret
      exact ⟨rfl, hb2⟩
    · have e : (decide (0 < m) && (m == c)) = false := by simp [b]
      have e1 : (m == c) = false := by simp [b]
      rw [e] at HM
      clear e b
      go_enter Try.func5, Try.ntmps5
      go_wp2_with (first | (go_at_call 13; refine HC.out.mono ?_; rintro e w' ⟨rfl, rfl⟩) | (go_at_call 14; refine HR.out.mono ?_; rintro e w' ⟨rfl, rfl⟩) | (go_at_call 15; refine HK.out.mono ?_; rintro e w' ⟨rfl, rfl⟩) | (go_at_call 16; refine HM.out.mono ?_; rintro e w' ⟨rfl, rfl⟩) | (go_at_call 9; refine (awake_any _).mono ?_; rintro e w' ⟨rfl, hb2⟩))
      go_ret
      exact ⟨rfl, hb2⟩
  · obtain rfl : m = 0 := by omega
    have e : (decide ((0 : Int) < 0) && ((0 : Int) == c)) = false := by simp
    rw [e] at HM
    clear e hp a
    go_enter Try.func5, Try.ntmps5
    go_wp2_with (first | (go_at_call 13; refine HC.out.mono ?_; rintro e w' ⟨rfl, rfl⟩) | (go_at_call 14; refine HR.out.mono ?_; rintro e w' ⟨rfl, rfl⟩) | (go_at_call 15; refine HK.out.mono ?_; rintro e w' ⟨rfl, rfl⟩) | (go_at_call 16; refine HM.out.mono ?_; rintro e w' ⟨rfl, rfl⟩) | (go_at_call 9; refine (awake_any _).mono ?_; rintro e w' ⟨rfl, hb2⟩))
    go_ret
    exact ⟨rfl, hb2⟩
set_option maxHeartbeats 400000 in
theorem lawWhose2 (n c k : Int) (w : World) (hk : (n = 0 ∧ k = 6) ∨ (¬ n = 0 ∧ k = 1)) (HC : Hid (Calls Try.prog 13 #[.int .u32 n] w (Ret (.tuple #[.int .i64 0, .bool false]) w))) (HR : Hid (Calls Try.prog 14 #[.int .u32 n] w (Ret (.int .i64 (-1)) w)))
    (HK : Hid (Calls Try.prog 15 #[.int .u32 n] w (Ret (.int .i64 k) w))) (HM : Hid (Calls Try.prog 16 #[.int .i64 c, .int .u32 n] w (Ret (.bool false) w))) :
    Calls Try.prog 5 #[.int .u32 n, .int .i64 c] w (RetB (.bool true) w) := by
  rcases hk with ⟨rfl, rfl⟩ | ⟨hz, rfl⟩
  · skip
    go_enter Try.func5, Try.ntmps5
    go_wp2_with (first | (go_at_call 13; refine HC.out.mono ?_; rintro e w' ⟨rfl, rfl⟩) | (go_at_call 14; refine HR.out.mono ?_; rintro e w' ⟨rfl, rfl⟩) | (go_at_call 15; refine HK.out.mono ?_; rintro e w' ⟨rfl, rfl⟩) | (go_at_call 16; refine HM.out.mono ?_; rintro e w' ⟨rfl, rfl⟩) | (go_at_call 9; refine (awake_any _).mono ?_; rintro e w' ⟨rfl, hb2⟩))
    go_ret
    exact ⟨rfl, hb2⟩
  · have e1 : (n == 0) = false := by simp [hz]
    have e2 : (n != 0) = true := by simp [hz]
    clear hz
    go_enter Try.func5, Try.ntmps5
    go_wp2_with (first | (go_at_call 13; refine HC.out.mono ?_; rintro e w' ⟨rfl, rfl⟩) | (go_at_call 14; refine HR.out.mono ?_; rintro e w' ⟨rfl, rfl⟩) | (go_at_call 15; refine HK.out.mono ?_; rintro e w' ⟨rfl, rfl⟩) | (go_at_call 16; refine HM.out.mono ?_; rintro e w' ⟨rfl, rfl⟩) | (go_at_call 9; refine (awake_any _).mono ?_; rintro e w' ⟨rfl, hb2⟩))
    go_ret
    exact ⟨rfl, hb2⟩
theorem lawWhose (n c : Int) (w : World) (h0 : 0 ≤ n) (h1 : n < 4294967296) :
    Calls Try.prog 5 #[.int .u32 n, .int .i64 c] w (RetB (.bool true) w) := by
  have hle := cl_le n h0
  have HR := refClient_any n w h0 h1
  have HK := check_any n w h0 h1
  have HM := mine_any c n w h0 h1
  by_cases hp : 0 ≤ cl n
  · have hz : n ≠ 0 := fun e => by subst e; revert hp; decide
    rw [check, if_neg hz, if_pos hp] at HK
    rw [mine_eq] at HM
    exact lawWhose1 n c (cl n) w hp (client_y n w h0 h1 hp) HR HK HM
  · have hm : cl n = -1 := by omega
    rw [hm] at HR
    rw [mine_zero c n (by omega)] at HM
    exact lawWhose2 n c (check n) w (by
      by_cases hz : n = 0
      · subst hz; exact .inl ⟨rfl, rfl⟩
      · exact .inr ⟨hz, by rw [check, if_neg hz, if_neg hp]⟩) (client_n n w h0 h1 hp) HR HK HM
theorem mine_base (c m : Int) (h1 : 1 ≤ c) (h2 : c ≤ 8) (h3 : 0 ≤ m) (h4 : m < 1048576) : mineB c (c * 1048576 + m) = (c * 1048576 + m != c * 1048576) := by
  rcases cl_cases (c * 1048576 + m) (by omega) with ⟨e, hc⟩ | ⟨a1, a2, hc⟩ | ⟨a1, a2, a3, hc⟩ | ⟨a1, a2, a3, a4, hc⟩
  · omega
  · have : m = 0 := by simp at a2; omega
    subst this
    rw [mine_zero _ _ (by omega)]
    simp
  · exact absurd (by omega) a3
  · have hm : m ≠ 0 := by simp at a2; omega
    have : (c * 1048576 + m) / 1048576 = c := by omega
    rw [this] at hc
    have r : (c * 1048576 + m != c * 1048576) = true := by simp; omega
    rw [r]
    simp [mineB, hc]; omega
set_option maxHeartbeats 400000 in
theorem lawBase1 (c n : Int) (w : World) (c1 : 1 ≤ c) (c2 : c ≤ 8) (h0 : 0 ≤ n) (h1 : n < 4294967296) (r : Bool) (hr : (c * 1048576 + n % 1048576 != c * 1048576) = r) :
    Calls Try.prog 6 #[.int .i64 c, .int .u32 n] w (RetB (.bool true) w) := by
  have HM0 := Lib.hid (mine_any c (c * 1048576) w (by omega) (by omega))
  have HM1 := Lib.hid (mine_any c (c * 1048576 + n % 1048576) w (by omega) (by omega))
  have m0 := mine_base c 0 c1 c2 (by omega) (by omega)
  have m1 := mine_base c (n % 1048576) c1 c2 (by omega) (by omega)
  simp only [Int.add_zero, bne_self_eq_false] at m0
  rw [m0] at HM0
  rw [m1, hr] at HM1
  clear m0 m1
  cases r
  all_goals
    go_enter Try.func6, Try.ntmps6
    go_wp2_with (first | (go_at_call 12; refine (base_y _ _ c1 c2).mono ?_; rintro e w' ⟨rfl, rfl⟩))
    refine HM0.out.mono ?_
    rintro e w' ⟨rfl, rfl⟩
    go_wp2_with fail
    refine HM1.out.mono ?_
    rintro e w' ⟨rfl, rfl⟩
    go_wp2_with (go_at_call 9; refine (awake_any _).mono ?_; rintro e w' ⟨rfl, hb2⟩)
    go_ret
    exact ⟨rfl, hb2⟩
theorem lawBase (c n : Int) (w : World) (h0 : 0 ≤ n) (h1 : n < 4294967296) :
    Calls Try.prog 6 #[.int .i64 c, .int .u32 n] w (RetB (.bool true) w) := by
  by_cases hc : 1 ≤ c ∧ c ≤ 8
  · exact lawBase1 c n w hc.1 hc.2 h0 h1 _ rfl
  · have H := Lib.hid hc
    by_cases hl : c < 1
    · clear hc
      go_enter Try.func6, Try.ntmps6
      go_wp2_with (first | (go_at_call 12; refine (base_n _ _ H.out).mono ?_; rintro e w' ⟨rfl, rfl⟩) | (go_at_call 9; refine (awake_any _).mono ?_; rintro e w' ⟨rfl, hb2⟩))
      go_ret
      exact ⟨rfl, hb2⟩
    · have hg : 8 < c := by omega
      clear hc
      go_enter Try.func6, Try.ntmps6
      go_wp2_with (first | (go_at_call 12; refine (base_n _ _ H.out).mono ?_; rintro e w' ⟨rfl, rfl⟩) | (go_at_call 9; refine (awake_any _).mono ?_; rintro e w' ⟨rfl, hb2⟩))
      go_ret
      exact ⟨rfl, hb2⟩
def cnt (m k : Int) : Int := if 0 < m ∧ m < k then 1 else 0
theorem cnt_hit (k : Int) (h : 0 < k) : cnt k k = 0 ∧ cnt k (k + 1) = 1 := ⟨if_neg (by omega), if_pos (by omega)⟩
theorem cnt_miss (m k : Int) (h : ¬ (0 < m ∧ m = k)) : cnt m (k + 1) = cnt m k := by unfold cnt; by_cases a : 0 < m ∧ m < k <;> (first | rw [if_pos a, if_pos (by omega)] | rw [if_neg a, if_neg (by omega)])
theorem cl_zero (n : Int) (h0 : 0 ≤ n) (h : cl n = 0) : n = 1 := by
  rcases cl_cases n h0 with ⟨rfl, _⟩ | ⟨a1, a2, hc⟩ | ⟨a1, a2, a3, hc⟩ | ⟨a1, a2, a3, a4, hc⟩ <;> omega
set_option maxHeartbeats 1000000 in
theorem lawOnce (n : Int) (w : World) (h0 : 0 ≤ n) (h1 : n < 4294967296) :
    Calls Try.prog 8 #[.int .u32 n] w (RetB (.bool true) w) := by
  have hcl := cl_le n h0
  have HM := Lib.hid fun k => mine_any k n w h0 h1
  have HCy := Lib.hid (client_y n w h0 h1)
  have HCn := Lib.hid (client_n n w h0 h1)
  have HZ := Lib.hid (cl_zero n h0)
  have HE := Lib.hid fun k => mine_eq k n
  have H1 : Hid (n = 1 → cl n = 0) := fun e => by rw [e]; rfl
  generalize hm : cl n = m at *
  clear hm
  go_enter Try.func8, Try.ntmps8
  go_wp2_with fail
  go_loop [3, 4] (fun x c => ∃ k : Int, -1 ≤ k ∧ k ≤ 11 ∧ c = .int .i64 k ∧ x = .int .i64 (cnt m k)) (fun _ c => (11 - intOf c).toNat)
  case atStart => exact ⟨-1, by omega, by omega, rfl, by rw [cnt, if_neg (by omega)]⟩
  case round =>
    obtain ⟨k, hk1, hk2, rfl, rfl⟩ := hrel
    by_cases hlt : k ≤ 10
    · by_cases hab : 0 < m ∧ m = k
      · obtain ⟨ha, rfl⟩ := hab
        obtain ⟨c1, c2⟩ := cnt_hit m ha
        have HC := Lib.hid (HCy.out (by omega))
        have hm := HM.out m
        rw [HE.out, show (decide (0 < m) && m == m) = true by simp [ha]] at hm
        rw [c1]
        have HM := Lib.hid hm
        have C2 := Lib.hid c2
        clear hm c1 c2
        go_wp2_with (first | (go_at_call 16; refine HM.out.mono ?_; rintro e w' ⟨rfl, rfl⟩) | (go_at_call 13; refine HC.out.mono ?_; rintro e w' ⟨rfl, rfl⟩))
        exact ⟨⟨m + 1, by omega, by omega, rfl, by rw [C2.out]⟩, by simp only [intOf]; omega⟩
      · have hm := HM.out k
        rw [HE.out, show (decide (0 < m) && m == k) = false by (by_cases a : 0 < m <;> simp [a]; omega)] at hm
        have HM := Lib.hid hm
        have C2 := Lib.hid (cnt_miss m k hab)
        clear hm hab
        go_wp2_with (first | (go_at_call 16; refine HM.out.mono ?_; rintro e w' ⟨rfl, rfl⟩))
        exact ⟨⟨k + 1, by omega, by omega, rfl, by rw [C2.out]⟩, by simp only [intOf]; omega⟩
    · obtain rfl : k = 11 := by omega
      by_cases ha : 0 ≤ m
      · have HC := Lib.hid (HCy.out ha)
        by_cases hz : m = 0
        · have := HZ.out hz
          subst this
          subst hz
          have e : cnt 0 11 = 0 := rfl
          rw [e]
          go_wp2_with (first | (go_at_call 13; refine HC.out.mono ?_; rintro e w' ⟨rfl, rfl⟩) | (go_at_call 9; refine (awake_any _).mono ?_; rintro e w' ⟨rfl, hb2⟩))
          go_ret
          exact ⟨rfl, hb2⟩
        · have e : cnt m 11 = 1 := if_pos (by omega)
          rw [e]
          have e1 : (m == 0) = false := by simp [hz]
          have e2 : (n == 1) = false := by simp; exact fun e => hz (H1.out e)
          have e3 : 0 < m := by omega
          clear e hz
          go_wp2_with (first | (go_at_call 13; refine HC.out.mono ?_; rintro e w' ⟨rfl, rfl⟩) | (go_at_call 9; refine (awake_any _).mono ?_; rintro e w' ⟨rfl, hb2⟩))
          go_ret
          exact ⟨rfl, hb2⟩
      · have HC := Lib.hid (HCn.out (by omega))
        have e : cnt m 11 = 0 := if_neg (by omega)
        have e2 : (n == 1) = false := by simp; exact fun e => by have := H1.out e; omega
        rw [e]
        clear e
        go_wp2_with (first | (go_at_call 13; refine HC.out.mono ?_; rintro e w' ⟨rfl, rfl⟩) | (go_at_call 9; refine (awake_any _).mono ?_; rintro e w' ⟨rfl, hb2⟩))
        go_ret
        exact ⟨rfl, hb2⟩
end Go.Proofs.Ytnkiljopbilknaa
