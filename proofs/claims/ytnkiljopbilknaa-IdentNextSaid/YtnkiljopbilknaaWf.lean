import Derived.Test.YtnkiljopbilknaaWe
set_option linter.unusedVariables false
namespace Go.Proofs.Ytnkiljopbilknaa
open Go.RowKit Go.Gz
theorem fresh_v (c : Int) (v : Value) (n : Nat) (xs : List Int) (w : World) (h1 : 1 ≤ c) (h2 : c ≤ 8) (hl : xs.length = n) (hn : n ≤ 4611686018427387904) (hs : Sl w v n (ids xs)) :
    Calls Try.prog 10 #[.int .i64 c, v] w (FreshR (c * 1048576) xs w) := by
  obtain ⟨a, cap, rfl⟩ := hs.shape
  subst hl
  exact fresh_y c a xs cap w h1 h2 hn hs
theorem elemU : ElemT Try.prog 22 25 1 4 := ElemT.of (z := .int .u32 0) Try.underlying22 (by kernel_rfl) rfl (by omega)
theorem ids_one (xs : List Int) : ∀ u ∈ ids xs, u.oneCell' = true := by
  intro u hu
  obtain ⟨x, _, rfl⟩ := List.mem_map.1 hu
  rfl
theorem ids_append (xs ys : List Int) : ids xs ++ ids ys = ids (xs ++ ys) := by simp [ids]
theorem ids_length (xs : List Int) : (ids xs).length = xs.length := by simp [ids]
/-- the first ids behind base, turned -/
def turned (base : Int) (k t : Nat) (n : Nat) : List Int := (List.range n).map fun i : Nat => base + 1 + ((i : Int) + t) % k
theorem turned_succ (base : Int) (k t n : Nat) : turned base k t (n + 1) = turned base k t n ++ [base + 1 + ((n : Int) + t) % k] := by simp [turned, List.range_succ]
theorem turned_length (base : Int) (k t n : Nat) : (turned base k t n).length = n := by simp [turned]
theorem mem_turned (base : Int) (k t : Nat) (j : Int) : base + j ∈ turned base k t k ↔ 1 ≤ j ∧ j ≤ k := by
  constructor
  · intro h
    obtain ⟨i, hi, e⟩ := List.mem_map.1 h
    have hi := List.mem_range.1 hi
    have h1 := Int.emod_nonneg ((i : Int) + t) (b := k) (by omega)
    have h2 := Int.emod_lt_of_pos ((i : Int) + t) (b := k) (by omega)
    omega
  · rintro ⟨h1, h2⟩
    have a1 := Int.emod_nonneg (j - 1 - t) (b := k) (by omega)
    have a2 := Int.emod_lt_of_pos (j - 1 - t) (b := k) (by omega)
    refine List.mem_map.2 ⟨((j - 1 - t) % k).toNat, List.mem_range.2 (by omega), ?_⟩
    have e : ((((j - 1 - t) % k).toNat : Nat) : Int) = (j - 1 - t) % k := Int.toNat_of_nonneg a1
    rw [e, Int.emod_add_emod, show j - 1 - (t : Int) + t = j - 1 by omega, Int.emod_eq_of_lt (by omega) (by omega)]
    omega
theorem turned_fresh (base : Int) (k t : Nat) (hk : k ≤ 100) (r : Int) (h : IsFresh base (turned base k t k) r) : r = base + k + 1 := by
  have me := mem_turned base k t
  rcases h with ⟨i, h1, h2, rfl, h4, h5⟩ | ⟨_, h⟩
  · rw [me] at h4
    by_cases e : i ≤ k
    · omega
    · by_cases e2 : i = k + 1
      · omega
      · have := (me _).1 (h5 (k + 1) (by omega) (by omega)); omega
  · have := (me _).1 (h (k + 1) (by omega) (by omega)); omega
set_option maxRecDepth 100000 in
set_option maxHeartbeats 1000000 in
theorem lawFull (a b t : Int) (w : World) (a0 : 0 ≤ a) (b0 : 0 ≤ b) (t0 : 0 ≤ t) (t1 : t < 256) (a1 : a < 256) (b1 : b < 256) :
    Calls Try.prog 4 #[.int .u8 a, .int .u8 b, .int .u8 t] w (RetB (.bool true) w) := by
  obtain ⟨t, rfl⟩ := Int.eq_ofNat_of_zero_le t0
  obtain ⟨k, hk⟩ := Int.eq_ofNat_of_zero_le (show 0 ≤ b % 101 by omega)
  obtain ⟨c, hc⟩ := Int.eq_ofNat_of_zero_le (show 0 ≤ a % 8 by omega)
  have hk1 : k ≤ 100 := by omega
  have hc1 : c ≤ 7 := by omega
  have hR := Lib.hid (turned_fresh ((1 + c) * 1048576) k t hk1)
  go_enter Try.func4, Try.ntmps4
  go_wp2_with (go_at_call 12; refine (base_y _ _ (by omega) (by omega)).mono ?_; rintro e w' ⟨rfl, rfl⟩)
  go_loopw [11, 28] (fun v i wr => ∃ n : Nat, n ≤ k ∧ i = .int .i64 n ∧ wr.ownsRow w.heap.size 25 1 v n (ids (turned ((1 + c) * 1048576) k t n)) ∧ Below w.heap.size w wr) (fun _ i _ => k - (intOf i).toNat)
  case atStart => exact ⟨0, by omega, rfl, World.ownsRow_nil _ _ _ _, Below.refl _ _⟩
  case round =>
    obtain ⟨n, hn, rfl, hown, hb⟩ := hrel
    by_cases hlt : n < k
    · have m1 := Int.emod_nonneg ((n : Int) + t) (b := k) (by omega)
      have m2 := Int.emod_lt_of_pos ((n : Int) + t) (b := k) (by omega)
      have HS := Lib.hid (turned_succ ((1 + c) * 1048576) k t n)
      have hsz := hb.size
      go_wp2_with (at_builtin; refine wp_append elemU w.heap.size rfl _ _ rfl rfl (hown.alloc _) rfl (Sl.made wr (ids [(1 + (c : Int)) * 1048576 + 1 + ((n : Int) + t) % k]) 1 1 25) rfl (ids_one _) (by omega) (by simp; omega) ?_; intro v1 w1 hown1 hg1)
      rw [ids_append, ← HS.out] at hown1
      exact ⟨⟨n + 1, hlt, by go_num, hown1, (hb.alloc hsz _).trans hg1⟩, by simp only [intOf]; omega⟩
    · obtain rfl : n = k := by omega
      have hS := sl_of_own hown
      have HF : Hid (Calls Try.prog 10 #[.int .i64 (1 + c), u11] wr (RetB (.tuple #[.int .u32 ((1 + (c : Int)) * 1048576 + n + 1), .bool true]) wr)) := (fresh_v (1 + c) _ n _ _ (by omega) (by omega) (turned_length _ _ _ _) (by omega) hS).mono (by
        rintro e w1 ⟨r, hr, rfl, hb1⟩
        obtain rfl := hR.out r hr
        exact ⟨by rw [decide_eq_true (by omega)], hb1⟩)
      go_wp2_with (first | (go_at_call 10; refine HF.out.mono ?_; rintro e w1 ⟨rfl, hb1⟩) | (go_at_call 9; refine (awake_any _).mono ?_; rintro e w' ⟨rfl, hb2⟩))
      go_ret
      exact ⟨rfl, hb.trans ((hb1.mono hb.size).trans (hb2.mono (Nat.le_trans hb.size hb1.size)))⟩
end Go.Proofs.Ytnkiljopbilknaa
