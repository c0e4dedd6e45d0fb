import Derived.Test.YtnkiljopbilknaaWa
set_option linter.unusedVariables false
namespace Go.Proofs.Ytnkiljopbilknaa
open Go.RowKit Go.Gz
/-- the least id behind base that is none of xs; 0: there is none -/
def IsFresh (base : Int) (xs : List Int) (r : Int) : Prop :=
  (∃ i : Int, 1 ≤ i ∧ i < 1048576 ∧ r = base + i ∧ base + i ∉ xs ∧ ∀ j : Int, 1 ≤ j → j < i → base + j ∈ xs) ∨ (r = 0 ∧ ∀ j : Int, 1 ≤ j → j < 1048576 → base + j ∈ xs)
def FreshR (base : Int) (xs : List Int) (w : World) (e : Ending) (w' : World) : Prop :=
  ∃ r, IsFresh base xs r ∧ e = .returned (.tuple #[.int .u32 r, .bool (decide (r ≠ 0))]) ∧ Below w.heap.size w w'
def RefFreshR (base : Int) (xs : List Int) (w : World) (e : Ending) (w' : World) : Prop := ∃ r, IsFresh base xs r ∧ Ret (.int .u32 r) w e w'
def ids (xs : List Int) : List Value := xs.map (Value.int .u32)
def marks (xs : List Int) : List (Int × Bool) := xs.foldl (fun m x => mset m x true) []
theorem mget_marks (xs : List Int) (a : Int) : mget (marks xs) a = if a ∈ xs then some true else none := by
  have : ∀ (xs : List Int) (m : List (Int × Bool)), mget (xs.foldl (fun m x => mset m x true) m) a = if a ∈ xs then some true else mget m a := by
    intro xs
    induction xs with
    | nil => intro m; simp
    | cons x r ih =>
      intro m
      rw [List.foldl_cons, ih, mget_mset]
      by_cases h : a ∈ r
      · simp [h]
      · by_cases e : x = a
        · subst e; simp
        · simp [h, e, Ne.symm e]
  exact this xs []
theorem marks_snoc (xs : List Int) (k : Nat) (h : k < xs.length) : marks (xs.take (k + 1)) = mset (marks (xs.take k)) xs[k] true := by
  rw [List.take_succ_eq_append_getElem h]; unfold marks; rw [List.foldl_append]; rfl
theorem mem_take_succ (xs : List Int) (m : Nat) (h : m < xs.length) (x : Int) : (x ∈ xs.take (m + 1)) ↔ (x ∈ xs.take m ∨ xs[m] = x) := by
  rw [List.take_succ_eq_append_getElem h, List.mem_append, List.mem_singleton]
  constructor <;> (rintro (h | h); exact .inl h; exact .inr h.symm)
theorem dec_step (xs : List Int) (m : Nat) (h : m < xs.length) (x : Int) (hin : x ∉ xs.take m) : decide (x ∉ xs.take (m + 1)) = (xs[m] != x) := by
  by_cases e : xs[m] = x <;> simp [mem_take_succ xs m h, hin, e]
theorem zeroB (w : World) : (zeroValue 4).run Try.prog w = .ok (.bool false) w := by kernel_rfl
theorem lawU : KeyT Try.prog 25 (Value.int .u32) := key_int Try.underlying25
set_option maxHeartbeats 1000000 in
theorem fresh_y (c : Int) (a : Option Addr) (xs : List Int) (cap : Nat) (w : World) (h1 : 1 ≤ c) (h2 : c ≤ 8) (hn : xs.length ≤ 4611686018427387904) (hs : Sl w (.slice a xs.length cap) xs.length (ids xs)) :
    Calls Try.prog 10 #[.int .i64 c, .slice a xs.length cap] w (FreshR (c * 1048576) xs w) := by
  have hmm := @run_makeMap_hint Try.prog 43 25 4 Try.underlying43
  go_enter Try.func10, Try.ntmps10
  go_wp2_with (go_at_call 12; refine (base_y _ _ h1 h2).mono ?_; rintro e w' ⟨rfl, rfl⟩)
  go_loopw [24] (fun i wr => ∃ k : Nat, k ≤ xs.length ∧ i = .int .i64 k ∧ MapAt (Value.int .u32) Value.bool wr w.heap.size (marks (xs.take k)) ∧ Below w.heap.size w wr) (fun i _ => xs.length - (intOf i).toNat)
  case atStart => exact ⟨0, Nat.zero_le _, rfl, MapAt.made _ _ _, (Below.refl _ _).alloc (Nat.le_refl _) _⟩
  case round =>
    obtain ⟨k, hk, rfl, hm, hb⟩ := hrel
    by_cases hlt : k < xs.length
    · obtain ⟨b, off, rfl, hbl, hc⟩ := hs.at (by simpa [ids] using Nat.lt_of_le_of_lt (Nat.zero_le _) hlt)
      have hcell : wr.cell? ⟨b, off + k, none⟩ = some (.int .u32 xs[k]) := by
        rw [hb.cell (p := ⟨b, off + k, none⟩) hbl, hc k (by simpa [ids] using hlt)]; simp [ids, hlt]
      have HN := Lib.hid (marks_snoc xs k hlt)
      clear hc
      go_wp2_with (at_mapUpdate; refine wp_update rfl _ _ _ rfl Try.underlying43 lawU rfl hm xs[k] true rfl rfl ?_; intro w1 hm1 hg1)
      rw [← HN.out] at hm1
      exact ⟨⟨k + 1, hlt, by go_num, hm1, hb.grown hg1 hb.size (by simp)⟩, by simp [intOf]; omega⟩
    · obtain rfl : k = xs.length := by omega
      rw [List.take_length] at hm
      clear hlt hs
      go_wp2_with fail
      go_loopw [11] (fun i wr2 => wr2 = wr ∧ ∃ k : Int, 1 ≤ k ∧ k ≤ 1048576 ∧ i = .int .u32 k ∧ ∀ j : Int, 1 ≤ j → j < k → c * 1048576 + j ∈ xs) (fun i _ => (1048576 - intOf i).toNat)
      case atStart => exact ⟨rfl, 1, by omega, by omega, rfl, fun j _ _ => by omega⟩
      case round =>
        obtain ⟨rfl, k, hk1, hk2, rfl, hall⟩ := hrel
        by_cases hlt : k < 1048576
        · have hg := mget_marks xs (c * 1048576 + k)
          by_cases hin : c * 1048576 + k ∈ xs
          · rw [if_pos hin] at hg
            have HG := Lib.hid hg
            have HA := Lib.hid hall
            have HI := Lib.hid hin
            clear hg hall hin
            go_wp2_with (at_lookup; refine wp_lookup rfl _ _ rfl Try.underlying43 lawU rfl hm (zeroB _) (c * 1048576 + k) rfl ?_; rw [HG.out]; simp only [Option.map_some, Option.getD_some])
            exact ⟨⟨trivial, k + 1, by omega, by omega, rfl, fun j a b => if e : j = k then e ▸ HI.out else HA.out j a (by omega)⟩, by simp only [intOf]; omega⟩
          · rw [if_neg hin] at hg
            have HG := Lib.hid hg
            have HA := Lib.hid hall
            have HI := Lib.hid hin
            clear hg hall hin
            go_wp2_with (at_lookup; refine wp_lookup rfl _ _ rfl Try.underlying43 lawU rfl hm (zeroB _) (c * 1048576 + k) rfl ?_; rw [HG.out]; simp only [Option.map_none, Option.getD_none])
            go_ret2
            exact ⟨c * 1048576 + k, .inl ⟨k, hk1, hlt, rfl, HI.out, HA.out⟩, by simp; omega, hb⟩
        · have HA := Lib.hid hall
          clear hall
          go_wp2_with fail
          go_ret2
          exact ⟨0, .inr ⟨rfl, fun j a b => HA.out j a (by omega)⟩, rfl, hb⟩
set_option maxHeartbeats 1000000 in
theorem fresh_n (c : Int) (v : Value) (w : World) (h : ¬ (1 ≤ c ∧ c ≤ 8)) : Calls Try.prog 10 #[.int .i64 c, v] w (Ret (.tuple #[.int .u32 0, .bool false]) w) := by
  have H := Lib.hid h
  clear h
  go_enter Try.func10, Try.ntmps10
  go_wp2_with (go_at_call 12; refine (base_n _ _ H.out).mono ?_; rintro e w' ⟨rfl, rfl⟩)
  go_ret2
  exact ⟨rfl, rfl⟩
set_option maxHeartbeats 1000000 in
theorem refFresh_y (c : Int) (a : Option Addr) (xs : List Int) (cap : Nat) (w : World) (h1 : 1 ≤ c) (h2 : c ≤ 8) (hn : xs.length ≤ 4611686018427387904) (hs : Sl w (.slice a xs.length cap) xs.length (ids xs)) :
    Calls Try.prog 11 #[.int .i64 c, .slice a xs.length cap] w (RefFreshR (c * 1048576) xs w) := by
  go_enter Try.func11, Try.ntmps11
  go_wp2_with fail
  go_loop [5] (fun i => ∃ k : Int, 1 ≤ k ∧ k ≤ 1048576 ∧ i = .int .i64 k ∧ ∀ j : Int, 1 ≤ j → j < k → c * 1048576 + j ∈ xs) (fun i => (1048576 - intOf i).toNat)
  case atStart => exact ⟨1, by omega, by omega, rfl, fun j _ _ => by omega⟩
  case round =>
    obtain ⟨k, hk1, hk2, rfl, hall⟩ := hrel
    have HA := Lib.hid hall
    clear hall
    by_cases hlt : k < 1048576
    · go_wp2_with fail
      go_loop [7, 8] (fun f i => ∃ m : Nat, m ≤ xs.length ∧ i = .int .i64 m ∧ f = .bool (decide (c * 1048576 + k ∉ xs.take m))) (fun _ i => xs.length - (intOf i).toNat)
      case atStart => exact ⟨0, by omega, rfl, rfl⟩
      case round =>
        obtain ⟨m, hm, rfl, rfl⟩ := hrel
        by_cases hml : m < xs.length
        · obtain ⟨b, off, rfl, hbl, hc⟩ := hs.at (by simpa [ids] using Nat.lt_of_le_of_lt (Nat.zero_le _) hml)
          have hcell : w.cell? ⟨b, off + m, none⟩ = some (.int .u32 xs[m]) := by
            rw [hc m (by simpa [ids] using hml)]; simp [ids, hml]
          clear hc
          have HT := Lib.hid (mem_take_succ xs m hml)
          by_cases hin : c * 1048576 + k ∈ xs.take m
          · have hd : decide (c * 1048576 + k ∉ xs.take m) = false := by simp [hin]
            have h2 : decide (c * 1048576 + k ∉ xs.take (m + 1)) = false := by simp [HT.out, hin]
            have H2 := Lib.hid h2
            rw [hd]
            clear hin hd h2
            go_wp2_with fail
            exact ⟨⟨m + 1, hml, by go_num, by rw [H2.out]⟩, by simp only [intOf]; omega⟩
          · have hd : decide (c * 1048576 + k ∉ xs.take m) = true := by simp [hin]
            have h2 : decide (c * 1048576 + k ∉ xs.take (m + 1)) = (xs[m] != c * 1048576 + k) := by exact dec_step xs m hml _ hin
            have H2 := Lib.hid h2
            rw [hd]
            clear hin hd h2
            go_wp2_with fail
            exact ⟨⟨m + 1, hml, by go_num, by rw [H2.out]⟩, by simp only [intOf]; omega⟩
        · obtain rfl : m = xs.length := by omega
          rw [List.take_length]
          clear hml
          by_cases hin : c * 1048576 + k ∈ xs
          · have hd : decide (c * 1048576 + k ∉ xs) = false := by simp [hin]
            have HI := Lib.hid hin
            rw [hd]
            clear hin hd
            go_wp2_with fail
            exact ⟨⟨k + 1, by omega, by omega, rfl, fun j a b => if e : j = k then e ▸ HI.out else HA.out j a (by omega)⟩, by simp only [intOf]; omega⟩
          · have hd : decide (c * 1048576 + k ∉ xs) = true := by simp [hin]
            have HI := Lib.hid hin
            rw [hd]
            clear hin hd
            go_wp2_with fail
            go_ret
            exact ⟨c * 1048576 + k, .inl ⟨k, hk1, hlt, rfl, HI.out, HA.out⟩, rfl, rfl⟩
    · go_wp2_with fail
      go_ret
      exact ⟨0, .inr ⟨rfl, fun j a b => HA.out j a (by omega)⟩, rfl, rfl⟩
end Go.Proofs.Ytnkiljopbilknaa
