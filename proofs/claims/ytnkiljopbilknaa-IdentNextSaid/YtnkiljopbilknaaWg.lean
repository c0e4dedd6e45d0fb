import Derived.Test.YtnkiljopbilknaaWf
set_option linter.unusedVariables false
namespace Go.Proofs.Ytnkiljopbilknaa
open Go.RowKit Go.Gz
theorem pigeon (base : Int) : ∀ (n : Nat) (xs : List Int), (∀ j : Int, 1 ≤ j → j ≤ n → base + j ∈ xs) → n ≤ xs.length := by
  intro n
  induction n with
  | zero => intro xs _; omega
  | succ n ih =>
    intro xs h
    have hm := h (n + 1) (by omega) (by omega)
    have := ih (xs.erase (base + ((n : Int) + 1))) fun j h1 h2 => (List.mem_erase_of_ne (by omega)).2 (h j h1 (by omega))
    rw [List.length_erase_of_mem hm] at this
    have := List.length_pos_of_mem hm
    omega
theorem fresh_pos (base : Int) (xs : List Int) (r : Int) (hn : xs.length ≤ 1000) (h : IsFresh base xs r) :
    ∃ i : Int, 1 ≤ i ∧ i < 1048576 ∧ r = base + i ∧ base + i ∉ xs ∧ ∀ j : Int, 1 ≤ j → j < i → base + j ∈ xs := by
  rcases h with h | ⟨_, h⟩
  · exact h
  · have := pigeon base 1001 xs fun j h1 h2 => h j h1 (by omega)
    omega
/-- the ones that play a part -/
def part (c d : Int) (xs : List Int) : List Int := xs.filter fun x => mineB c x || d == c
theorem part_fresh (c d : Int) (c1 : 1 ≤ c) (c2 : c ≤ 8) (xs : List Int) (r s : Int) (h : IsFresh (c * 1048576) xs r) (k : IsFresh (c * 1048576) (part c d xs) s) : s = r := by
  refine k.uniq ?_
  have mem : ∀ j : Int, 1 ≤ j → j < 1048576 → (c * 1048576 + j ∈ part c d xs ↔ c * 1048576 + j ∈ xs) := by
    intro j h1 h2
    have : mineB c (c * 1048576 + j) = true := by rw [mine_base c j c1 c2 (by omega) h2]; simp; omega
    simp [part, this]
  rcases h with ⟨i, h1, h2, rfl, h4, h5⟩ | ⟨rfl, h⟩
  · exact .inl ⟨i, h1, h2, rfl, fun e => h4 ((mem i h1 h2).1 e), fun j a b => (mem j a (by omega)).2 (h5 j a b)⟩
  · exact .inr ⟨rfl, fun j a b => (mem j a b).2 (h j a b)⟩
theorem part_snoc_y (c d : Int) (xs : List Int) (m : Nat) (h : m < xs.length) (e : (mineB c xs[m] || d == c) = true) : part c d (xs.take (m + 1)) = part c d (xs.take m) ++ [xs[m]] := by
  rw [List.take_succ_eq_append_getElem h]; unfold part; rw [List.filter_append]; simp [e]
theorem part_snoc_n (c d : Int) (xs : List Int) (m : Nat) (h : m < xs.length) (e : (mineB c xs[m] || d == c) = false) : part c d (xs.take (m + 1)) = part c d (xs.take m) := by
  rw [List.take_succ_eq_append_getElem h]; unfold part; rw [List.filter_append]; simp [e]
theorem part_length (c d : Int) (xs : List Int) : (part c d xs).length ≤ xs.length := List.length_filter_le _ _
/-- where the round before left the last id -/
def Last (base : Int) (xs : List Int) (l : Int) : Prop := l = 0 ∨ ∃ i : Int, 1 ≤ i ∧ l = base + i ∧ ∀ j : Int, 1 ≤ j → j ≤ i → base + j ∈ xs
theorem last_lt (base : Int) (hb : 0 < base) (xs : List Int) (l i : Int) (h : Last base xs l) (h1 : 1 ≤ i) (h4 : base + i ∉ xs) : l < base + i := by
  rcases h with rfl | ⟨k, hk, rfl, h⟩
  · omega
  · by_cases e : i ≤ k
    · exact absurd (h i h1 e) h4
    · omega
theorem last_next (base : Int) (xs : List Int) (i : Int) (h1 : 1 ≤ i) (h5 : ∀ j : Int, 1 ≤ j → j < i → base + j ∈ xs) : Last base (xs ++ [base + i]) (base + i) :=
  .inr ⟨i, h1, rfl, fun j a b => by
    by_cases e : j = i
    · subst e; simp
    · exact List.mem_append_left _ (h5 j a (by omega))⟩
theorem check_mine (c i : Int) (c1 : 1 ≤ c) (c2 : c ≤ 8) (h1 : 1 ≤ i) (h2 : i < 1048576) : check (c * 1048576 + i) = 0 := by
  have hm := mine_base c i c1 c2 (by omega) h2
  have : mineB c (c * 1048576 + i) = true := by rw [hm]; simp; omega
  simp [mineB] at this
  unfold check
  rw [if_neg (by omega), if_pos (by omega)]

theorem fresh_next (c : Int) (v : Value) (n : Nat) (xs : List Int) (w : World) (c1 : 1 ≤ c) (c2 : c ≤ 8) (hl : xs.length = n) (hn : n ≤ 1000) (hs : Sl w v n (ids xs)) :
    ∃ i : Int, (1 ≤ i ∧ i < 1048576 ∧ c * 1048576 + i ∉ xs ∧ ∀ j : Int, 1 ≤ j → j < i → c * 1048576 + j ∈ xs) ∧ Calls Try.prog 10 #[.int .i64 c, v] w (RetB (.tuple #[.int .u32 (c * 1048576 + i), .bool true]) w) := by
  obtain ⟨r, hr⟩ : ∃ r, IsFresh (c * 1048576) xs r := by
    obtain ⟨e, w', fr, ⟨r, hr, _⟩, _⟩ := fresh_v c v n xs w c1 c2 hl (by omega) hs []
    exact ⟨r, hr⟩
  obtain ⟨i, h1, h2, rfl, h4, h5⟩ := fresh_pos _ _ _ (by omega) hr
  refine ⟨i, ⟨h1, h2, h4, h5⟩, (fresh_v c v n xs w c1 c2 hl (by omega) hs).mono ?_⟩
  rintro e w1 ⟨r, hr2, rfl, hb1⟩
  obtain rfl := hr2.uniq hr
  exact ⟨by rw [decide_eq_true (by omega)], hb1⟩
theorem fresh_part (c d : Int) (v : Value) (n : Nat) (xs : List Int) (i : Int) (w : World) (c1 : 1 ≤ c) (c2 : c ≤ 8) (hi : 1 ≤ i ∧ i < 1048576 ∧ c * 1048576 + i ∉ xs ∧ ∀ j : Int, 1 ≤ j → j < i → c * 1048576 + j ∈ xs) (hl : (part c d xs).length = n) (hn : n ≤ 1000) (hs : Sl w v n (ids (part c d xs))) :
    Calls Try.prog 10 #[.int .i64 c, v] w (RetB (.tuple #[.int .u32 (c * 1048576 + i), .bool true]) w) := by
  refine (fresh_v c v n _ w c1 c2 hl (by omega) hs).mono ?_
  rintro e w1 ⟨r, hr, rfl, hb1⟩
  obtain rfl := part_fresh c d c1 c2 xs _ r (.inl ⟨i, hi.1, hi.2.1, rfl, hi.2.2⟩) hr
  exact ⟨by rw [decide_eq_true (by omega)], hb1⟩
set_option maxRecDepth 100000 in
set_option maxHeartbeats 1000000 in
theorem lawNext (a t o : Int) (v : Value) (n : Nat) (xs : List Int) (w : World) (a0 : 0 ≤ a) (a1 : a < 256) (t0 : 0 ≤ t) (t1 : t < 256) (o0 : 0 ≤ o) (o1 : o < 256) (hl : xs.length = n) (hx : ∀ x ∈ xs, 0 ≤ x ∧ x < 4294967296) (hs : Sl w v n (ids xs)) :
    Calls Try.prog 7 #[.int .u8 a, v, .int .u8 t, .int .u8 o] w (RetB (.bool true) w) := by
  obtain ⟨ad, cap, rfl⟩ := hs.shape
  by_cases hlen : 100 < n
  · go_enter Try.func7, Try.ntmps7
    go_wp2_with (go_at_call 9; refine (awake_any _).mono ?_; rintro e w' ⟨rfl, hb⟩)
    go_ret
    exact ⟨rfl, hb⟩
  · obtain ⟨k, hk⟩ := Int.eq_ofNat_of_zero_le (show 0 ≤ t % 51 by omega)
    obtain ⟨c, hc⟩ := Int.eq_ofNat_of_zero_le (show 0 ≤ a % 8 by omega)
    obtain ⟨d, hd⟩ := Int.eq_ofNat_of_zero_le (show 0 ≤ o % 8 by omega)
    have hk1 : k ≤ 50 := by omega
    have hc1 : c ≤ 7 := by omega
    have hd1 : d ≤ 7 := by omega
    have HX := Lib.hid hx
    clear hx
    go_enter Try.func7, Try.ntmps7
    go_wp2_with (at_builtin; refine wp_append elemU w.heap.size rfl _ _ rfl rfl (World.ownsRow_made w #[] 0 (Nat.le_refl _) (by simp) rfl) rfl (hs.below ((Below.refl _ _).alloc (Nat.le_refl _) _)) (by simp [ids_length, hl]) (ids_one _) (by omega) (by simp) ?_; intro v1 w1 hown1 hg1)
    simp only [Nat.zero_add, List.nil_append] at hown1
    have hb1 : Below w.heap.size w w1 := ((Below.refl _ _).alloc (Nat.le_refl _) _).trans hg1
    clear hg1
    rw [hk]
    go_loopw [11, 12, 38] (fun v l i wr => ∃ (m : Nat) (ys : List Int) (la : Int), m ≤ k ∧ i = .int .i64 m ∧ ys.length = n + m ∧ l = .int .u32 la ∧ 0 ≤ la ∧ Last ((1 + (c : Int)) * 1048576) ys la ∧ (∀ x ∈ ys, 0 ≤ x ∧ x < 4294967296) ∧ wr.ownsRow w.heap.size 25 1 v (n + m) (ids ys) ∧ Below w.heap.size w wr) (fun _ _ i _ => k - (intOf i).toNat)
    case atStart => exact ⟨0, xs, 0, by omega, rfl, hl, rfl, by omega, .inl rfl, HX.out, hown1, hb1⟩
    case round =>
      obtain ⟨m, ys, la, hm, rfl, hly, rfl, hla0, hla, hy, hown, hb⟩ := hrel
      clear hb1 hown1
      by_cases hlt : m < k
      · have hS := sl_of_own hown
        have HY := Lib.hid hy
        have HLA := Lib.hid hla
        clear hy hla
        obtain ⟨wo, rfl⟩ : ∃ wo : World, wo = wr := ⟨_, rfl⟩
        obtain ⟨i, hi, hcall⟩ := fresh_next (1 + c) _ _ ys wo (by omega) (by omega) hly (by omega) hS
        have HI := Lib.hid hi
        have HF := Lib.hid hcall
        clear hi hcall
        obtain ⟨adr, cap1, rfl⟩ := hS.shape
        go_wp2_with (go_at_call 10; refine HF.out.mono ?_; rintro e w2 ⟨rfl, hb2⟩)
        go_loopw [15, 48] (fun v i wq => ∃ q : Nat, q ≤ n + m ∧ i = .int .i64 q ∧ wq.ownsRow w2.heap.size 25 1 v (part (1 + c) (1 + d) (ys.take q)).length (ids (part (1 + c) (1 + d) (ys.take q))) ∧ Below w2.heap.size w2 wq) (fun _ i _ => (n + m) - (intOf i).toNat)
        case atStart => exact ⟨0, by omega, rfl, World.ownsRow_nil _ _ _ _, Below.refl _ _⟩
        case round =>
          obtain ⟨q, hq, rfl, hownq, hbq⟩ := hrel
          by_cases hql : q < n + m
          · obtain ⟨b, off, rfl, hbl, hc⟩ := hS.at (by simp [ids_length]; omega)
            have hql' : q < ys.length := by omega
            have hcell : wr.cell? ⟨b, off + q, none⟩ = some (.int .u32 ys[q]) := by
              rw [hbq.cell (p := ⟨b, off + q, none⟩) (Nat.lt_of_lt_of_le hbl hb2.size), hb2.cell (p := ⟨b, off + q, none⟩) hbl, hc q (by simp [ids_length]; omega)]
              simp [ids, hql']
            clear hc
            have hx := HY.out ys[q] (List.getElem_mem hql')
            have hne : (ys[q] == (1 + (c : Int)) * 1048576 + i) = false := by
              simp only [beq_eq_false_iff_ne]; intro e; exact HI.out.2.2.1 (e ▸ List.getElem_mem hql')
            have HM := Lib.hid (mine_any (1 + c) ys[q] wr hx.1 hx.2)
            have hsn := part_snoc_y (1 + c) (1 + d) ys q hql'
            have hsn2 := part_snoc_n (1 + c) (1 + d) ys q hql'
            generalize mineB (1 + c) ys[q] = mb at *
            have hz := hbq.size
            by_cases hdc : d = c
            · subst hdc
              have HS := Lib.hid (hsn (by simp))
              clear hsn hsn2
              have HSz := Lib.hid (part_length (1 + d) (1 + d) (ys.take q))
              cases mb
              all_goals
                go_wp2_with (first | (go_at_call 16; refine HM.out.mono ?_; rintro e w' ⟨rfl, rfl⟩) | (at_builtin; refine wp_append elemU w2.heap.size rfl _ _ rfl rfl (hownq.alloc _) rfl (Sl.made wr (ids [ys[q]]) 1 1 25) rfl (ids_one _) (by have := HSz.out; simp at this; omega) (by simp; omega) ?_; intro v1 w1 hown1 hg1))
                rw [ids_append, ← HS.out] at hown1
                exact ⟨⟨q + 1, hql, by go_num, by rw [HS.out, List.length_append] at *; exact hown1, (hbq.alloc hz _).trans hg1⟩, by simp only [intOf]; omega⟩
            · have hdc' : ((1 + (d : Int)) == 1 + c) = false := by simp; omega
              cases mb
              · have HS := Lib.hid (hsn2 (by simp; omega))
                clear hsn hsn2 hdc
                go_wp2_with (first | (go_at_call 16; refine HM.out.mono ?_; rintro e w' ⟨rfl, rfl⟩))
                exact ⟨⟨q + 1, hql, by go_num, by rw [HS.out]; exact hownq, hbq⟩, by simp only [intOf]; omega⟩
              · have HS := Lib.hid (hsn (by simp))
                have HSz := Lib.hid (part_length (1 + c) (1 + d) (ys.take q))
                clear hsn hsn2 hdc
                go_wp2_with (first | (go_at_call 16; refine HM.out.mono ?_; rintro e w' ⟨rfl, rfl⟩) | (at_builtin; refine wp_append elemU w2.heap.size rfl _ _ rfl rfl (hownq.alloc _) rfl (Sl.made wr (ids [ys[q]]) 1 1 25) rfl (ids_one _) (by have := HSz.out; simp at this; omega) (by simp; omega) ?_; intro v1 w1 hown1 hg1))
                rw [ids_append, ← HS.out] at hown1
                exact ⟨⟨q + 1, hql, by go_num, by rw [HS.out, List.length_append] at *; exact hown1, (hbq.alloc hz _).trans hg1⟩, by simp only [intOf]; omega⟩
          · obtain rfl : q = n + m := by omega
            rw [List.take_of_length_le (by omega)] at hownq
            have hP := part_length (1 + c) (1 + d) ys
            have HF2 := Lib.hid (fresh_part (1 + c) (1 + d) u15 _ ys i wr (by omega) (by omega) HI.out rfl (by omega) (sl_of_own hownq))
            have h1 := HI.out
            have HM2 : Hid (∀ w, Calls Try.prog 16 #[.int .i64 (1 + c), .int .u32 ((1 + c) * 1048576 + i)] w (Ret (.bool true) w)) := by
              intro w
              have := mine_any (1 + c) ((1 + c) * 1048576 + i) w (by omega) (by omega)
              rwa [mine_base (1 + c) i (by omega) (by omega) (by omega) (by omega), show ((1 + (c : Int)) * 1048576 + i != (1 + c) * 1048576) = true by simp; omega] at this
            have HK2 : Hid (∀ w, Calls Try.prog 15 #[.int .u32 ((1 + c) * 1048576 + i)] w (Ret (.int .i64 0) w)) := by
              intro w
              have := check_any ((1 + c) * 1048576 + i) w (by omega) (by omega)
              rwa [check_mine (1 + c) i (by omega) (by omega) (by omega) (by omega)] at this
            have hlt2 := last_lt ((1 + (c : Int)) * 1048576) (by omega) ys la i HLA.out h1.1 h1.2.2.1
            have HN := Lib.hid (last_next ((1 + (c : Int)) * 1048576) ys i h1.1 h1.2.2.2)
            have hr0 : 0 ≤ (1 + (c : Int)) * 1048576 + i := by omega
            have hr1 : (1 + (c : Int)) * 1048576 + i < 4294967296 := by omega
            generalize (1 + (c : Int)) * 1048576 + i = r at *
            clear h1 hP
            have hbw : Below w.heap.size w wr := hb.trans ((hb2.mono hb.size).trans (hbq.mono (Nat.le_trans hb.size hb2.size)))
            have hown3 : wr.ownsRow w.heap.size 25 1 (.slice adr (n + m) cap1) (n + m) (ids ys) := own_below hown (btrans hb2 (hbq.mono (Nat.le_refl _)))
            go_wp2_with (go_at_call 10; refine HF2.out.mono ?_; rintro e w3 ⟨rfl, hb3⟩)
            have hz3 := hb3.size
            have hzw := hbw.size
            have hown4 := own_below hown3 hb3
            go_wp2_with (first | (go_at_call 16; refine (HM2.out _).mono ?_; rintro e w' ⟨rfl, rfl⟩) | (go_at_call 15; refine (HK2.out _).mono ?_; rintro e w' ⟨rfl, rfl⟩) | (at_builtin; refine wp_append elemU w.heap.size rfl _ _ rfl rfl (hown4.alloc _) rfl (Sl.made w3 (ids [r]) 1 1 25) rfl (ids_one _) (by omega) (by simp; omega) ?_; intro v4 w4 hown5 hg5))
            rw [ids_append] at hown5
            exact ⟨⟨m + 1, ys ++ [r], r, hlt, by go_num, by simp [hly]; omega, rfl, hr0, HN.out, fun x hx => by
              rcases List.mem_append.1 hx with h | h
              · exact HY.out x h
              · rw [List.mem_singleton.1 h]; exact ⟨hr0, hr1⟩, hown5, ((hbw.trans (hb3.mono hzw)).alloc (by omega) _).trans hg5⟩, by simp only [intOf]; omega⟩
      · obtain rfl : m = k := by omega
        go_wp2_with (go_at_call 9; refine (awake_any _).mono ?_; rintro e w' ⟨rfl, hb2⟩)
        go_ret
        exact ⟨rfl, btrans hb hb2⟩
end Go.Proofs.Ytnkiljopbilknaa
