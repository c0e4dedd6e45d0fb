/- The laws, without the frame. By the prover of this seat. -/
import Derived.Test.YtgchgbkilggieaaRs
set_option linter.unusedVariables false
set_option linter.unusedSimpArgs false
set_option maxRecDepth 100000
set_option maxHeartbeats 4000000
namespace Go.Proofs.Ytgchgbkilggieaa
open Go.RowKit Go.Pm
theorem sizeE : (⟨#[]⟩ : ByteArray).size = 0 := rfl
theorem change_size (x s : ByteArray) : (changeD x s).1.size ≤ x.size := by
  unfold changeD
  split
  · show (⟨#[]⟩ : ByteArray).size ≤ _; rw [sizeE]; omega
  · cases idxD (fun i => decide (¬ errC x s i = 0)) (List.range (s.size / 3)) with
    | some i => show (⟨#[]⟩ : ByteArray).size ≤ _; rw [sizeE]; omega
    | none =>
      show (sI (chZ (bytesI x) s (s.size / 3))).size ≤ _
      rw [sI_size, chZ_len, bytes_len]
      omega
theorem read_size (l : List ByteArray) (s : ByteArray) (hs : s.size ≤ 1000000) (hk : ∀ x ∈ l, x.size ≤ 1000000) : (readD l s).1.size ≤ 1000000 := by
  unfold readD
  have e := sizeE
  split
  · show (⟨#[]⟩ : ByteArray).size ≤ _; omega
  · split
    · split
      · show (⟨#[]⟩ : ByteArray).size ≤ _; omega
      · show (s.extract 1 s.size).size ≤ _; rw [ByteArray.size_extract]; omega
    · split
      · split
        · show (⟨#[]⟩ : ByteArray).size ≤ _; omega
        · split
          · show (⟨#[]⟩ : ByteArray).size ≤ _; omega
          · rename_i h; exact hk _ (nth_mem (Decidable.not_not.1 h))
      · split
        · split
          · show (⟨#[]⟩ : ByteArray).size ≤ _; omega
          · split
            · show (⟨#[]⟩ : ByteArray).size ≤ _; omega
            · rename_i h
              exact Nat.le_trans (change_size _ _) (hk _ (nth_mem (Decidable.not_not.1 h)))
        · show (⟨#[]⟩ : ByteArray).size ≤ _; omega
theorem short_or (l : List ByteArray) (m : Nat) (hm : m ≤ 1000) : (Pu 10 [slS l, i64 m] (bl false)) ∨ (Pu 10 [slS l, i64 m] (bl true) ∧ l.length ≤ m ∧ ∀ s ∈ l, s.size ≤ 600) := by
  have hs := short_ok l m hm
  cases h : shortD l m with
  | false => rw [h] at hs; exact .inl hs
  | true => rw [h] at hs; exact .inr ⟨hs, short_len h⟩
def most (n : Int) : Nat := n.toNat % 8 + 1
theorem most_ok (n : Int) : ¬ most n = 0 ∧ most n ≤ 8 := by unfold most; omega
theorem begun_at (n : Int) (n0 : 0 ≤ n) (n1 : n ≤ 255) : Pu 11 [u8 n] (.tup [cacheA (most n) [], cacheA (most n) []]) :=
  begun_ok n (most n) n0 n1 (by unfold most; omega) (by unfold most; omega) (by unfold most; omega)
theorem kept_put (m : Nat) (hm : ¬ m = 0) (hm2 : m ≤ 64) (l : List ByteArray) (h2 : ∀ s ∈ l, s.size ≤ 600) (k : Nat) (hk : k < l.length) : Pu 12 [cacheA m (kept m l k), st (nth l k)] (outP m (kept m l (k + 1)) (putD m (kept m l k) (nth l k)).2.1 0) ∧ Pu 13 [cacheA m (kept m l k), st (nth l k)] (outP m (kept m l (k + 1)) (putD m (kept m l k) (nth l k)).2.1 0) := by
  have hb := h2 _ (nth_mem hk)
  have hc := kept_ok m hm2 l k
  obtain ⟨b1, b2, b3, b4, b5⟩ := put_back m _ _ hc hm (by omega : (nth l k).size ≤ 65536)
  have p1 := put_ok m _ (nth l k) hc
  have p2 := rput_ok m _ (nth l k) hc
  rw [b2, b3] at p1 p2
  exact ⟨p1, p2⟩
theorem kept_big (m : Nat) (l : List ByteArray) (h2 : ∀ s ∈ l, s.size ≤ 600) (k : Nat) (hk : k ≤ l.length) : ∀ x ∈ kept m l k, x.size ≤ 1000000 := fun x hx => by
  have := kept_size m l 600 h2 k hk x hx
  omega
theorem puts_ok (n : Int) (n0 : 0 ≤ n) (n1 : n ≤ 255) (l : List ByteArray) : Pu 3 [u8 n, slS l] (bl true) := by
  obtain ⟨m1, m2⟩ := most_ok n
  have hb := begun_at n n0 n1
  generalize most n = m at m1 m2 hb
  rcases short_or l 30 (by omega) with h | ⟨h, h1, h2⟩
  · exact puts_no n m l awake_ok h
  · have L := LoopT.count (fun k => cpS m l (kept m l k) k) l.length (fun k hk => by
      obtain ⟨p1, p2⟩ := kept_put m m1 (by omega) l h2 k hk
      have c1 := (kept_ok m (by omega) l k).len
      have c2 := (kept_ok m (by omega) l (k + 1)).len
      exact cp_step m l _ _ k _ _ hk (by omega) p1 p2 (is_ok m _ (by omega) (kept_big m l h2 _ (by omega))) (is_ok m _ (by omega) (kept_big m l h2 _ (by omega)))) (cp_end m l _) 0 (by omega)
    exact puts_yes n m l awake_ok h hb _ L
theorem back_ok (n : Int) (n0 : 0 ≤ n) (n1 : n ≤ 255) (l : List ByteArray) : Pu 4 [u8 n, slS l] (bl true) := by
  obtain ⟨m1, m2⟩ := most_ok n
  have hb := begun_at n n0 n1
  generalize most n = m at m1 m2 hb
  rcases short_or l 40 (by omega) with h | ⟨h, h1, h2⟩
  · exact back_no n m l awake_ok h
  · have L := LoopT.count (fun k => cbS m l (kept m l k) k) l.length (fun k hk => by
      obtain ⟨p1, p2⟩ := kept_put m m1 (by omega) l h2 k hk
      have c0 := kept_ok m (by omega) l k
      have c1 := c0.len
      have c2 := (kept_ok m (by omega) l (k + 1)).len
      have hs := h2 _ (nth_mem hk)
      have hz := (put_back m _ _ c0 m1 (by omega : (nth l k).size ≤ 65536)).2.2.2.2
      have hg := get_ok m _ (putD m (kept m l k) (nth l k)).2.1 c0 (by omega) (kept_big m l h2 _ (by omega))
      rw [get_back m _ _ c0 m1 (by omega)] at hg
      exact cb_step m l _ _ k _ _ hk (by omega) p1 hg (mark_ok m _ (by omega) (kept_big m l h2 (k + 1) (by omega))) (len_ok m _)) (cb_end m l _) 0 (by omega)
    exact back_yes n m l awake_ok h hb _ L
theorem shorts_ok (n : Int) (n0 : 0 ≤ n) (n1 : n ≤ 255) (l : List ByteArray) : Pu 5 [u8 n, slS l] (bl true) := by
  obtain ⟨m1, m2⟩ := most_ok n
  have hb := begun_at n n0 n1
  generalize most n = m at m1 m2 hb
  rcases short_or l 40 (by omega) with h | ⟨h, h1, h2⟩
  · exact shorts_no n m l awake_ok h
  · have L := LoopT.count (fun k => csS m l (kept m l k) k) l.length (fun k hk => by
      obtain ⟨p1, p2⟩ := kept_put m m1 (by omega) l h2 k hk
      have c0 := kept_ok m (by omega) l k
      have c1 := c0.len
      have c3 := kept_ok m (by omega) l (k + 1)
      have c2 := c3.len
      have hs := h2 _ (nth_mem hk)
      obtain ⟨b1, b2, b3, b4, b5⟩ := put_back m _ _ c0 m1 (by omega : (nth l k).size ≤ 65536)
      have p3 := put_ok m _ (nth l k) c3
      have e : putD m (kept m l (k + 1)) (nth l k) = (kept m l (k + 1), strA [u8 1, u8 0], 0) := put_again m1 _ _ (by omega)
      rw [e] at p3
      have hp := with_pos m1 (kept m l k) (nth l k)
      have hp : 1 ≤ (kept m l (k + 1)).length := hp
      exact cs_step m l _ _ k _ _ _ hk (by omega) p1 p3 (mark_ok m _ (by omega) (kept_big m l h2 (k + 1) (by omega))) (len_ok m _) (by omega) (by omega) (by omega) (fun q => by rw [q] at b4; exact absurd b4 (by decide)) (by omega) (by omega) (by omega)) (cs_end m l _) 0 (by omega)
    exact shorts_yes n m l awake_ok h hb _ L
theorem gets_ok (n : Int) (n0 : 0 ≤ n) (n1 : n ≤ 255) (l : List ByteArray) (s : ByteArray) : Pu 6 [u8 n, slS l, st s] (bl true) := by
  obtain ⟨m1, m2⟩ := most_ok n
  have hb := begun_at n n0 n1
  generalize most n = m at m1 m2 hb
  rcases short_or l 30 (by omega) with h | ⟨h, h1, h2⟩
  · exact gets_no n m l s awake_ok h
  · by_cases q1 : 2000 < s.size ∧ s.size ≤ 65537
    · exact gets_no1 n m l s awake_ok h q1.1 q1.2
    by_cases q2 : 70000 < s.size
    · exact gets_no2 n m l s awake_ok h q2
    have L := LoopT.count (fun k => cgS m l (kept m l k) s k) l.length (fun k hk => by
      obtain ⟨p1, p2⟩ := kept_put m m1 (by omega) l h2 k hk
      exact cg_step m l _ _ s k _ _ hk (by omega) p1 p2) (cg_end m l _ s) 0 (by omega)
    have c0 := kept_ok m (by omega) l l.length
    have hk := kept_big m l h2 l.length (Nat.le_refl _)
    have g1 := get_ok m _ s c0 (by omega) hk
    have g2 := rget_ok m _ s c0 (by omega) hk
    have hi : Pu 14 [cacheA m (getD m (kept m l l.length) s).1, cacheA m (getD m (kept m l l.length) s).1] (bl true) := by
      have c1 := c0.len
      unfold getD
      rw [if_neg m1]
      by_cases he : (readD (kept m l l.length) s).2 = 0
      · rw [if_neg (fun q => q he)]
        have c2 := (with_cok c0 (readD (kept m l l.length) s).1).len
        refine is_ok m _ (by show (withD m (kept m l l.length) (readD (kept m l l.length) s).1).length ≤ 1000; omega) (fun x hx => ?_)
        rcases with_mem hx with rfl | hx
        · exact read_size _ s (by omega) hk
        · exact hk x hx
      · rw [if_pos he]
        exact is_ok m _ (by show (kept m l l.length).length ≤ 1000; omega) hk
    exact gets_yes n m l s awake_ok h (by omega) (by omega) (by omega) hb _ L _ _ _ g1 g2 hi
theorem others_ok (n : Int) (n0 : 0 ≤ n) (n1 : n ≤ 255) (l : List ByteArray) (s : ByteArray) : Pu 7 [u8 n, slS l, st s] (bl true) := by
  obtain ⟨m1, m2⟩ := most_ok n
  have hb := begun_at n n0 n1
  generalize most n = m at m1 m2 hb
  rcases short_or l 30 (by omega) with h | ⟨h, h1, h2⟩
  · exact others_no n m l s awake_ok h
  · by_cases q1 : 600 < s.size
    · exact others_no1 n m l s awake_ok h q1
    have L := LoopT.count (fun k => coS m l (kept m l k) s k) l.length (fun k hk => by
      obtain ⟨p1, p2⟩ := kept_put m m1 (by omega) l h2 k hk
      exact co_step m l _ _ s k _ _ hk (by omega) p1) (co_end m l _ s) 0 (by omega)
    have c0 := kept_ok m (by omega) l l.length
    have c1 := c0.len
    have c2 := (with_cok c0 s).len
    have hk := kept_big m l h2 l.length (Nat.le_refl _)
    have hsz := asD_size s
    have g1 := get_ok m _ (asD s) c0 (by omega) hk
    rw [get_as m _ s m1 (by omega)] at g1
    obtain ⟨b1, b2, b3, b4, b5⟩ := put_back m _ _ c0 m1 (by omega : s.size ≤ 65536)
    have g2 := put_ok m _ s c0
    rw [b2, b3] at g2
    have hm := mark_ok m (withD m (kept m l l.length) s) (by omega) (fun x hx => by
      rcases with_mem hx with rfl | hx
      · omega
      · exact hk x hx)
    exact others_yes n m l s awake_ok h (by omega) hb _ L _ _ _ _ g1 g2 hm (len_ok m _)
theorem rep_flat (z : Nat) : replZ z [u8 0] = (List.replicate z (0 : Int)).flatMap e8 := by
  unfold replZ
  induction z with
  | zero => rfl
  | succ z ih => rw [List.replicate_succ, List.flatten_cons, ih, List.replicate_succ, List.flatMap_cons]; rfl
theorem ends_ok (k n : Int) (n0 : 0 ≤ n) (n1 : n ≤ 255) : Pu 8 [i64 k, u8 n] (bl true) := by
  obtain ⟨z, hz⟩ : ∃ z : Nat, z = 65533 + (n % 8).toNat := ⟨_, rfl⟩
  obtain ⟨b, hb⟩ : ∃ b, strA ((List.replicate z (0 : Int)).flatMap e8) = b := ⟨_, rfl⟩
  have hbs : b.size = z := by rw [← hb]; exact (sI_size _).trans (List.length_replicate ..)
  have hz0 : ∀ x ∈ List.replicate z (0 : Int), 0 ≤ x ∧ x ≤ 255 := fun x hx => by
    rw [(List.mem_replicate.1 hx).2]; omega
  have hN := new_ok k
  unfold newD at hN
  have m0 : ∀ m : Int, Pu 16 [cacheA m []] (u64 0) := fun m => mark_ok m [] (by decide) (fun x hx => by cases hx)
  have l0 : ∀ m : Int, Pu 17 [cacheA m []] (i64 0) := fun m => len_ok m []
  by_cases hk : k < 1 ∨ 64 < k
  · rw [if_pos hk] at hN
    have c0 : COk 0 [] := ⟨List.nodup_nil, Nat.le_refl _, by omega⟩
    exact ends_1 k n (n % 8) z _ b awake_ok n0 n1 rfl (by omega) (by omega) (by omega) (by omega) (List.length_replicate ..) (rep_flat z) hz0 hb hbs hk hN (l0 0) (m0 0) (put_ok 0 [] b c0) (get_ok 0 [] (asD b) c0 (by rw [asD_size]; omega) (fun x hx => by cases hx))
  · rw [if_neg hk] at hN
    obtain ⟨m, rfl⟩ : ∃ m : Nat, k = (m : Int) := ⟨k.toNat, by omega⟩
    have c0 : COk m [] := ⟨List.nodup_nil, Nat.zero_le _, by omega⟩
    have m1 : ¬ m = 0 := by omega
    have g := get_ok m [] (asD b) c0 (by rw [asD_size]; omega) (fun x hx => by cases hx)
    have p := put_ok m [] b c0
    by_cases h : 65536 < z
    · rw [show putD m [] b = ([], ⟨#[]⟩, 4) by unfold putD; rw [if_neg m1, if_pos (by omega)]] at p
      rw [show getD m [] (asD b) = ([], ⟨#[]⟩, 4) by
        unfold getD
        rw [if_neg m1, show readD [] (asD b) = (⟨#[]⟩, 4) by
          unfold readD
          rw [if_neg (by rw [asD_size]; omega), if_pos (asD_0 b), if_pos (by rw [asD_size]; omega)]]
        rfl] at g
      exact ends_2 m n (n % 8) z _ b awake_ok n0 n1 rfl (by omega) (by omega) (by omega) (by omega) (List.length_replicate ..) (rep_flat z) hz0 hb hbs (by omega) (by omega) hN (l0 m) (m0 m) h p g
    · have hw : withD m [] b = [b] := by
        unfold withD
        rw [List.filter_nil]
        exact List.take_of_length_le (by show 1 ≤ m; omega)
      rw [get_as m [] b m1 (by omega), hw] at g
      have hp : putD m [] b = ([b], asD b, 0) := by
        unfold putD
        rw [if_neg m1, if_neg (by omega), ← hw]
        rfl
      rw [hp] at p
      exact ends_3 m n (n % 8) z _ b awake_ok n0 n1 rfl (by omega) (by omega) (by omega) (by omega) (List.length_replicate ..) (rep_flat z) hz0 hb hbs (by omega) (by omega) hN (l0 m) (m0 m) h _ (by rw [asD_size]; omega) _ p g (len_ok m [b]) (mark_ok m [b] (by show 1 ≤ 1000; omega) (fun x hx => by rw [List.mem_singleton.1 hx]; omega))
theorem fits_u8 {cs : List AV} (h : Fits (.int .u8) cs) : ∃ n : Int, cs = [u8 n] ∧ 0 ≤ n ∧ n ≤ 255 := by
  obtain ⟨n, rfl, hw⟩ := h
  simp [Lit.wf, IntKind.min, IntKind.max, IntKind.signed, IntKind.bits] at hw
  exact ⟨n, rfl, by omega, by omega⟩
theorem fits_i64 {cs : List AV} (h : Fits (.int .i64) cs) : ∃ n : Int, cs = [i64 n] ∧ -9223372036854775808 ≤ n ∧ n ≤ 9223372036854775807 := by
  obtain ⟨n, rfl, hw⟩ := h
  simp [Lit.wf, IntKind.min, IntKind.max, IntKind.signed, IntKind.bits] at hw
  exact ⟨n, rfl, by omega, by omega⟩
theorem fits_str {cs : List AV} (h : Fits .str cs) : ∃ s : ByteArray, cs = [st s] ∧ True := by
  obtain ⟨s, rfl, _⟩ := h
  exact ⟨s, rfl, trivial⟩
theorem fits_strs {cs : List AV} (h : Fits (.sl .str) cs) : ∃ l : List ByteArray, cs = [slS l] ∧ True := by
  obtain ⟨l, h1, _, _⟩ := fits_list (enc := eS) (Q := fun _ => True) (fun cs hc => by obtain ⟨s, rfl, _⟩ := hc; exact ⟨s, rfl, trivial⟩) h
  exact ⟨l, h1, trivial⟩
end Go.Proofs.Ytgchgbkilggieaa
