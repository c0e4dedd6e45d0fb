/- The laws Takes, Gives, Full. By the prover of this seat. -/
import Derived.Test.YtpopnaeojjcngaaMf
set_option linter.unusedVariables false
set_option linter.unusedSimpArgs false
set_option maxRecDepth 100000
set_option maxHeartbeats 4000000
namespace Go.Proofs.Ytpopnaeojjcngaa
open Go.RowKit Go.Pm
def t0 : Take := ⟨[], 0, 0⟩
def stepT (l : List Piece) (q : Int) (i : Nat) (s : Take × Take) : Take × Take :=
  if q = i then ((gotK (refusedD s.1) (nth l i) (kindD (nth l i))).1, (rgotK (rrefD s.2) (nth l i) (kindD (nth l i))).1)
  else ((gotK s.1 (nth l i) (kindD (nth l i))).1, (rgotK s.2 (nth l i) (kindD (nth l i))).1)
def runT (l : List Piece) (q : Int) : Nat → Take × Take
  | 0 => (t0, t0)
  | i + 1 => stepT l q i (runT l q i)
theorem run_inv (l : List Piece) (q : Int) : ∀ n, (∀ i, i < n → (nth l i).data.length ≤ 200) → Sim (runT l q n).1 (runT l q n).2 ∧ (runT l q n).1.data.length ≤ 200 * n := by
  intro n
  induction n with
  | zero => intro _; exact ⟨⟨rfl, rfl, fun _ => rfl, by simp [runT, t0]⟩, by simp [runT, t0]⟩
  | succ n ih =>
    intro h
    obtain ⟨h1, h2⟩ := ih fun i hi => h i (by omega)
    have h3 := h n (by omega)
    have hk := kind_range (nth l n)
    unfold runT stepT
    split
    · refine ⟨(sim_got (sim_ref h1) _ _ hk).2, ?_⟩
      have := got_len (refusedD (runT l q n).1) (nth l n) (kindD (nth l n))
      have := ref_len (runT l q n).1
      simp only
      omega
    · refine ⟨(sim_got h1 _ _ hk).2, ?_⟩
      have := got_len (runT l q n).1 (nth l n) (kindD (nth l n))
      simp only
      omega
theorem tk_step (l : List Piece) (q : Int) (q0 : 0 ≤ q) (q1 : q ≤ 255) (hl : l.length ≤ 20) (i : Nat) (hi : i < l.length) (h : ∀ j, j ≤ i → (nth l j).data.length ≤ 200) : Tri C0 tkBody (tkSt l q (runT l q i).1 (runT l q i).2 i) .normal (tkSt l q (runT l q (i + 1)).1 (runT l q (i + 1)).2 (i + 1)) := by
  obtain ⟨h1, h2⟩ := run_inv l q i fun j hj => h j (by omega)
  obtain ⟨h3, h4⟩ := run_inv l q (i + 1) fun j hj => h j (by omega)
  have h5 := h i (Nat.le_refl _)
  have hk := kind_range (nth l i)
  generalize hs : runT l q i = s at h1 h2
  obtain ⟨a, b⟩ := s
  simp only at h1 h2
  have e : runT l q (i + 1) = stepT l q i (a, b) := by rw [← hs]; rfl
  rw [e] at h3 h4 ⊢
  unfold stepT at h3 h4 ⊢
  by_cases hq : q = i
  · rw [if_pos hq] at h3 h4 ⊢
    have hra := ref_len a
    have g1 := got_ok (refusedD a) (nth l i) (by omega) (by omega)
    have g2 := rgot_ok (rrefD b) (nth l i) (by rw [← (sim_ref h1).d]; omega) (by omega)
    obtain ⟨e1, _⟩ := sim_got (sim_ref h1) (nth l i) _ hk
    have hb : b.state = 2 ∧ rrefD b = b ∨ ¬ b.state = 2 ∧ rrefD b = ⟨[], 0, 3⟩ := by
      unfold rrefD
      split
      · exact .inl ⟨by assumption, rfl⟩
      · exact .inr ⟨by assumption, rfl⟩
    generalize gotK (refusedD a) (nth l i) (kindD (nth l i)) = r1 at *
    generalize rgotK (rrefD b) (nth l i) (kindD (nth l i)) = r2 at *
    obtain ⟨a', x⟩ := r1
    obtain ⟨b', y⟩ := r2
    simp only at e1 h3 h4 g1 g2 ⊢
    subst e1
    exact tk_refused l q q0 q1 a b _ _ a' b' x i hi hl (by omega) hq h3.d h3.s (by omega) (refused_ok a) hb g1 g2
  · rw [if_neg hq] at h3 h4 ⊢
    have g1 := got_ok a (nth l i) (by omega) (by omega)
    have g2 := rgot_ok b (nth l i) (by rw [← h1.d]; omega) (by omega)
    obtain ⟨e1, _⟩ := sim_got h1 (nth l i) _ hk
    generalize gotK a (nth l i) (kindD (nth l i)) = r1 at *
    generalize rgotK b (nth l i) (kindD (nth l i)) = r2 at *
    obtain ⟨a', x⟩ := r1
    obtain ⟨b', y⟩ := r2
    simp only at e1 h3 h4 g1 g2 ⊢
    subst e1
    exact tk_plain l q q0 q1 a b a' b' x i hi hl (by omega) hq h3.d h3.s (by omega) g1 g2
theorem takes_ok (l : List Piece) (q : Int) (q0 : 0 ≤ q) (q1 : q ≤ 255) : Pu 8 [slP l, u8 q] (bl true) := by
  by_cases h : (l.length : Int) > 20
  · exact pure_of (hs := hint [((1,2), {val := some (bl (true))}), ((2,0), {call := some (bl true)})]) (ps := [bl (decide ((↑l.length : Int) > (20 : Int))) = bl (true), _]) (by kernel_rfl) ⟨(bdT (by assumption)), (awake_ok), trivial⟩
  · cases hx : idxD (fun p : Piece => decide (200 < p.data.length)) l with
    | some k =>
      obtain ⟨h1, h2, h3⟩ := idx_some hx
      simp only [decide_eq_true_eq] at h2 h3
      have L := LoopT.count (fun i => tkSt l q (runT l q i).1 (runT l q i).2 i) k (fun i hi => tk_step l q q0 q1 (by omega) i (by omega) (fun j hj => by have := h3 j (by omega); omega)) (tk_long l q _ _ k h1 (by omega) (by omega)) 0 (by omega)
      exact pure_of (hs := hint [((1,2), {val := some (bl (false))}), ((6,1000), {loop := some ({ ks := [0, 1, 5, 6, 7], l := [0, 1], mx := [0, 1] }, tkSt l q (runT l q (0 : Nat)).fst (runT l q (0 : Nat)).snd (0 : Nat), Ex.ret, tkHit)})]) (ps := [bl (decide ((↑l.length : Int) > (20 : Int))) = bl (false), tkSt l q (runT l q (0 : Nat)).fst (runT l q (0 : Nat)).snd (0 : Nat) = tkSt l q (runT l q (0 : Nat)).fst (runT l q (0 : Nat)).snd (0 : Nat), _, true = true]) (by kernel_rfl) ⟨(bdF (by assumption)), rfl, L, rfl, trivial⟩
    | none =>
      have h3 := idx_none hx
      simp only [decide_eq_true_eq] at h3
      have L := LoopT.count (fun i => tkSt l q (runT l q i).1 (runT l q i).2 i) l.length (fun i hi => tk_step l q q0 q1 (by omega) i hi (fun j hj => by have := h3 j (by omega); omega)) (tk_end l q _ _) 0 (by omega)
      exact pure_of (hs := hint [((1,2), {val := some (bl (false))}), ((6,1000), {loop := some ({ ks := [0, 1, 5, 6, 7], l := [0, 1], mx := [0, 1] }, tkSt l q (runT l q (0 : Nat)).fst (runT l q (0 : Nat)).snd (0 : Nat), Ex.exit (0 : Nat), tkSt l q (runT l q l.length).fst (runT l q l.length).snd l.length)}), ((20,0), {call := some (bl true)})]) (ps := [bl (decide ((↑l.length : Int) > (20 : Int))) = bl (false), tkSt l q (runT l q (0 : Nat)).fst (runT l q (0 : Nat)).snd (0 : Nat) = tkSt l q (runT l q (0 : Nat)).fst (runT l q (0 : Nat)).snd (0 : Nat), _, true = true, _]) (by kernel_rfl) ⟨(bdF (by assumption)), rfl, L, rfl, (awake_ok), trivial⟩
/-! Gives -/
def gvAt (d : List Int) (m k : Nat) : Give := ⟨d, m, k, true⟩
theorem gv_at {d : List Int} {m k : Nat} (m0 : 1 ≤ m) (m1 : m ≤ 16382) (hk : k ≤ 1000000) (hl : d.length ≤ 65536) : Gv (gvAt d m k) := ⟨by simp only [gvAt]; omega, by simp only [gvAt]; omega, by simp only [gvAt]; omega, by simp only [gvAt]; omega, hl⟩
theorem parts_at {d : List Int} {m k : Nat} (m0 : 1 ≤ m) : partsD (gvAt d m k) = if d.length ≤ m then 0 else (cntD d m : Int) := by
  unfold partsD gvAt cntD
  simp only
  by_cases h : d.length ≤ m
  · rw [if_pos (by omega), if_pos h]
  · rw [if_neg (by omega), if_neg h, Int.natCast_ediv]
    congr 1
    omega
theorem cnt_pos {d : List Int} {m : Nat} (m0 : 1 ≤ m) (h : ¬ d.length ≤ m) : 1 ≤ cntD d m := (cnt_lt (d := d) m0 0).2 (by omega)
theorem all_len (d : List Int) (m : Nat) : (allD d m).length = if d.length ≤ m then 1 else cntD d m + 2 := by
  unfold allD
  split <;> simp
theorem done_at {d : List Int} {m k : Nat} (m0 : 1 ≤ m) : doneD (gvAt d m k) = decide ((allD d m).length ≤ k) := by
  have hc : ¬ d.length ≤ m → 1 ≤ cntD d m := cnt_pos m0
  unfold doneD
  rw [parts_at m0, all_len]
  simp only [gvAt, if_true]
  by_cases h : d.length ≤ m
  · simp only [h, if_true]
    rw [if_neg (by omega)]
    exact decide_eq_decide.2 (by omega)
  · have := hc h
    simp only [h, if_false]
    rw [if_pos (by omega)]
    exact decide_eq_decide.2 (by omega)
theorem put_at {d : List Int} {m k : Nat} (m0 : 1 ≤ m) (hk : k < (allD d m).length) : putD (gvAt d m k) = (nth (allD d m) k, true) := by
  unfold putD
  rw [done_at m0, if_neg (by simp; omega), parts_at m0]
  have hl := all_len d m
  have hc : ¬ d.length ≤ m → 1 ≤ cntD d m := cnt_pos m0
  unfold allD at hk hl ⊢
  by_cases h : d.length ≤ m
  · simp only [h, if_true] at hk hl ⊢
    obtain rfl : k = 0 := by simp at hk; omega
    rfl
  · have hc := hc h
    simp only [h, if_false] at hk hl ⊢
    have hz : ¬ (cntD d m : Int) = 0 := by omega
    rw [if_neg hz]
    by_cases h0 : k = 0
    · subst h0; rw [if_pos (show (gvAt d m 0).at_ = 0 from rfl)]; rfl
    · rw [if_neg (show ¬ (gvAt d m k).at_ = 0 by show ¬ (k : Int) = 0; omega)]
      obtain ⟨j, rfl⟩ : ∃ j, k = j + 1 := ⟨k - 1, by omega⟩
      have en : nth (annP d :: List.map (partP d m) (List.range (cntD d m)) ++ [endP]) (j + 1) = nth (List.map (partP d m) (List.range (cntD d m)) ++ [endP]) j := rfl
      rw [en]
      by_cases hj : j < cntD d m
      · rw [if_pos (show (gvAt d m (j + 1)).at_ ≤ cntD d m by show ((j + 1 : Nat) : Int) ≤ cntD d m; omega)]
        have : nth (List.map (partP d m) (List.range (cntD d m)) ++ [endP]) j = partP d m j := by
          simp [nth, List.getD_eq_getElem?_getD, List.getElem?_append_left, hj]
        rw [this]
        show (_, true) = (_, true)
        congr 1
        show (⟨true, 0, partAt d ((m : Int)).toNat ((((j + 1 : Nat) : Int)) - 1).toNat, false⟩ : Piece) = ⟨true, 0, partAt d m j, false⟩
        rw [Int.toNat_natCast, show ((((j + 1 : Nat) : Int)) - 1).toNat = j by omega]
      · rw [if_neg (show ¬ (gvAt d m (j + 1)).at_ ≤ cntD d m by show ¬ ((j + 1 : Nat) : Int) ≤ cntD d m; omega)]
        have hj' : j = cntD d m := by
          simp only [List.length_append, List.length_cons, List.length_map, List.length_range, List.length_nil] at hk
          omega
        subst hj'
        have : nth (List.map (partP d m) (List.range (cntD d m)) ++ [endP]) (cntD d m) = endP := by
          simp [nth, List.getD_eq_getElem?_getD]
        rw [this]; rfl
theorem put_end {d : List Int} {m : Nat} (m0 : 1 ≤ m) : putD (gvAt d m (allD d m).length) = (p0, false) := by
  unfold putD
  rw [done_at m0, if_pos (by simp)]
theorem gone_at {d : List Int} {m k : Nat} (m0 : 1 ≤ m) (hk : k < (allD d m).length) : goneD (gvAt d m k) = gvAt d m (k + 1) := by
  unfold goneD
  rw [done_at m0, if_neg (by simp; omega)]
  simp [gvAt]
theorem gone_end {d : List Int} {m : Nat} (m0 : 1 ≤ m) : goneD (gvAt d m (allD d m).length) = gvAt d m (allD d m).length := by
  unfold goneD
  rw [done_at m0, if_pos (by simp)]
theorem all_le {d : List Int} {m : Nat} (m0 : 1 ≤ m) : (allD d m).length ≤ d.length + 2 := by
  rw [all_len]
  split
  · omega
  · have : cntD d m ≤ d.length := Nat.le_of_not_lt fun q => by
      have := (cnt_lt (d := d) m0 d.length).1 q
      have h2 : d.length * 1 ≤ d.length * m := Nat.mul_le_mul_left _ m0
      omega
    omega
theorem nth_mem {α : Type} [Inhabited α] {l : List α} {k : Nat} (h : k < l.length) : nth l k ∈ l := by rw [nth_eq h]; exact List.getElem_mem h
theorem all_data {d : List Int} {m k : Nat} (hk : k < (allD d m).length) : (nth (allD d m) k).data.length ≤ d.length := by
  have := nth_mem hk
  unfold allD at this ⊢
  split at this
  · rename_i h
    rw [if_pos h]
    rw [List.mem_singleton] at this
    rw [this]; simp [wholeP]
  · rename_i h
    rw [if_neg h]
    rcases List.mem_append.1 this with h1 | h1
    · rcases List.mem_cons.1 h1 with h1 | h1
      · rw [h1]; simp [annP]
      · obtain ⟨j, _, h2⟩ := List.mem_map.1 h1
        rw [← h2]
        simp only [partP, partAt, List.length_take, List.length_drop]
        omega
    · rw [List.mem_singleton] at h1
      rw [h1]; simp [endP]
noncomputable def gvBody : Code := loopOf Try.prog 3 10
def gvSt (want : List Piece) (g : Give) (k : Nat) : St := ⟨mkT 90 [(5, .ptr 0 0), (7, slP want), (9, i64 k)], [.arr 4 (giveL g) 0]⟩
theorem gv_step (want : List Piece) (g g' : Give) (k : Nat) (hk : k < want.length) (hw : want.length ≤ 1000) (h1 : Pu 13 [A (giveL g)] (putR (nth want k, true))) (h2 : Pu 14 [A (giveL g)] (bl false)) (h3 : Pu 17 [A (giveL g)] (A (giveL g'))) (hd : (nth want k).data.length ≤ 1000000) : Tri C0 gvBody (gvSt want g k) .normal (gvSt want g' (k + 1)) := by
  have h5 := same_ok (nth want k) (nth want k) hd
  rw [decide_eq_true ⟨rfl, rfl, rfl, rfl⟩] at h5
  exact runF_ok (hs := hint [((10,3), {val := some (bl (true))}), ((12,1), {call := some (putR (nth want k, true))}), ((13,4), {call := some (bl false)}), ((13,8), {call := some (A (pieceL { incr := (nth want k, true).fst.incr, total := (nth want k, true).fst.total, data := (nth want k, true).fst.data, last := (nth want k, true).fst.last : Piece }))}), ((13,11), {cells := some (pieceL (nth want k) ++ List.flatMap pieceL (List.drop (k + (1 : Nat)) want)), sym := true}), ((13,13), {call := some (bl true)}), ((15,1), {call := some (A (giveL g'))}), ((11,1), {val := some (i64 ((↑k : Int) + (1 : Int)))})]) (f := { ks := [5, 7, 9], l := [0] }) (ps := [bl (decide ((↑k : Int) < (↑want.length : Int))) = bl (true), _, _, _, decide ((0 : Int) ≤ (↑k : Int) ∧ (↑k : Int) < (↑want.length : Int)) = true, ((List.drop ((↑k : Int).toNat * (4 : Nat)) (List.flatMap pieceL want)) : List AV) = (pieceL (nth want k) ++ List.flatMap pieceL (List.drop (k + (1 : Nat)) want)), _, _, i64 (IntKind.i64.wrap ((↑k : Int) + (1 : Int))) = i64 ((↑k : Int) + (1 : Int)), true = true, true = true]) (by kernel_rfl) ⟨(bdT (by omega)), (h1), (h2), (of_ok ((nth want k, true).fst)), (by exact decide_t (by omega)), (by exact flat_nth (sz := 4) (k := k) (fun _ => rfl) (by omega)), (h5), (h3), (intE (by exact wrap_i64 (by omega) (by omega))), rfl, rfl, trivial⟩
theorem gv_end (want : List Piece) (g : Give) : LoopT C0 gvBody (gvSt want g want.length) (.exit 0) (gvSt want g want.length) := by
  exact LoopT.fin (hs := hint [((10,3), {val := some (bl (false))})]) (f := { ks := [5, 7, 9], l := [0] }) (ps := [bl (decide ((↑want.length : Int) < (↑want.length : Int))) = bl (false), true = true, true = true]) (by kernel_rfl) ⟨(bdF (by omega)), rfl, rfl, trivial⟩ (by decide)
theorem gives_good (d : List Int) (m : Nat) (h : ¬ (d.length : Int) > 300) (hm : ¬ ((m : Int) < 1 ∨ (m : Int) > 16382)) (hn : numsD d = true) : Pu 3 [slI d, i64 m] (bl true) := by
  have m0 : 1 ≤ m := by omega
  have h1 := new_good d m hm (by omega) hn
  have h2 := all_good d m hm (by omega) hn
  have hw := all_le (d := d) m0
  have L := LoopT.count (fun k => gvSt (allD d m) (gvAt d m k) k) (allD d m).length (fun k hk => by
    have g := gv_at (d := d) (m := m) (k := k) m0 (by omega) (by omega) (by omega)
    have p1 := put_ok _ g
    have p2 := done_ok _ g
    have p3 := gone_ok _ g
    rw [put_at m0 hk] at p1
    rw [done_at m0, decide_eq_false (by omega)] at p2
    rw [gone_at m0 hk] at p3
    exact gv_step _ _ _ k hk (by omega) p1 p2 p3 (Nat.le_trans (all_data hk) (by omega))) (gv_end _ _) 0 (by omega)
  have g := gv_at (d := d) (m := m) (k := (allD d m).length) m0 (by omega) (by omega) (by omega)
  have p1 := put_ok _ g
  have p2 := done_ok _ g
  have p3 := gone_ok _ g
  rw [put_end m0] at p1
  rw [done_at m0, decide_eq_true (Nat.le_refl _)] at p2
  rw [gone_end m0] at p3
  have p4 := same_ok p0 p0 (by decide)
  rw [decide_eq_true ⟨rfl, rfl, rfl, rfl⟩] at p4
  have hz : gvAt d m 0 = ⟨d, m, 0, true⟩ := rfl
  rw [hz] at L
  generalize gvAt d m (allD d m).length = ge at L p1 p2 p3
  generalize allD d m = want at L h2
  exact pure_of (hs := hint [((1,2), {val := some (bl (false))}), ((3,2), {call := some (AV.tup [A (giveL { data := d, most := (↑m : Int), at_ := (0 : Int), live := true : Give }), i64 (0 : Int)])}), ((4,2), {call := some (slR want (0 : Int))}), ((10,1000), {loop := some ({ ks := [5, 7, 9], l := [0] }, gvSt want { data := d, most := (↑m : Int), at_ := (0 : Int), live := true : Give } (0 : Nat), Ex.exit (0 : Nat), gvSt want ge want.length)}), ((16,1), {call := some (putR (p0, false))}), ((17,4), {call := some (bl true)}), ((17,8), {call := some (A (pieceL { incr := false, total := (0 : Int), data := [], last := false : Piece }))}), ((17,10), {call := some (bl true)}), ((17,14), {call := some (A (giveL ge))}), ((17,15), {call := some (bl true)}), ((17,18), {call := some (bl true)})]) (ps := [bl (decide ((↑d.length : Int) > (300 : Int))) = bl (false), _, _, gvSt want { data := d, most := (↑m : Int), at_ := (0 : Int), live := true : Give } (0 : Nat) = gvSt want { data := d, most := (↑m : Int), at_ := (0 : Int), live := true : Give } (0 : Nat), _, true = true, true = true, _, _, _, _, _, _, _]) (by kernel_rfl) ⟨(bdF (by assumption)), (h1), (h2), rfl, L, rfl, rfl, (p1), (p2), (of_ok ({ incr := false, total := (0 : Int), data := [], last := false : Piece })), (p4), (p3), (p2), (awake_ok), trivial⟩
theorem gives_ok (d : List Int) (n : Int) : Pu 3 [slI d, i64 n] (bl true) := by
  by_cases h : (d.length : Int) > 300
  · exact pure_of (hs := hint [((1,2), {val := some (bl (true))}), ((2,0), {call := some (bl true)})]) (ps := [bl (decide ((↑d.length : Int) > (300 : Int))) = bl (true), _]) (by kernel_rfl) ⟨(bdT (by assumption)), (awake_ok), trivial⟩
  · by_cases hm : n < 1 ∨ n > 16382
    · have h1 := new_size d n hm
      have h2 := all_size d n hm
      exact pure_of (hs := hint [((1,2), {val := some (bl (false))}), ((3,2), {call := some (AV.tup [A (giveL { data := [], most := (0 : Int), at_ := (0 : Int), live := false : Give }), i64 (17 : Int)])}), ((4,2), {call := some (slR [] (17 : Int))}), ((8,0), {call := some (bl true)})]) (ps := [bl (decide ((↑d.length : Int) > (300 : Int))) = bl (false), _, _, _]) (by kernel_rfl) ⟨(bdF (by assumption)), (h1), (h2), (awake_ok), trivial⟩
    · by_cases hn : numsD d = true
      · obtain ⟨m, rfl⟩ : ∃ m : Nat, n = m := ⟨n.toNat, by omega⟩
        exact gives_good d m h hm hn
      · have h1 := new_range d n hm (by omega) hn
        have h2 := all_range d n hm (by omega) hn
        exact pure_of (hs := hint [((1,2), {val := some (bl (false))}), ((3,2), {call := some (AV.tup [A (giveL { data := [], most := (0 : Int), at_ := (0 : Int), live := false : Give }), i64 (1 : Int)])}), ((4,2), {call := some (slR [] (1 : Int))}), ((8,0), {call := some (bl true)})]) (ps := [bl (decide ((↑d.length : Int) > (300 : Int))) = bl (false), _, _, _]) (by kernel_rfl) ⟨(bdF (by assumption)), (h1), (h2), (awake_ok), trivial⟩
end Go.Proofs.Ytpopnaeojjcngaa
