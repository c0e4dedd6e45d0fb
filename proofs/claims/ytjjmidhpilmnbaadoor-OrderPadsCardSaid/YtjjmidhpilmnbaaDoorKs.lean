/- Rows: one answer, each the other's way back; Same. By the prover of this seat. -/
import Derived.Test.YtjjmidhpilmnbaaDoorKr
set_option linter.unusedVariables false
set_option linter.unusedSimpArgs false
set_option maxRecDepth 100000
namespace Go.Proofs.YtjjmidhpilmnbaaDoor
open Go.RowKit Go.Pm
def rowsD (o n : Int) (b : ByteArray) : List Int × Int :=
  if o ≠ 0 ∧ o ≠ 1 then ([], 10) else match knownD n with
  | none => ([], 17)
  | some s => if 262144 < b.size then ([], 4) else if ¬ b.size % s.wd = 0 then ([], 3) else (readsD o s s.wd b (b.size / s.wd), 0)
theorem rs_odd (o n : Int) (b : ByteArray) (h0 : ¬ o = 0) (h1 : ¬ o = 1) : Pu 18 [i64 o, i64 n, st b] (rowsR ([], 10)) := by
  exact pure_of (hs := hint [((1,2), {call := some (AV.tup [A (spL sp0), i64 (10 : Int)])})]) (ps := [_]) (by kernel_rfl) ⟨(known_odd (o) (n) (by assumption) (by assumption)), trivial⟩
theorem rs_none (o n : Int) (b : ByteArray) (ho : o = 0 ∨ o = 1) (h : knownD n = none) : Pu 18 [i64 o, i64 n, st b] (rowsR ([], 17)) := by
  exact pure_of (hs := hint [((1,2), {call := some (AV.tup [A (spL sp0), i64 (17 : Int)])})]) (ps := [_]) (by kernel_rfl) ⟨(known_none (o) (n) (by assumption) (by assumption)), trivial⟩
theorem rs_long (o n : Int) (b : ByteArray) (s : Span) (ho : o = 0 ∨ o = 1) (h : knownD n = some s) (hl : 262144 < b.size) : Pu 18 [i64 o, i64 n, st b] (rowsR ([], 4)) := by
  exact pure_of (hs := hint [((1,2), {call := some (AV.tup [A (spL s), i64 (0 : Int)])}), ((4,2), {val := some (bl (true))})]) (ps := [_, bl (decide ((↑b.size : Int) > (262144 : Int))) = bl (true)]) (by kernel_rfl) ⟨(known_some o n s ho h), (bdT (by omega)), trivial⟩
theorem rs_short (o n : Int) (b : ByteArray) (s : Span) (w : Nat) (ho : o = 0 ∨ o = 1) (h : knownD n = some s) (h3 : w = 1 ∨ w = 2 ∨ w = 4) (hw : s.wide w) (hl : b.size ≤ 262144) (h0 : ¬ (w : Int) = 0) (hm : ¬ (b.size : Int) % (w : Int) = 0) : Pu 18 [i64 o, i64 n, st b] (rowsR ([], 3)) := by
  exact pure_of (hs := hint [((1,2), {call := some (AV.tup [A (spL s), i64 (0 : Int)])}), ((4,2), {val := some (bl (false))}), ((6,1), {call := some (i64 (↑w : Int))}), ((7,3), {val := some (i64 ((↑b.size : Int) % (↑w : Int))), sym := true}), ((7,4), {val := some (bl (true))})]) (ps := [_, bl (decide ((↑b.size : Int) > (262144 : Int))) = bl (false), _, decide ((↑w : Int) ≠ (0 : Int)) = true, i64 ((↑b.size : Int).tmod (↑w : Int)) = i64 ((↑b.size : Int) % (↑w : Int)), bl ((↑b.size : Int) % (↑w : Int) != (0 : Int)) = bl (true)]) (by kernel_rfl) ⟨(known_some o n s ho h), (bdF (by omega)), (width_ok s w h3 hw), (by exact decide_t (by omega)), (intE (Int.tmod_eq_emod_of_nonneg (by omega))), (neF (by assumption)), trivial⟩
theorem rows_all (o n : Int) (b : ByteArray) : Pu 18 [i64 o, i64 n, st b] (rowsR (rowsD o n b)) := by
  unfold rowsD
  by_cases h : o ≠ 0 ∧ o ≠ 1
  · rw [if_pos h]; exact rs_odd o n b h.1 h.2
  · rw [if_neg h]
    have ho : o = 0 ∨ o = 1 := by omega
    cases hk : knownD n with
    | none => exact rs_none o n b ho hk
    | some s =>
      simp only
      by_cases hl : 262144 < b.size
      · rw [if_pos hl]; exact rs_long o n b s ho hk hl
      · rw [if_neg hl]
        obtain ⟨h3, hw⟩ := wide_wd hk
        by_cases hm : b.size % s.wd = 0
        · rw [if_neg (fun q => q hm)]
          rcases h3 with e | e | e <;> rw [e] at hw hm ⊢
          · exact rs_good_1 o n s b (b.size / 1) ho hk e hw (by omega) (by omega)
          · exact rs_good_2 o n s b (b.size / 2) ho hk e hw (by omega) (by omega)
          · exact rs_good_4 o n s b (b.size / 4) ho hk e hw (by omega) (by omega)
        · rw [if_pos hm]
          exact rs_short o n b s s.wd ho hk h3 hw (by omega) (by rcases h3 with e | e | e <;> omega) (fun q => hm (by rcases h3 with e | e | e <;> rw [e] at q ⊢ <;> omega))
theorem rt_odd (o n : Int) (b : ByteArray) (h0 : ¬ o = 0) (h1 : ¬ o = 1) : Pu 20 [i64 o, i64 n, st b] (rowsR ([], 10)) := by
  have hp := rput_all o n 0
  rw [put_zero, if_pos ⟨h0, h1⟩] at hp
  exact pure_of (hs := hint [((1,2), {call := some (putR (e0, (10 : Int)))})]) (ps := [_]) (by kernel_rfl) ⟨(hp), trivial⟩
theorem rt_none (o n : Int) (b : ByteArray) (ho : o = 0 ∨ o = 1) (h : knownD n = none) : Pu 20 [i64 o, i64 n, st b] (rowsR ([], 17)) := by
  have hp := rput_all o n 0
  rw [put_zero, if_neg (by omega), h] at hp
  simp only at hp
  exact pure_of (hs := hint [((1,2), {call := some (putR (e0, (17 : Int)))})]) (ps := [_]) (by kernel_rfl) ⟨(hp), trivial⟩
theorem rt_long (o n : Int) (b : ByteArray) (s : Span) (ho : o = 0 ∨ o = 1) (h : knownD n = some s) (hl : 262144 < b.size) : Pu 20 [i64 o, i64 n, st b] (rowsR ([], 4)) := by
  have hp := rput_all o n 0
  rw [put_zero, if_neg (by omega), h] at hp
  simp only at hp
  exact pure_of (hs := hint [((1,2), {call := some (putR (strA (bytesOf o s.wd (0 : Int)), (0 : Int)))}), ((4,2), {val := some (bl (true))})]) (ps := [_, bl (decide ((↑b.size : Int) > (262144 : Int))) = bl (true)]) (by kernel_rfl) ⟨(hp), (bdT (by omega)), trivial⟩
theorem rt_short (o n : Int) (b : ByteArray) (s : Span) (w : Nat) (ho : o = 0 ∨ o = 1) (h : knownD n = some s) (h3 : w = 1 ∨ w = 2 ∨ w = 4) (hw : s.wide w) (hl : b.size ≤ 262144) (h0 : ¬ (w : Int) = 0) (hm : ¬ (b.size : Int) % (w : Int) = 0) : Pu 20 [i64 o, i64 n, st b] (rowsR ([], 3)) := by
  have hp := rput_all o n 0
  rw [put_zero, if_neg (by omega), h] at hp
  simp only at hp
  exact pure_of (hs := hint [((1,2), {call := some (putR (strA (bytesOf o s.wd (0 : Int)), (0 : Int)))}), ((4,2), {val := some (bl (false))}), ((6,1), {call := some (i64 (↑w : Int))}), ((7,3), {val := some (i64 ((↑b.size : Int) % (↑w : Int))), sym := true}), ((7,4), {val := some (bl (true))})]) (ps := [_, bl (decide ((↑b.size : Int) > (262144 : Int))) = bl (false), _, decide ((↑w : Int) ≠ (0 : Int)) = true, i64 ((↑b.size : Int).tmod (↑w : Int)) = i64 ((↑b.size : Int) % (↑w : Int)), bl ((↑b.size : Int) % (↑w : Int) != (0 : Int)) = bl (true)]) (by kernel_rfl) ⟨(hp), (bdF (by omega)), (rsize_ok h hw), (by exact decide_t (by omega)), (intE (Int.tmod_eq_emod_of_nonneg (by omega))), (neF (by assumption)), trivial⟩
theorem rrows_all (o n : Int) (b : ByteArray) : Pu 20 [i64 o, i64 n, st b] (rowsR (rowsD o n b)) := by
  unfold rowsD
  by_cases h : o ≠ 0 ∧ o ≠ 1
  · rw [if_pos h]; exact rt_odd o n b h.1 h.2
  · rw [if_neg h]
    have ho : o = 0 ∨ o = 1 := by omega
    cases hk : knownD n with
    | none => exact rt_none o n b ho hk
    | some s =>
      simp only
      by_cases hl : 262144 < b.size
      · rw [if_pos hl]; exact rt_long o n b s ho hk hl
      · rw [if_neg hl]
        obtain ⟨h3, hw⟩ := wide_wd hk
        by_cases hm : b.size % s.wd = 0
        · rw [if_neg (fun q => q hm)]
          rcases h3 with e | e | e <;> rw [e] at hw hm ⊢
          · exact rt_good_1 o n s b (b.size / 1) ho hk e hw (by omega) (by omega)
          · exact rt_good_2 o n s b (b.size / 2) ho hk e hw (by omega) (by omega)
          · exact rt_good_4 o n s b (b.size / 4) ho hk e hw (by omega) (by omega)
        · rw [if_pos hm]
          exact rt_short o n b s s.wd ho hk h3 hw (by omega) (by rcases h3 with e | e | e <;> omega) (fun q => hm (by rcases h3 with e | e | e <;> rw [e] at q ⊢ <;> omega))
/-! the same numbers -/
noncomputable def saBody : Code := loopOf Tryd.prog 19 4
def saSt (a b : List Int) (k : Nat) : St := ⟨mkT 26 [(0, slI a), (1, slI b), (5, i64 k)], []⟩
def saBad : St := ⟨mkT 26 [(4, bl false)], []⟩
theorem sa_step (a b : List Int) (k : Nat) (hk : k < a.length) (hl : a.length = b.length) (hm : a.length ≤ 1000000000) (hv : nth a k = nth b k) : Tri C1 saBody (saSt a b k) .normal (saSt a b (k + 1)) := by
  exact runF_ok (hs := hint [((4,3), {val := some (bl (true))}), ((6,2), {cells := some (eI (nth a k) ++ List.flatMap eI (List.drop (k + (1 : Nat)) a)), sym := true}), ((6,6), {cells := some (eI (nth b k) ++ List.flatMap eI (List.drop (k + (1 : Nat)) b)), sym := true}), ((6,8), {val := some (bl (false))}), ((5,1), {val := some (i64 ((↑k : Int) + (1 : Int)))})]) (f := { ks := [0, 1, 5] }) (ps := [bl (decide ((↑k : Int) < (↑a.length : Int))) = bl (true), decide ((0 : Int) ≤ (↑k : Int) ∧ (↑k : Int) < (↑a.length : Int)) = true, ((List.drop ((↑k : Int).toNat * (1 : Nat)) (List.flatMap eI a)) : List AV) = (eI (nth a k) ++ List.flatMap eI (List.drop (k + (1 : Nat)) a)), decide ((0 : Int) ≤ (↑k : Int) ∧ (↑k : Int) < (↑b.length : Int)) = true, ((List.drop ((↑k : Int).toNat * (1 : Nat)) (List.flatMap eI b)) : List AV) = (eI (nth b k) ++ List.flatMap eI (List.drop (k + (1 : Nat)) b)), bl (nth a k != nth b k) = bl (false), i64 (IntKind.i64.wrap ((↑k : Int) + (1 : Int))) = i64 ((↑k : Int) + (1 : Int)), true = true]) (by kernel_rfl) ⟨(bdT (by omega)), (by exact decide_t (by omega)), (by exact flat_nth (sz := 1) (k := k) (fun _ => rfl) (by omega)), (by exact decide_t (by omega)), (by exact flat_nth (sz := 1) (k := k) (fun _ => rfl) (by omega)), (neT (by assumption)), (intE (by exact wrap_i64 (by omega) (by omega))), rfl, trivial⟩
theorem sa_bad (a b : List Int) (k : Nat) (hk : k < a.length) (hl : a.length = b.length) (hm : a.length ≤ 1000000000) (hv : ¬ nth a k = nth b k) : LoopT C1 saBody (saSt a b k) .ret saBad := by
  exact LoopT.fin (hs := hint [((4,3), {val := some (bl (true))}), ((6,2), {cells := some (eI (nth a k) ++ List.flatMap eI (List.drop (k + (1 : Nat)) a)), sym := true}), ((6,6), {cells := some (eI (nth b k) ++ List.flatMap eI (List.drop (k + (1 : Nat)) b)), sym := true}), ((6,8), {val := some (bl (true))})]) (f := { ks := [4] }) (ps := [bl (decide ((↑k : Int) < (↑a.length : Int))) = bl (true), decide ((0 : Int) ≤ (↑k : Int) ∧ (↑k : Int) < (↑a.length : Int)) = true, ((List.drop ((↑k : Int).toNat * (1 : Nat)) (List.flatMap eI a)) : List AV) = (eI (nth a k) ++ List.flatMap eI (List.drop (k + (1 : Nat)) a)), decide ((0 : Int) ≤ (↑k : Int) ∧ (↑k : Int) < (↑b.length : Int)) = true, ((List.drop ((↑k : Int).toNat * (1 : Nat)) (List.flatMap eI b)) : List AV) = (eI (nth b k) ++ List.flatMap eI (List.drop (k + (1 : Nat)) b)), bl (nth a k != nth b k) = bl (true), true = true]) (by kernel_rfl) ⟨(bdT (by omega)), (by exact decide_t (by omega)), (by exact flat_nth (sz := 1) (k := k) (fun _ => rfl) (by omega)), (by exact decide_t (by omega)), (by exact flat_nth (sz := 1) (k := k) (fun _ => rfl) (by omega)), (neF (by assumption)), rfl, trivial⟩ (by decide)
theorem sa_end (a b : List Int) : LoopT C1 saBody (saSt a b a.length) (.exit 0) (saSt a b a.length) := by
  exact LoopT.fin (hs := hint [((4,3), {val := some (bl (false))})]) (f := { ks := [0, 1, 5] }) (ps := [bl (decide ((↑a.length : Int) < (↑a.length : Int))) = bl (false), true = true]) (by kernel_rfl) ⟨(bdF (by omega)), rfl, trivial⟩ (by decide)
theorem first_un : ∀ (a b : List Int), a.length = b.length → ¬ a = b → ∃ k, k < a.length ∧ ¬ nth a k = nth b k ∧ ∀ j, j < k → nth a j = nth b j := by
  intro a
  induction a with
  | nil => intro b h hn; cases b with
    | nil => exact absurd rfl hn
    | cons => simp at h
  | cons x a ih =>
    intro b h hn
    cases b with
    | nil => simp at h
    | cons y b =>
      by_cases hx : x = y
      · subst hx
        obtain ⟨k, h1, h2, h3⟩ := ih b (by simpa using h) (fun q => hn (by rw [q]))
        refine ⟨k + 1, by simp; omega, h2, fun j hj => ?_⟩
        cases j with
        | zero => rfl
        | succ j => exact h3 j (by omega)
      · exact ⟨0, by simp, hx, fun j hj => by omega⟩
theorem same_len (a b : List Int) (hl : ¬ a.length = b.length) : Pu 19 [slI a, slI b] (bl false) := by
  exact pure_of (hs := hint [((1,4), {val := some (bl (true))})]) (ps := [bl ((↑a.length : Int) != (↑b.length : Int)) = bl (true)]) (by kernel_rfl) ⟨(neF (by omega)), trivial⟩
theorem same_yes (a : List Int) (hm : a.length ≤ 1000000000) : Pu 19 [slI a, slI a] (bl true) := by
  have L := LoopT.count (saSt a a) a.length (fun k hk => sa_step a a k hk rfl hm rfl) (sa_end a a) 0 (by omega)
  exact pure_of (hs := hint [((1,4), {val := some (bl (false))}), ((4,1000), {loop := some ({ ks := [0, 1, 5] }, saSt a a (0 : Nat), Ex.exit (0 : Nat), saSt a a a.length)})]) (ps := [bl ((↑a.length : Int) != (↑a.length : Int)) = bl (false), saSt a a (0 : Nat) = saSt a a (0 : Nat), _, true = true]) (by kernel_rfl) ⟨(neT (by omega)), rfl, L, rfl, trivial⟩
theorem same_no (a b : List Int) (hl : a.length = b.length) (hm : a.length ≤ 1000000000) (hn : ¬ a = b) : Pu 19 [slI a, slI b] (bl false) := by
  obtain ⟨m, h1, h2, h3⟩ := first_un a b hl hn
  have L := LoopT.count (saSt a b) m (fun k hk => sa_step a b k (by omega) hl hm (h3 k hk)) (sa_bad a b m h1 hl hm h2) 0 (by omega)
  exact pure_of (hs := hint [((1,4), {val := some (bl (false))}), ((4,1000), {loop := some ({ ks := [0, 1, 5] }, saSt a b (0 : Nat), Ex.ret, saBad)})]) (ps := [bl ((↑a.length : Int) != (↑b.length : Int)) = bl (false), saSt a b (0 : Nat) = saSt a b (0 : Nat), _, true = true]) (by kernel_rfl) ⟨(neT (by omega)), rfl, L, rfl, trivial⟩
theorem same_ok (a b : List Int) (hm : a.length ≤ 1000000000) : Pu 19 [slI a, slI b] (bl (decide (a = b))) := by
  by_cases hl : a.length = b.length
  · by_cases hn : a = b
    · subst hn; rw [decide_eq_true rfl]; exact same_yes a hm
    · rw [decide_eq_false hn]; exact same_no a b hl hm hn
  · rw [decide_eq_false (fun q => hl (by rw [q]))]; exact same_len a b hl
/-! the way back -/
theorem piece_row (o : Int) (s : Span) (w : Nat) (l : List Int) (k : Nat) (hk : k < l.length) (hw : ∀ x, (bytesOf o w x).length = w) : piece w (strA (rowB o w l)) k = strA (bytesOf o w (nth l k)) := by
  have e : rowB o w l = rowB o w (l.take k) ++ (bytesOf o w (nth l k) ++ rowB o w (l.drop (k + 1))) := by
    conv => lhs; rw [← List.take_append_drop k l, drop_nth hk]
    simp [rowB]
  have l1 : (rowB o w (l.take k)).length = w * k := len_rowB_take o w l k (by omega)
  apply ByteArray.ext
  rw [piece, ByteArray.data_extract]
  apply Array.ext'
  rw [Array.toList_extract, List.extract_eq_take_drop]
  show ((List.map toByte (rowB o w l)).drop (w * k)).take (w * k + w - w * k) = List.map toByte (bytesOf o w (nth l k))
  rw [show w * k + w - w * k = w by omega, ← List.map_drop, e, List.drop_left' l1, ← List.map_take, List.take_left' (hw _)]
theorem reads_row (o n : Int) (s : Span) (l : List Int) (ho : o = 0 ∨ o = 1) (h : knownD n = some s) (hv : l.all (hasD s) = true) : readsD o s s.wd (strA (rowB o s.wd l)) l.length = l := by
  apply List.ext_getElem (by simp [readsD])
  intro i h1 h2
  simp only [readsD, List.getElem_map, List.getElem_range]
  rw [piece_row o s s.wd l i h2 (fun x => by simp [bytesOf]), read_put o n (nth l i) s ho h (all_nth hv i h2), nth_eq h2]
theorem rows_row (o n : Int) (l : List Int) (h : (rowD o n l).2 = 0) : rowsD o n (rowD o n l).1 = (l, 0) := by
  unfold rowD at h ⊢
  unfold rowsD
  by_cases ho : o ≠ 0 ∧ o ≠ 1
  · rw [if_pos ho] at h; simp at h
  · rw [if_neg ho] at h ⊢
    rw [if_neg ho]
    have ho' : o = 0 ∨ o = 1 := by omega
    cases hk : knownD n with
    | none => rw [hk] at h; simp at h
    | some s =>
      rw [hk] at h
      simp only at h ⊢
      by_cases hl : 65536 < l.length
      · simp [hl] at h
      · rw [if_neg hl] at h ⊢
        by_cases hv : l.all (hasD s) = true
        · rw [if_pos hv]
          simp only
          have h3 := (wide_wd hk).1
          have hs : (strA (rowB o s.wd l)).size = s.wd * l.length := by rw [strA_size, rowB_len]
          have h0 : 0 < s.wd := by rcases h3 with e | e | e <;> omega
          have h4 : s.wd * l.length ≤ 4 * 65536 := Nat.mul_le_mul (by rcases h3 with e | e | e <;> omega) (by omega)
          rw [hs, if_neg (by omega), Nat.mul_mod_right, if_neg (by simp), Nat.mul_div_cancel_left _ h0, reads_row o n s l ho' hk hv]
        · rw [if_neg hv] at h; simp at h
theorem flat_congr {α β : Type} {l : List α} {f g : α → List β} (h : ∀ x ∈ l, f x = g x) : l.flatMap f = l.flatMap g := by
  induction l with
  | nil => rfl
  | cons x l ih => rw [List.flatMap_cons, List.flatMap_cons, h x (List.mem_cons_self ..), ih fun y hy => h y (List.mem_cons_of_mem _ hy)]
theorem pieces_all (w : Nat) (L : List UInt8) (m : Nat) : (List.range m).flatMap (fun i => (L.drop (w * i)).take w) = L.take (w * m) := by
  induction m with
  | zero => simp
  | succ m ih => rw [List.range_succ, List.flatMap_append, ih, Nat.mul_add, Nat.mul_one, List.take_add]; simp
theorem row_reads (o n : Int) (b : ByteArray) (hb : b.size ≤ 600) (h : (rowsD o n b).2 = 0) : rowD o n (rowsD o n b).1 = (b, 0) := by
  unfold rowsD at h ⊢
  unfold rowD
  by_cases ho : o ≠ 0 ∧ o ≠ 1
  · rw [if_pos ho] at h; simp at h
  · rw [if_neg ho] at h ⊢
    rw [if_neg ho]
    have ho' : o = 0 ∨ o = 1 := by omega
    cases hk : knownD n with
    | none => rw [hk] at h; simp at h
    | some s =>
      rw [hk] at h
      simp only at h ⊢
      by_cases hl : 262144 < b.size
      · simp [hl] at h
      · rw [if_neg hl] at h ⊢
        by_cases hm : b.size % s.wd = 0
        · have e1 : (if ¬b.size % s.wd = 0 then (([], 3) : List Int × Int) else (readsD o s s.wd b (b.size / s.wd), 0)) = (readsD o s s.wd b (b.size / s.wd), 0) := if_neg (fun q => q hm)
          rw [e1]
          simp only
          have h3 := (wide_wd hk).1
          have h0 : 0 < s.wd := by rcases h3 with e | e | e <;> omega
          have hd : s.wd * (b.size / s.wd) = b.size := Nat.mul_div_cancel' (Nat.dvd_of_mod_eq_zero hm)
          have hp : ∀ i, i < b.size / s.wd → (piece s.wd b i).size = s.wd := fun i hi => piece_size s.wd b i (by
            have : s.wd * (i + 1) ≤ s.wd * (b.size / s.wd) := Nat.mul_le_mul (Nat.le_refl _) hi
            rw [Nat.mul_add, Nat.mul_one] at this
            omega)
          have hq : ¬ 65536 < b.size / s.wd := by
            have := Nat.div_le_self b.size s.wd
            omega
          have ha : (readsD o s s.wd b (b.size / s.wd)).all (hasD s) = true := by
            refine List.all_eq_true.2 fun x hx => ?_
            simp only [readsD, List.mem_map, List.mem_range] at hx
            obtain ⟨i, hi, rfl⟩ := hx
            exact (put_read o n _ s ho' hk (hp i hi)).1
          rw [reads_len, if_neg hq, if_pos ha]
          refine Prod.ext ?_ rfl
          show strA (rowB o s.wd (readsD o s s.wd b (b.size / s.wd))) = b
          apply ByteArray.ext
          apply Array.ext'
          show List.map toByte (rowB o s.wd (readsD o s s.wd b (b.size / s.wd))) = b.data.toList
          have hbl : b.data.toList.length = b.size := by rw [Array.length_toList]; rfl
          have key : List.map toByte (rowB o s.wd (readsD o s s.wd b (b.size / s.wd))) = (List.range (b.size / s.wd)).flatMap (fun i => (b.data.toList.drop (s.wd * i)).take s.wd) := by
            simp only [rowB, readsD, List.flatMap_map, List.map_flatMap]
            refine flat_congr fun i hi => ?_
            rw [List.mem_range] at hi
            have hx := (put_read o n _ s ho' hk (hp i hi)).2
            have hy : List.map toByte (bytesOf o s.wd (readD o s (piece s.wd b i))) = (piece s.wd b i).data.toList := congrArg (fun z : ByteArray => z.data.toList) hx
            rw [hy, piece, ByteArray.data_extract, Array.toList_extract, List.extract_eq_take_drop, show s.wd * i + s.wd - s.wd * i = s.wd by omega]
          rw [key, pieces_all, hd, List.take_of_length_le (by omega)]
        · rw [if_pos hm] at h; simp at h
end Go.Proofs.YtjjmidhpilmnbaaDoor
