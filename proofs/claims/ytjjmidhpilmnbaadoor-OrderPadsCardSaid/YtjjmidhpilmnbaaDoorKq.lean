/- Row: one answer; the law Rows' half. By the prover of this seat. -/
import Derived.Test.YtjjmidhpilmnbaaDoorKo
set_option linter.unusedVariables false
set_option linter.unusedSimpArgs false
set_option maxRecDepth 100000
namespace Go.Proofs.YtjjmidhpilmnbaaDoor
open Go.RowKit Go.Pm
def rowD (o n : Int) (l : List Int) : ByteArray × Int :=
  if o ≠ 0 ∧ o ≠ 1 then (e0, 10) else match knownD n with
  | none => (e0, 17)
  | some s => if 65536 < l.length then (e0, 5) else if l.all (hasD s) = true then (strA (rowB o s.wd l), 0) else (e0, 1)
theorem row_odd (o n : Int) (l : List Int) (h0 : ¬ o = 0) (h1 : ¬ o = 1) : Pu 16 [i64 o, i64 n, slI l] (putR (e0, 10)) := by
  exact pure_of (hs := hint [((1,2), {call := some (AV.tup [A (spL sp0), i64 (10 : Int)])})]) (ps := [_]) (by kernel_rfl) ⟨(known_odd (o) (n) (by assumption) (by assumption)), trivial⟩
theorem row_none (o n : Int) (l : List Int) (ho : o = 0 ∨ o = 1) (h : knownD n = none) : Pu 16 [i64 o, i64 n, slI l] (putR (e0, 17)) := by
  exact pure_of (hs := hint [((1,2), {call := some (AV.tup [A (spL sp0), i64 (17 : Int)])})]) (ps := [_]) (by kernel_rfl) ⟨(known_none (o) (n) (by assumption) (by assumption)), trivial⟩
theorem row_many (o n : Int) (l : List Int) (s : Span) (ho : o = 0 ∨ o = 1) (h : knownD n = some s) (hl : 65536 < l.length) : Pu 16 [i64 o, i64 n, slI l] (putR (e0, 5)) := by
  exact pure_of (hs := hint [((1,2), {call := some (AV.tup [A (spL s), i64 (0 : Int)])}), ((4,2), {val := some (bl (true))})]) (ps := [_, bl (decide ((↑l.length : Int) > (65536 : Int))) = bl (true)]) (by kernel_rfl) ⟨(known_some o n s ho h), (bdT (by omega)), trivial⟩
theorem row_all (o n : Int) (l : List Int) : Pu 16 [i64 o, i64 n, slI l] (putR (rowD o n l)) := by
  unfold rowD
  by_cases h : o ≠ 0 ∧ o ≠ 1
  · rw [if_pos h]; exact row_odd o n l h.1 h.2
  · rw [if_neg h]
    have ho : o = 0 ∨ o = 1 := by omega
    cases hk : knownD n with
    | none => exact row_none o n l ho hk
    | some s =>
      simp only
      by_cases hl : 65536 < l.length
      · rw [if_pos hl]; exact row_many o n l s ho hk hl
      · rw [if_neg hl]
        obtain ⟨h3, hw⟩ := wide_wd hk
        by_cases hv : l.all (hasD s) = true
        · rw [if_pos hv]
          rcases h3 with e | e | e <;> rw [e] at hw ⊢ <;> rcases ho with rfl | rfl
          · exact row_good_0_1 n s l hk hw (by omega) hv
          · exact row_good_1_1 n s l hk hw (by omega) hv
          · exact row_good_0_2 n s l hk hw (by omega) hv
          · exact row_good_1_2 n s l hk hw (by omega) hv
          · exact row_good_0_4 n s l hk hw (by omega) hv
          · exact row_good_1_4 n s l hk hw (by omega) hv
        · rw [if_neg hv]
          rcases h3 with e | e | e <;> rw [e] at hw <;> rcases ho with rfl | rfl
          · exact row_bad_0_1 n s l hk hw (by omega) hv
          · exact row_bad_1_1 n s l hk hw (by omega) hv
          · exact row_bad_0_2 n s l hk hw (by omega) hv
          · exact row_bad_1_2 n s l hk hw (by omega) hv
          · exact row_bad_0_4 n s l hk hw (by omega) hv
          · exact row_bad_1_4 n s l hk hw (by omega) hv
/-! the reference's -/
theorem put_zero (o n : Int) : putD o n 0 = (if o ≠ 0 ∧ o ≠ 1 then (e0, 10) else match knownD n with | none => (e0, 17) | some s => (strA (bytesOf o s.wd 0), 0) : ByteArray × Int) := by
  unfold putD
  split
  · rfl
  · cases hk : knownD n with
    | none => rfl
    | some s =>
      have : hasD s 0 = true := by rcases known_cases hk with ⟨rfl, rfl⟩ | ⟨rfl, rfl⟩ | ⟨rfl, rfl⟩ | ⟨rfl, rfl⟩ | ⟨rfl, rfl⟩ | ⟨rfl, rfl⟩ <;> decide
      simp only [this, if_true]
theorem put_some (o n v : Int) (s : Span) (ho : o = 0 ∨ o = 1) (h : knownD n = some s) : (hasD s v = true → putD o n v = (strA (bytesOf o s.wd v), 0)) ∧ (¬ hasD s v = true → putD o n v = (e0, 1)) := by
  unfold putD
  rw [if_neg (by omega), h]
  exact ⟨fun q => by simp only [q, if_true], fun q => by simp only [q]; rfl⟩
noncomputable def rrBody : Code := loopOf Tryd.prog 17 8
def rrSt (o n : Int) (w : Nat) (l : List Int) (k : Nat) : St := ⟨mkT 49 [(0, i64 o), (1, i64 n), (2, slI l), (10, st (strA (rowB o w (l.take k)))), (11, i64 k)], []⟩
theorem rr_step (o n : Int) (s : Span) (l : List Int) (k : Nat) (ho : o = 0 ∨ o = 1) (hs : knownD n = some s) (hk : k < l.length) (hl : l.length ≤ 65536) (hv : hasD s (nth l k) = true) : Tri C1 rrBody (rrSt o n s.wd l k) .normal (rrSt o n s.wd l (k + 1)) := by
  have hp := rput_all o n (nth l k)
  rw [(put_some o n (nth l k) s ho hs).1 hv] at hp
  have h4 : s.wd ≤ 4 := by rcases (wide_wd hs).1 with e | e | e <;> omega
  have hz : (strA (rowB o s.wd (l.take k))).size ≤ 262144 := by
    rw [strA_size, len_rowB_take o s.wd l k (by omega)]
    have : s.wd * k ≤ 4 * 65536 := Nat.mul_le_mul h4 (by omega)
    omega
  have hz2 : (strA (bytesOf o s.wd (nth l k))).size ≤ 4 := by rw [put_size]; omega
  have e : strA (rowB o s.wd (l.take k)) ++ strA (bytesOf o s.wd (nth l k)) = strA (rowB o s.wd (l.take (k + 1))) := by rw [strA_app, rowB_snoc o s.wd l k hk]
  exact runF_ok (hs := hint [((8,3), {val := some (bl (true))}), ((10,4), {cells := some (eI (nth l k) ++ List.flatMap eI (List.drop (k + (1 : Nat)) l)), sym := true}), ((10,6), {call := some (putR (strA (bytesOf o s.wd (nth l k)), (0 : Int)))}), ((13,2), {sym := true}), ((13,3), {val := some (st (strA (rowB o s.wd (List.take (k + (1 : Nat)) l))))}), ((9,1), {val := some (i64 ((↑k : Int) + (1 : Int)))})]) (f := { ks := [0, 1, 2, 10, 11] }) (ps := [bl (decide ((↑k : Int) < (↑l.length : Int))) = bl (true), decide ((0 : Int) ≤ (↑k : Int) ∧ (↑k : Int) < (↑l.length : Int)) = true, ((List.drop ((↑k : Int).toNat * (1 : Nat)) (List.flatMap eI l)) : List AV) = (eI (nth l k) ++ List.flatMap eI (List.drop (k + (1 : Nat)) l)), _, decide ((strA (rowB o s.wd (List.take k l))).size + (strA (bytesOf o s.wd (nth l k))).size ≤ (9223372036854775807 : Nat)) = true, st (strA (rowB o s.wd (List.take k l)) ++ strA (bytesOf o s.wd (nth l k))) = st (strA (rowB o s.wd (List.take (k + (1 : Nat)) l))), i64 (IntKind.i64.wrap ((↑k : Int) + (1 : Int))) = i64 ((↑k : Int) + (1 : Int)), true = true]) (by kernel_rfl) ⟨(bdT (by omega)), (by exact decide_t (by omega)), (by exact flat_nth (sz := 1) (k := k) (fun _ => rfl) (by omega)), (hp), (by exact decide_t (by omega)), (by (rw [e]; done)), (intE (by exact wrap_i64 (by omega) (by omega))), rfl, trivial⟩
theorem rr_end (o n : Int) (w : Nat) (l : List Int) : LoopT C1 rrBody (rrSt o n w l l.length) (.exit 0) (rrSt o n w l l.length) := by
  exact LoopT.fin (hs := hint [((8,3), {val := some (bl (false))})]) (f := { ks := [0, 1, 2, 10, 11] }) (ps := [bl (decide ((↑l.length : Int) < (↑l.length : Int))) = bl (false), true = true]) (by kernel_rfl) ⟨(bdF (by omega)), rfl, trivial⟩ (by decide)
theorem rr_bad (o n : Int) (s : Span) (l : List Int) (k : Nat) (ho : o = 0 ∨ o = 1) (hs : knownD n = some s) (hk : k < l.length) (hv : ¬ hasD s (nth l k) = true) : LoopT C1 rrBody (rrSt o n s.wd l k) .ret rwBad := by
  have hp := rput_all o n (nth l k)
  rw [(put_some o n (nth l k) s ho hs).2 hv] at hp
  exact LoopT.fin (hs := hint [((8,3), {val := some (bl (true))}), ((10,4), {cells := some (eI (nth l k) ++ List.flatMap eI (List.drop (k + (1 : Nat)) l)), sym := true}), ((10,6), {call := some (putR (e0, (1 : Int)))})]) (f := { ks := [6, 7] }) (ps := [bl (decide ((↑k : Int) < (↑l.length : Int))) = bl (true), decide ((0 : Int) ≤ (↑k : Int) ∧ (↑k : Int) < (↑l.length : Int)) = true, ((List.drop ((↑k : Int).toNat * (1 : Nat)) (List.flatMap eI l)) : List AV) = (eI (nth l k) ++ List.flatMap eI (List.drop (k + (1 : Nat)) l)), _, true = true]) (by kernel_rfl) ⟨(bdT (by omega)), (by exact decide_t (by omega)), (by exact flat_nth (sz := 1) (k := k) (fun _ => rfl) (by omega)), (hp), rfl, trivial⟩ (by decide)
theorem rrow_odd (o n : Int) (l : List Int) (h0 : ¬ o = 0) (h1 : ¬ o = 1) : Pu 17 [i64 o, i64 n, slI l] (putR (e0, 10)) := by
  have hp := rput_all o n 0
  rw [put_zero, if_pos ⟨h0, h1⟩] at hp
  exact pure_of (hs := hint [((1,2), {call := some (putR (e0, (10 : Int)))})]) (ps := [_]) (by kernel_rfl) ⟨(hp), trivial⟩
theorem rrow_none (o n : Int) (l : List Int) (ho : o = 0 ∨ o = 1) (h : knownD n = none) : Pu 17 [i64 o, i64 n, slI l] (putR (e0, 17)) := by
  have hp := rput_all o n 0
  rw [put_zero, if_neg (by omega), h] at hp
  simp only at hp
  exact pure_of (hs := hint [((1,2), {call := some (putR (e0, (17 : Int)))})]) (ps := [_]) (by kernel_rfl) ⟨(hp), trivial⟩
theorem rrow_many (o n : Int) (l : List Int) (s : Span) (ho : o = 0 ∨ o = 1) (h : knownD n = some s) (hl : 65536 < l.length) : Pu 17 [i64 o, i64 n, slI l] (putR (e0, 5)) := by
  have hp := rput_all o n 0
  rw [put_zero, if_neg (by omega), h] at hp
  simp only at hp
  exact pure_of (hs := hint [((1,2), {call := some (putR (strA (bytesOf o s.wd (0 : Int)), (0 : Int)))}), ((4,2), {val := some (bl (true))})]) (ps := [_, bl (decide ((↑l.length : Int) > (65536 : Int))) = bl (true)]) (by kernel_rfl) ⟨(hp), (bdT (by omega)), trivial⟩
theorem rrow_good (o n : Int) (l : List Int) (s : Span) (ho : o = 0 ∨ o = 1) (h : knownD n = some s) (hl : l.length ≤ 65536) (hv : l.all (hasD s) = true) : Pu 17 [i64 o, i64 n, slI l] (putR (strA (rowB o s.wd l), 0)) := by
  have hp := rput_all o n 0
  rw [put_zero, if_neg (by omega), h] at hp
  simp only at hp
  have L := LoopT.count (rrSt o n s.wd l) l.length (fun k hk => rr_step o n s l k ho h hk hl (all_nth hv k hk)) (rr_end o n s.wd l) 0 (by omega)
  exact pure_cast (pure_of (hs := hint [((1,2), {call := some (putR (strA (bytesOf o s.wd (0 : Int)), (0 : Int)))}), ((4,2), {val := some (bl (false))}), ((8,1000), {loop := some ({ ks := [0, 1, 2, 10, 11] }, rrSt o n s.wd l (0 : Nat), Ex.exit (0 : Nat), rrSt o n s.wd l l.length)})]) (r := AV.tup [st (strA (rowB o s.wd (List.take l.length l))), i64 ((0 : Int))]) (ps := [_, bl (decide ((↑l.length : Int) > (65536 : Int))) = bl (false), rrSt o n s.wd l (0 : Nat) = rrSt o n s.wd l (0 : Nat), _, true = true]) (by kernel_rfl) ⟨(hp), (bdF (by omega)), rfl, L, rfl, trivial⟩) (by (rw [List.take_length]; rfl))
theorem rrow_bad (o n : Int) (l : List Int) (s : Span) (ho : o = 0 ∨ o = 1) (h : knownD n = some s) (hl : l.length ≤ 65536) (hv : ¬ l.all (hasD s) = true) : Pu 17 [i64 o, i64 n, slI l] (putR (e0, 1)) := by
  have hp := rput_all o n 0
  rw [put_zero, if_neg (by omega), h] at hp
  simp only at hp
  obtain ⟨m, h1, h2, h3⟩ := first_bad (hasD s) l hv
  have L := LoopT.count (rrSt o n s.wd l) m (fun k hk => rr_step o n s l k ho h (by omega) hl (h3 k hk)) (rr_bad o n s l m ho h h1 h2) 0 (by omega)
  exact pure_of (hs := hint [((1,2), {call := some (putR (strA (bytesOf o s.wd (0 : Int)), (0 : Int)))}), ((4,2), {val := some (bl (false))}), ((8,1000), {loop := some ({ ks := [0, 1, 2, 10, 11] }, rrSt o n s.wd l (0 : Nat), Ex.ret, rwBad)})]) (ps := [_, bl (decide ((↑l.length : Int) > (65536 : Int))) = bl (false), rrSt o n s.wd l (0 : Nat) = rrSt o n s.wd l (0 : Nat), _, true = true]) (by kernel_rfl) ⟨(hp), (bdF (by omega)), rfl, L, rfl, trivial⟩
theorem rrow_all (o n : Int) (l : List Int) : Pu 17 [i64 o, i64 n, slI l] (putR (rowD o n l)) := by
  unfold rowD
  by_cases h : o ≠ 0 ∧ o ≠ 1
  · rw [if_pos h]; exact rrow_odd o n l h.1 h.2
  · rw [if_neg h]
    have ho : o = 0 ∨ o = 1 := by omega
    cases hk : knownD n with
    | none => exact rrow_none o n l ho hk
    | some s =>
      simp only
      by_cases hl : 65536 < l.length
      · rw [if_pos hl]; exact rrow_many o n l s ho hk hl
      · rw [if_neg hl]
        by_cases hv : l.all (hasD s) = true
        · rw [if_pos hv]; exact rrow_good o n l s ho hk (by omega) hv
        · rw [if_neg hv]; exact rrow_bad o n l s ho hk (by omega) hv
end Go.Proofs.YtjjmidhpilmnbaaDoor
