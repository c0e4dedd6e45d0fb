/- Three laws: Rows, Reads, Pads. By the prover of this seat. -/
import Derived.Test.YtjjmidhpilmnbaaDoorKs
import Derived.Test.YtjjmidhpilmnbaaDoorKp
set_option linter.unusedVariables false
set_option linter.unusedSimpArgs false
set_option maxRecDepth 100000
namespace Go.Proofs.YtjjmidhpilmnbaaDoor
open Go.RowKit Go.Pm
theorem rows_law (o n : Int) (l : List Int) : Pu 7 [A [i64 o, i64 n], slI l] (bl true) := by
  have g : (rowD o n l).2 = 0 → (rowsD o n (rowD o n l).1).2 = 0 := fun h => by rw [rows_row o n l h]
  have g2 : (rowD o n l).2 = 0 → (rowsD o n (rowD o n l).1).1 = l := fun h => by rw [rows_row o n l h]
  by_cases hl : 300 < l.length
  · exact pure_of (hs := hint [((1,2), {val := some (bl (true))}), ((2,0), {call := some (bl true)})]) (ps := [bl (decide ((↑l.length : Int) > (300 : Int))) = bl (true), _]) (by kernel_rfl) ⟨(bdT (by omega)), (awake_ok), trivial⟩
  · have hs : (rowD o n l).2 = 0 → Pu 19 [slI (rowsD o n (rowD o n l).1).1, slI l] (bl true) := fun h => by
      rw [g2 h]; exact same_yes l (by omega)
    by_cases h1 : (rowD o n l).snd = (0 : Int)
    · exact pure_of (hs := hint [((1,2), {val := some (bl (false))}), ((3,5), {call := some (putR (rowD o n l))}), ((4,5), {call := some (putR (rowD o n l))}), ((5,3), {val := some (bl (false))}), ((5,7), {val := some (bl (false))}), ((7,1), {val := some (bl (false))}), ((9,5), {call := some (rowsR (rowsD o n (rowD o n l).fst))}), ((10,2), {val := some (bl (true))}), ((10,5), {call := some (bl true)}), ((10,8), {call := some (bl true)})]) (ps := [bl (decide ((↑l.length : Int) > (300 : Int))) = bl (false), _, _, bl (!(rowD o n l).fst.toList == (rowD o n l).fst.toList) = bl (false), bl ((rowD o n l).snd != (rowD o n l).snd) = bl (false), bl ((rowD o n l).snd != (0 : Int)) = bl (false), _, bl ((rowsD o n (rowD o n l).fst).snd == (0 : Int)) = bl (true), _, _]) (by kernel_rfl) ⟨(bdF (by omega)), (row_all (o) (n) (l)), (rrow_all (o) (n) (l)), (bnT (bsT (by (simp; done)))), (neT (by omega)), (neT h1), (rows_all (o) (n) ((rowD o n l).fst)), (beT (by omega)), (hs (by assumption)), (awake_ok), trivial⟩
    · exact pure_of (hs := hint [((1,2), {val := some (bl (false))}), ((3,5), {call := some (putR (rowD o n l))}), ((4,5), {call := some (putR (rowD o n l))}), ((5,3), {val := some (bl (false))}), ((5,7), {val := some (bl (false))}), ((7,1), {val := some (bl (true))}), ((8,0), {call := some (bl true)})]) (ps := [bl (decide ((↑l.length : Int) > (300 : Int))) = bl (false), _, _, bl (!(rowD o n l).fst.toList == (rowD o n l).fst.toList) = bl (false), bl ((rowD o n l).snd != (rowD o n l).snd) = bl (false), bl ((rowD o n l).snd != (0 : Int)) = bl (true), _]) (by kernel_rfl) ⟨(bdF (by omega)), (row_all (o) (n) (l)), (rrow_all (o) (n) (l)), (bnT (bsT (by (simp; done)))), (neT (by omega)), (neF h1), (awake_ok), trivial⟩
theorem reads_len600 (o n : Int) (b : ByteArray) (hb : b.size ≤ 600) : (rowsD o n b).1.length ≤ 600 := by
  unfold rowsD
  split
  · simp
  · split
    · simp
    · split
      · simp
      · split
        · simp
        · simp only [reads_len]
          have := Nat.div_le_self b.size (Span.wd (by assumption))
          omega
theorem reads_law (o n : Int) (b : ByteArray) : Pu 8 [A [i64 o, i64 n], st b] (bl true) := by
  by_cases hl : 600 < b.size
  · exact pure_of (hs := hint [((1,2), {val := some (bl (true))}), ((2,0), {call := some (bl true)})]) (ps := [bl (decide ((↑b.size : Int) > (600 : Int))) = bl (true), _]) (by kernel_rfl) ⟨(bdT (by omega)), (awake_ok), trivial⟩
  · have g : (rowsD o n b).2 = 0 → (rowD o n (rowsD o n b).1).2 = 0 := fun h => by rw [row_reads o n b (by omega) h]
    have g2 : (rowsD o n b).2 = 0 → (rowD o n (rowsD o n b).1).1 = b := fun h => by rw [row_reads o n b (by omega) h]
    have z := reads_len600 o n b (by omega)
    have hs : Pu 19 [slI (rowsD o n b).1, slI (rowsD o n b).1] (bl true) := same_yes _ (by omega)
    by_cases h1 : (rowsD o n b).snd = (0 : Int)
    · exact pure_of (hs := hint [((1,2), {val := some (bl (false))}), ((3,5), {call := some (rowsR (rowsD o n b))}), ((4,5), {call := some (rowsR (rowsD o n b))}), ((5,2), {call := some (bl true)}), ((5,8), {val := some (bl (false))}), ((7,1), {val := some (bl (false))}), ((9,5), {call := some (putR (rowD o n (rowsD o n b).fst))}), ((10,2), {val := some (bl (true))}), ((10,7), {val := some (bl (true))}), ((10,8), {call := some (bl true)})]) (ps := [bl (decide ((↑b.size : Int) > (600 : Int))) = bl (false), _, _, _, bl ((rowsD o n b).snd != (rowsD o n b).snd) = bl (false), bl ((rowsD o n b).snd != (0 : Int)) = bl (false), _, bl ((rowD o n (rowsD o n b).fst).snd == (0 : Int)) = bl (true), bl ((rowD o n (rowsD o n b).fst).fst.toList == b.toList) = bl (true), _]) (by kernel_rfl) ⟨(bdF (by omega)), (rows_all (o) (n) (b)), (rrows_all (o) (n) (b)), (hs), (neT (by omega)), (neT h1), (row_all (o) (n) ((rowsD o n b).fst)), (beT (by omega)), (bsT (by exact g2 (by omega))), (awake_ok), trivial⟩
    · exact pure_of (hs := hint [((1,2), {val := some (bl (false))}), ((3,5), {call := some (rowsR (rowsD o n b))}), ((4,5), {call := some (rowsR (rowsD o n b))}), ((5,2), {call := some (bl true)}), ((5,8), {val := some (bl (false))}), ((7,1), {val := some (bl (true))}), ((8,0), {call := some (bl true)})]) (ps := [bl (decide ((↑b.size : Int) > (600 : Int))) = bl (false), _, _, _, bl ((rowsD o n b).snd != (rowsD o n b).snd) = bl (false), bl ((rowsD o n b).snd != (0 : Int)) = bl (true), _]) (by kernel_rfl) ⟨(bdF (by omega)), (rows_all (o) (n) (b)), (rrows_all (o) (n) (b)), (hs), (neT (by omega)), (neF h1), (awake_ok), trivial⟩
def zeroB (m : Nat) : ByteArray := strA (List.replicate m (u8 0))
theorem zeroB_size (m : Nat) : (zeroB m).size = m := by rw [zeroB, strA_size, List.length_replicate]
theorem repl_eI (k : Nat) : replZ k [i64 0] = (List.replicate k (0 : Int)).flatMap eI := by
  induction k with
  | zero => rfl
  | succ k ih => rw [List.replicate_succ, List.flatMap_cons, ← ih]; rfl
theorem repl_u8 (k : Nat) : replZ k [u8 0] = List.replicate k (u8 0) := by
  induction k with
  | zero => rfl
  | succ k ih => rw [List.replicate_succ, ← ih]; rfl
theorem row_zero (k : Nat) : Pu 16 [i64 0, i64 1, .sl k (((List.replicate k (0 : Int)).flatMap eI).drop 0 |>.take (k * 1))] (putR (rowD 0 1 (List.replicate k 0))) := by
  have h := row_all 0 1 (List.replicate k 0)
  have e : slI (List.replicate k 0) = .sl k (((List.replicate k (0 : Int)).flatMap eI).drop 0 |>.take (k * 1)) := by
    rw [slI, List.length_replicate, List.drop_zero, List.take_of_length_le]
    rw [len_flat (sz := 1) (fun _ => rfl), List.length_replicate]
    exact Nat.le_refl _
  rwa [e] at h
theorem zero_row (k : Nat) : (rowD 0 1 (List.replicate k 0)).2 = if 65536 < k then 5 else 0 := by
  unfold rowD
  rw [if_neg (by decide)]
  show (if 65536 < (List.replicate k (0 : Int)).length then (e0, (5 : Int)) else if (List.replicate k (0 : Int)).all (hasD ⟨1, 0, 255⟩) = true then _ else _).2 = _
  rw [List.length_replicate]
  by_cases h : 65536 < k
  · rw [if_pos h, if_pos h]
  · rw [if_neg h, if_neg h, if_pos (by
      refine List.all_eq_true.2 fun x hx => ?_
      rw [List.eq_of_mem_replicate hx]; decide)]
theorem zero_rows (k : Nat) : (rowsD 0 4 (zeroB (4 * k))).2 = if 65536 < k then 4 else 0 := by
  unfold rowsD
  rw [if_neg (by decide)]
  show (if 262144 < (zeroB (4 * k)).size then (([] : List Int), (4 : Int)) else if ¬ (zeroB (4 * k)).size % 4 = 0 then _ else _).2 = _
  rw [zeroB_size]
  by_cases h : 65536 < k
  · rw [if_pos (by omega), if_pos h]
  · rw [if_neg (by omega), if_neg h, if_neg (by omega)]
theorem beq_dec {a b : Int} {p : Prop} [Decidable p] (h : a = b ↔ p) : (a == b) = decide p := by
  by_cases hp : p
  · rw [decide_eq_true hp, h.2 hp]; simp
  · rw [decide_eq_false hp]; simpa using fun q => hp (h.1 q)
theorem pads_neg (n m : Int) (h : n < 0) : Pu 9 [i64 n, u8 m] (bl true) := by
  have e : padD n = 0 := by simp [padD, h]
  exact pure_of (hs := hint [((1,1), {call := some (i64 (padD n))}), ((2,1), {val := some (bl (true))}), ((3,2), {val := some (bl (true))}), ((3,3), {call := some (bl true)})]) (ps := [_, bl (decide (n < (0 : Int))) = bl (true), bl (padD n == (0 : Int)) = bl (true), _]) (by kernel_rfl) ⟨(pad_ok (n)), (bdT (by assumption)), (beT (by assumption)), (awake_ok), trivial⟩
theorem mod4 (n p : Int) (h : p = (4 - n % 4) % 4) : (n % 4 + p) % 4 = 0 := by omega
theorem pads_pos (n m : Int) (k : Nat) (h : ¬ n < 0) (hn : n ≤ 9223372036854775807) (hm : 0 ≤ m ∧ m ≤ 255) (hk : 65530 + m % 12 = (k : Int)) : Pu 9 [i64 n, u8 m] (bl true) := by
  have e : padD n = (4 - n % 4) % 4 := by
    have h1 : n.tmod 4 = n % 4 := Int.tmod_eq_emod_of_nonneg (by omega)
    simp only [padD, h, if_false, h1]
    exact Int.tmod_eq_emod_of_nonneg (by omega)
  have q1 := zero_row k
  have q2 := zero_rows k
  have z1 : ((List.replicate k (0 : Int)).flatMap eI).all pureC = true := flat_pure (fun _ => rfl) _
  have z2 : (List.replicate (4 * k) (u8 0)).all isU8 = true := List.all_eq_true.2 fun x hx => by rw [List.eq_of_mem_replicate hx]; rfl
  have zt : ∀ x, 4 * k ≤ x → ((List.replicate (4 * k) (u8 0)).drop 0).take x = List.replicate (4 * k) (u8 0) := fun x hx => by
    rw [List.drop_zero]; exact List.take_of_length_le (by rw [List.length_replicate]; exact hx)
  by_cases h1 : (↑k : Int) ≤ (65536 : Int)
  · exact pure_of (hs := hint [((1,1), {call := some (i64 (padD n))}), ((2,1), {val := some (bl (false))}), ((4,2), {val := some (bl (false))}), ((4,6), {val := some (bl (false))}), ((4,8), {val := some (i64 (n % (4 : Int)))}), ((4,10), {val := some (i64 (n % (4 : Int) + padD n))}), ((4,11), {val := some (i64 ((n % (4 : Int) + padD n) % (4 : Int)))}), ((4,13), {val := some (bl (false))}), ((6,1), {val := some (u8 (m % (12 : Int)))}), ((6,2), {val := some (i64 (m % (12 : Int)))}), ((6,3), { val := some (i64 k) }), ((7,1), { sym := true, cells := some ((List.replicate k (0 : Int)).flatMap eI) }), ((7,2), {call := some (putR (rowD (0 : Int) (1 : Int) (List.replicate k (0 : Int)))), sym := true}), ((8,1), { val := some (i64 ((4 * k : Nat) : Int)) }), ((8,2), { sym := true, cells := some (List.replicate (4 * k) (u8 0)) }), ((8,3), { sym := true, val := some (st (zeroB (4 * k))) }), ((8,4), {call := some (rowsR (rowsD (0 : Int) (4 : Int) (zeroB ((4 : Nat) * k))))}), ((9,5), {val := some (bl (true))}), ((9,12), {val := some (bl (true))}), ((9,15), {val := some (bl (true))}), ((9,25), {call := some (bl true)})]) (ps := [_, bl (decide (n < (0 : Int))) = bl (false), bl (decide (padD n < (0 : Int))) = bl (false), bl (decide (padD n > (3 : Int))) = bl (false), i64 (n.tmod (4 : Int)) = i64 (n % (4 : Int)), i64 (IntKind.i64.wrap (n % (4 : Int) + padD n)) = i64 (n % (4 : Int) + padD n), i64 ((n % (4 : Int) + padD n).tmod (4 : Int)) = i64 ((n % (4 : Int) + padD n) % (4 : Int)), bl ((n % (4 : Int) + padD n) % (4 : Int) != (0 : Int)) = bl (false), u8 (m.tmod (12 : Int)) = u8 (m % (12 : Int)), i64 (IntKind.i64.wrap (m % (12 : Int))) = i64 (m % (12 : Int)), i64 (IntKind.i64.wrap ((65530 : Int) + m % (12 : Int))) = i64 ((↑k : Int)), decide ((0 : Int) ≤ (↑k : Int) ∧ (↑k : Int) ≤ (↑k : Int) ∧ (↑k : Int) * (8 : Int) ≤ (140737488355328 : Int) ∧ (↑k : Int) ≤ (140737488355328 : Int)) = true, ((replZ (↑k : Int).toNat [AV.s (Value.int IntKind.i64 (0 : Int))]) : List AV) = (List.flatMap eI (List.replicate k (0 : Int))), ([(0 : Nat)].all fun (i : Nat) => (Option.map pureB ((fun (j : Nat) => [Bk.arr ((↑k : Int).toNat * (1 : Nat)) (List.flatMap eI (List.replicate k (0 : Int))) (0 : Nat)][j]?) i)).getD false) = true, true = true, _, i64 (IntKind.i64.wrap ((4 : Int) * (↑k : Int))) = i64 ((↑((4 : Nat) * k) : Int)), decide ((0 : Int) ≤ (↑((4 : Nat) * k) : Int) ∧ (↑((4 : Nat) * k) : Int) ≤ (↑((4 : Nat) * k) : Int) ∧ (↑((4 : Nat) * k) : Int) * (1 : Int) ≤ (140737488355328 : Int) ∧ (↑((4 : Nat) * k) : Int) ≤ (140737488355328 : Int)) = true, ((replZ (↑((4 : Nat) * k) : Int).toNat [AV.s (Value.int IntKind.u8 (0 : Int))]) : List AV) = (List.replicate ((4 : Nat) * k) (AV.s (Value.int IntKind.u8 (0 : Int)))), decide ((List.take ((↑((4 : Nat) * k) : Int).toNat * (1 : Nat)) (List.drop (0 : Nat) (List.replicate ((4 : Nat) * k) (AV.s (Value.int IntKind.u8 (0 : Int)))))).length = (↑((4 : Nat) * k) : Int).toNat) = true, (List.take ((↑((4 : Nat) * k) : Int).toNat * (1 : Nat)) (List.drop (0 : Nat) (List.replicate ((4 : Nat) * k) (AV.s (Value.int IntKind.u8 (0 : Int)))))).all isU8 = true, st (strA (List.take ((↑((4 : Nat) * k) : Int).toNat * (1 : Nat)) (List.drop (0 : Nat) (List.replicate ((4 : Nat) * k) (AV.s (Value.int IntKind.u8 (0 : Int))))))) = st (zeroB ((4 : Nat) * k)), _, bl (((rowD (0 : Int) (1 : Int) (List.replicate k (0 : Int))).snd == (0 : Int)) == decide ((↑k : Int) ≤ (65536 : Int))) = bl (true), bl (((rowsD (0 : Int) (4 : Int) (zeroB ((4 : Nat) * k))).snd == (0 : Int)) == decide ((↑k : Int) ≤ (65536 : Int))) = bl (true), bl (decide ((↑k : Int) ≤ (65536 : Int))) = bl (true), _]) (by kernel_rfl) ⟨(pad_ok (n)), (bdF (by assumption)), (bdF (by omega)), (bdF (by omega)), (intE (Int.tmod_eq_emod_of_nonneg (by omega))), (intE (by exact wrap_i64 (by omega) (by omega))), (intE (Int.tmod_eq_emod_of_nonneg (by omega))), (neT (by omega)), (intE (Int.tmod_eq_emod_of_nonneg (by omega))), (intE (by exact wrap_i64 (by omega) (by omega))), (by exact intE ((wrap_i64 (by omega) (by omega)).trans hk)), (by (first | exact repl_eI k | exact decide_t (by omega))), (by (first | exact repl_eI k | exact decide_t (by omega))), (by (simp [pureB, z1]; done)), rfl, (row_zero k), (by exact intE ((wrap_i64 (by omega) (by omega)).trans (by omega))), (by (first | exact repl_u8 (4 * k) | exact decide_t (by omega))), (by (first | exact repl_u8 (4 * k) | exact decide_t (by omega))), (by (first | exact decide_t (by simp) | (rw [zt (((4 * k : Nat) : Int).toNat * 1) (by omega)]; exact z2) | (rw [zt (((4 * k : Nat) : Int).toNat * 1) (by omega)]; rfl))), (by (first | exact decide_t (by simp) | (rw [zt (((4 * k : Nat) : Int).toNat * 1) (by omega)]; exact z2) | (rw [zt (((4 * k : Nat) : Int).toNat * 1) (by omega)]; rfl))), (by (first | exact decide_t (by simp) | (rw [zt (((4 * k : Nat) : Int).toNat * 1) (by omega)]; exact z2) | (rw [zt (((4 * k : Nat) : Int).toNat * 1) (by omega)]; rfl))), (rows_all ((0 : Int)) ((4 : Int)) (zeroB ((4 : Nat) * k))), (beT (by exact beq_dec (by omega))), (beT (by exact beq_dec (by omega))), (bdT h1), (awake_ok), trivial⟩
  · exact pure_of (hs := hint [((1,1), {call := some (i64 (padD n))}), ((2,1), {val := some (bl (false))}), ((4,2), {val := some (bl (false))}), ((4,6), {val := some (bl (false))}), ((4,8), {val := some (i64 (n % (4 : Int)))}), ((4,10), {val := some (i64 (n % (4 : Int) + padD n))}), ((4,11), {val := some (i64 ((n % (4 : Int) + padD n) % (4 : Int)))}), ((4,13), {val := some (bl (false))}), ((6,1), {val := some (u8 (m % (12 : Int)))}), ((6,2), {val := some (i64 (m % (12 : Int)))}), ((6,3), { val := some (i64 k) }), ((7,1), { sym := true, cells := some ((List.replicate k (0 : Int)).flatMap eI) }), ((7,2), {call := some (putR (rowD (0 : Int) (1 : Int) (List.replicate k (0 : Int)))), sym := true}), ((8,1), { val := some (i64 ((4 * k : Nat) : Int)) }), ((8,2), { sym := true, cells := some (List.replicate (4 * k) (u8 0)) }), ((8,3), { sym := true, val := some (st (zeroB (4 * k))) }), ((8,4), {call := some (rowsR (rowsD (0 : Int) (4 : Int) (zeroB ((4 : Nat) * k))))}), ((9,5), {val := some (bl (true))}), ((9,12), {val := some (bl (true))}), ((9,15), {val := some (bl (false))}), ((9,18), {val := some (bl (true))}), ((9,24), {val := some (bl (true))}), ((9,25), {call := some (bl true)})]) (ps := [_, bl (decide (n < (0 : Int))) = bl (false), bl (decide (padD n < (0 : Int))) = bl (false), bl (decide (padD n > (3 : Int))) = bl (false), i64 (n.tmod (4 : Int)) = i64 (n % (4 : Int)), i64 (IntKind.i64.wrap (n % (4 : Int) + padD n)) = i64 (n % (4 : Int) + padD n), i64 ((n % (4 : Int) + padD n).tmod (4 : Int)) = i64 ((n % (4 : Int) + padD n) % (4 : Int)), bl ((n % (4 : Int) + padD n) % (4 : Int) != (0 : Int)) = bl (false), u8 (m.tmod (12 : Int)) = u8 (m % (12 : Int)), i64 (IntKind.i64.wrap (m % (12 : Int))) = i64 (m % (12 : Int)), i64 (IntKind.i64.wrap ((65530 : Int) + m % (12 : Int))) = i64 ((↑k : Int)), decide ((0 : Int) ≤ (↑k : Int) ∧ (↑k : Int) ≤ (↑k : Int) ∧ (↑k : Int) * (8 : Int) ≤ (140737488355328 : Int) ∧ (↑k : Int) ≤ (140737488355328 : Int)) = true, ((replZ (↑k : Int).toNat [AV.s (Value.int IntKind.i64 (0 : Int))]) : List AV) = (List.flatMap eI (List.replicate k (0 : Int))), ([(0 : Nat)].all fun (i : Nat) => (Option.map pureB ((fun (j : Nat) => [Bk.arr ((↑k : Int).toNat * (1 : Nat)) (List.flatMap eI (List.replicate k (0 : Int))) (0 : Nat)][j]?) i)).getD false) = true, true = true, _, i64 (IntKind.i64.wrap ((4 : Int) * (↑k : Int))) = i64 ((↑((4 : Nat) * k) : Int)), decide ((0 : Int) ≤ (↑((4 : Nat) * k) : Int) ∧ (↑((4 : Nat) * k) : Int) ≤ (↑((4 : Nat) * k) : Int) ∧ (↑((4 : Nat) * k) : Int) * (1 : Int) ≤ (140737488355328 : Int) ∧ (↑((4 : Nat) * k) : Int) ≤ (140737488355328 : Int)) = true, ((replZ (↑((4 : Nat) * k) : Int).toNat [AV.s (Value.int IntKind.u8 (0 : Int))]) : List AV) = (List.replicate ((4 : Nat) * k) (AV.s (Value.int IntKind.u8 (0 : Int)))), decide ((List.take ((↑((4 : Nat) * k) : Int).toNat * (1 : Nat)) (List.drop (0 : Nat) (List.replicate ((4 : Nat) * k) (AV.s (Value.int IntKind.u8 (0 : Int)))))).length = (↑((4 : Nat) * k) : Int).toNat) = true, (List.take ((↑((4 : Nat) * k) : Int).toNat * (1 : Nat)) (List.drop (0 : Nat) (List.replicate ((4 : Nat) * k) (AV.s (Value.int IntKind.u8 (0 : Int)))))).all isU8 = true, st (strA (List.take ((↑((4 : Nat) * k) : Int).toNat * (1 : Nat)) (List.drop (0 : Nat) (List.replicate ((4 : Nat) * k) (AV.s (Value.int IntKind.u8 (0 : Int))))))) = st (zeroB ((4 : Nat) * k)), _, bl (((rowD (0 : Int) (1 : Int) (List.replicate k (0 : Int))).snd == (0 : Int)) == decide ((↑k : Int) ≤ (65536 : Int))) = bl (true), bl (((rowsD (0 : Int) (4 : Int) (zeroB ((4 : Nat) * k))).snd == (0 : Int)) == decide ((↑k : Int) ≤ (65536 : Int))) = bl (true), bl (decide ((↑k : Int) ≤ (65536 : Int))) = bl (false), bl ((rowD (0 : Int) (1 : Int) (List.replicate k (0 : Int))).snd == (5 : Int)) = bl (true), bl ((rowsD (0 : Int) (4 : Int) (zeroB ((4 : Nat) * k))).snd == (4 : Int)) = bl (true), _]) (by kernel_rfl) ⟨(pad_ok (n)), (bdF (by assumption)), (bdF (by omega)), (bdF (by omega)), (intE (Int.tmod_eq_emod_of_nonneg (by omega))), (intE (by exact wrap_i64 (by omega) (by omega))), (intE (Int.tmod_eq_emod_of_nonneg (by omega))), (neT (by omega)), (intE (Int.tmod_eq_emod_of_nonneg (by omega))), (intE (by exact wrap_i64 (by omega) (by omega))), (by exact intE ((wrap_i64 (by omega) (by omega)).trans hk)), (by (first | exact repl_eI k | exact decide_t (by omega))), (by (first | exact repl_eI k | exact decide_t (by omega))), (by (simp [pureB, z1]; done)), rfl, (row_zero k), (by exact intE ((wrap_i64 (by omega) (by omega)).trans (by omega))), (by (first | exact repl_u8 (4 * k) | exact decide_t (by omega))), (by (first | exact repl_u8 (4 * k) | exact decide_t (by omega))), (by (first | exact decide_t (by simp) | (rw [zt (((4 * k : Nat) : Int).toNat * 1) (by omega)]; exact z2) | (rw [zt (((4 * k : Nat) : Int).toNat * 1) (by omega)]; rfl))), (by (first | exact decide_t (by simp) | (rw [zt (((4 * k : Nat) : Int).toNat * 1) (by omega)]; exact z2) | (rw [zt (((4 * k : Nat) : Int).toNat * 1) (by omega)]; rfl))), (by (first | exact decide_t (by simp) | (rw [zt (((4 * k : Nat) : Int).toNat * 1) (by omega)]; exact z2) | (rw [zt (((4 * k : Nat) : Int).toNat * 1) (by omega)]; rfl))), (rows_all ((0 : Int)) ((4 : Int)) (zeroB ((4 : Nat) * k))), (beT (by exact beq_dec (by omega))), (beT (by exact beq_dec (by omega))), (bdF h1), (beT (by omega)), (beT (by omega)), (awake_ok), trivial⟩
theorem pads_law (n m : Int) (hn : n ≤ 9223372036854775807) (hm : 0 ≤ m ∧ m ≤ 255) : Pu 9 [i64 n, u8 m] (bl true) := by
  by_cases h : n < 0
  · exact pads_neg n m h
  · exact pads_pos n m (65530 + m % 12).toNat h hn hm (by omega)
theorem fits_nums {cs : List AV} (h : Fits (.sl (.int .i64)) cs) : ∃ l : List Int, cs = [slI l] := by
  obtain ⟨l, h1, _, _⟩ := fits_list (enc := eI) (Q := fun _ => True) (fun cs hc => by obtain ⟨n, rfl, _⟩ := hc; exact ⟨n, rfl, trivial⟩) h
  exact ⟨l, h1⟩
theorem bds64 {n : Int} (h : (Lit.int .i64 n).wf = true) : n ≤ 9223372036854775807 := by
  simp [Lit.wf, IntKind.min, IntKind.max, IntKind.signed, IntKind.bits] at h
  omega
end Go.Proofs.YtjjmidhpilmnbaaDoor
