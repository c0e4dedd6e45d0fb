/- The law Full. By the prover of this seat. -/
import Derived.Test.YtgbpjpacmepicaaDoorOh
set_option linter.unusedVariables false
set_option linter.unusedSimpArgs false
set_option maxRecDepth 100000
set_option maxHeartbeats 4000000
namespace Go.Proofs.YtgbpjpacmepicaaDoor
open Go.RowKit Go.Pm
def numN (k : Nat) : ByteArray := ⟨#[43]⟩ ++ strA [u8 (97 + (k : Int) % 26), u8 (97 + (k : Int) / 26 % 26), u8 (97 + (k : Int) / 676)]
def numL (n : Nat) : List ByteArray := (List.range n).map numN
theorem numL_succ (n : Nat) : numL (n + 1) = numL n ++ [numN n] := by unfold numL; rw [List.range_succ, List.map_append]; rfl
theorem numL_len (n : Nat) : (numL n).length = n := by unfold numL; rw [List.length_map, List.length_range]
theorem numL_nth (n k : Nat) (h : k < n) : nth (numL n) k = numN k := by
  rw [nth_eq (by rw [numL_len]; exact h)]
  unfold numL
  rw [List.getElem_map, List.getElem_range]
noncomputable def nuB : Code := loopOf Tryd.prog 14 3
def nuS (n : Int) (l : List ByteArray) (k : Nat) : St := ⟨mkT 33 [(0, st ⟨#[43]⟩), (1, i64 n), (5, .osl 0 0 k 1), (6, i64 k)], [.arr (k * 1) (l.flatMap eS) 0]⟩
theorem tmod_nn (a : Nat) (b : Int) : (a : Int).tmod b = (a : Int) % b := Int.tmod_eq_emod_of_nonneg (by omega)
theorem tdiv_nn (a : Nat) (b : Int) : (a : Int).tdiv b = (a : Int) / b := Int.tdiv_eq_ediv_of_nonneg (by omega)
theorem u8_3 {a b c : Int} (ha : 0 ≤ a ∧ a < 256) (hb : 0 ≤ b ∧ b < 256) (hc : 0 ≤ c ∧ c < 256) : [u8 a, u8 b, u8 c].all isU8 = true := by simp [isU8, ha, hb, hc]
theorem nu_step (n : Int) (hn : n ≤ 1025) (k : Nat) (hk : (k : Int) < n) : Tri C0 nuB (nuS n (numL k) k) .normal (nuS n (numL (k + 1)) (k + 1)) := by
  have hlen := numL_len k
  have hle2 := numL_len (k + 1)
  have hs := numL_succ k
  have e1 : (numL (k + 1)).flatMap eS = (numL k).flatMap eS ++ eS (numN k) := by rw [hs]; exact row_snoc _ _
  exact runF_ok (hs := hint [((3,2), {val := some (bl (true))}), ((5,3), { val := some (i64 ((k : Int) % 26)) }), ((5,4), {val := some (i64 ((97 : Int) + (↑k : Int) % (26 : Int)))}), ((5,5), { val := some (u8 (97 + (k : Int) % 26)) }), ((5,7), { val := some (i64 ((k : Int) / 26)) }), ((5,8), { val := some (i64 ((k : Int) / 26 % 26)) }), ((5,9), {val := some (i64 ((97 : Int) + (↑k : Int) / (26 : Int) % (26 : Int)))}), ((5,10), { val := some (u8 (97 + (k : Int) / 26 % 26)) }), ((5,12), { val := some (i64 ((k : Int) / 676)) }), ((5,13), {val := some (i64 ((97 : Int) + (↑k : Int) / (676 : Int)))}), ((5,14), { val := some (u8 (97 + (k : Int) / 676)) }), ((5,16), {sym := true}), ((5,19), { sym := true, cells := some ((numL (k + 1)).flatMap eS) }), ((4,1), {val := some (i64 ((↑k : Int) + (1 : Int)))})]) (f := { ks := [0, 1, 5, 6], l := [3] }) (ps := [bl (decide ((↑k : Int) < n)) = bl (true), i64 ((↑k : Int).tmod (26 : Int)) = i64 ((↑k : Int) % (26 : Int)), i64 (IntKind.i64.wrap ((97 : Int) + (↑k : Int) % (26 : Int))) = i64 ((97 : Int) + (↑k : Int) % (26 : Int)), u8 (IntKind.u8.wrap ((97 : Int) + (↑k : Int) % (26 : Int))) = u8 ((97 : Int) + (↑k : Int) % (26 : Int)), i64 (IntKind.i64.wrap ((↑k : Int).tdiv (26 : Int))) = i64 ((↑k : Int) / (26 : Int)), i64 (((↑k : Int) / (26 : Int)).tmod (26 : Int)) = i64 ((↑k : Int) / (26 : Int) % (26 : Int)), i64 (IntKind.i64.wrap ((97 : Int) + (↑k : Int) / (26 : Int) % (26 : Int))) = i64 ((97 : Int) + (↑k : Int) / (26 : Int) % (26 : Int)), u8 (IntKind.u8.wrap ((97 : Int) + (↑k : Int) / (26 : Int) % (26 : Int))) = u8 ((97 : Int) + (↑k : Int) / (26 : Int) % (26 : Int)), i64 (IntKind.i64.wrap ((↑k : Int).tdiv (676 : Int))) = i64 ((↑k : Int) / (676 : Int)), i64 (IntKind.i64.wrap ((97 : Int) + (↑k : Int) / (676 : Int))) = i64 ((97 : Int) + (↑k : Int) / (676 : Int)), u8 (IntKind.u8.wrap ((97 : Int) + (↑k : Int) / (676 : Int))) = u8 ((97 : Int) + (↑k : Int) / (676 : Int)), decide ([AV.s (Value.int IntKind.u8 ((97 : Int) + (↑k : Int) % (26 : Int))), AV.s (Value.int IntKind.u8 ((97 : Int) + (↑k : Int) / (26 : Int) % (26 : Int))), AV.s (Value.int IntKind.u8 ((97 : Int) + (↑k : Int) / (676 : Int)))].length = (3 : Nat)) = true, [AV.s (Value.int IntKind.u8 ((97 : Int) + (↑k : Int) % (26 : Int))), AV.s (Value.int IntKind.u8 ((97 : Int) + (↑k : Int) / (26 : Int) % (26 : Int))), AV.s (Value.int IntKind.u8 ((97 : Int) + (↑k : Int) / (676 : Int)))].all isU8 = true, decide (k * (1 : Nat) = k * (1 : Nat) ∧ (0 : Nat) ≤ k * (1 : Nat) ∧ k * (1 : Nat) = (List.flatMap eS (numL k)).length) = true, decide ((k + (1 : Nat)) * (16 : Nat) ≤ (140737488355328 : Nat)) = true, decide ([AV.s (Value.string ({ data := { toList := [(43 : UInt8)] : Array UInt8 } : ByteArray } ++ strA [AV.s (Value.int IntKind.u8 ((97 : Int) + (↑k : Int) % (26 : Int))), AV.s (Value.int IntKind.u8 ((97 : Int) + (↑k : Int) / (26 : Int) % (26 : Int))), AV.s (Value.int IntKind.u8 ((97 : Int) + (↑k : Int) / (676 : Int)))]))].length = (1 : Nat)) = true, ((List.flatMap eS (numL k) ++ [AV.s (Value.string ({ data := { toList := [(43 : UInt8)] : Array UInt8 } : ByteArray } ++ strA [AV.s (Value.int IntKind.u8 ((97 : Int) + (↑k : Int) % (26 : Int))), AV.s (Value.int IntKind.u8 ((97 : Int) + (↑k : Int) / (26 : Int) % (26 : Int))), AV.s (Value.int IntKind.u8 ((97 : Int) + (↑k : Int) / (676 : Int)))]))]) : List AV) = (List.flatMap eS (numL (k + (1 : Nat)))), i64 (IntKind.i64.wrap ((↑k : Int) + (1 : Int))) = i64 ((↑k : Int) + (1 : Int)), true = true, pureB (Bk.arr ((k + (1 : Nat)) * (1 : Nat)) (List.flatMap eS (numL (k + (1 : Nat)))) (0 : Nat)) = true]) (by kernel_rfl) ⟨(bdT (by assumption)), (by exact intE (tmod_nn k 26)), (intE (by exact wrap_i64 (by omega) (by omega))), (by (first | exact intE (by omega) | exact intE (by rw [wrap_u8 (by omega) (by omega)]))), (by exact intE (by rw [tdiv_nn k 26, wrap_i64 (by omega) (by omega)])), (by exact intE (Int.tmod_eq_emod_of_nonneg (by omega))), (intE (by exact wrap_i64 (by omega) (by omega))), (by (first | exact intE (by omega) | exact intE (by rw [wrap_u8 (by omega) (by omega)]))), (by exact intE (by rw [tdiv_nn k 676, wrap_i64 (by omega) (by omega)])), (intE (by exact wrap_i64 (by omega) (by omega))), (by (first | exact intE (by omega) | exact intE (by rw [wrap_u8 (by omega) (by omega)]))), (by rfl), (by exact u8_3 ⟨by omega, by omega⟩ ⟨by omega, by omega⟩ ⟨by omega, by omega⟩), (by (first | exact e1.symm | exact decide_t (by omega) | exact decide_t ⟨by omega, by omega, by rw [row_len (sz := 1) (fun _ => rfl)]; omega⟩ | exact decide_t (by rw [row_len (sz := 1) (fun _ => rfl)]; omega))), (by (first | exact e1.symm | exact decide_t (by omega) | exact decide_t ⟨by omega, by omega, by rw [row_len (sz := 1) (fun _ => rfl)]; omega⟩ | exact decide_t (by rw [row_len (sz := 1) (fun _ => rfl)]; omega))), (by (simp; done)), (by (first | exact e1.symm | exact decide_t (by omega) | exact decide_t ⟨by omega, by omega, by rw [row_len (sz := 1) (fun _ => rfl)]; omega⟩ | exact decide_t (by rw [row_len (sz := 1) (fun _ => rfl)]; omega))), (intE (by exact wrap_i64 (by omega) (by omega))), rfl, (by exact row_pureB (fun _ => rfl) _ _ _), trivial⟩
theorem nu_end (n : Nat) (l : List ByteArray) : LoopT C0 nuB (nuS n l n) (.exit 0) (nuS n l n) := by
  exact LoopT.fin (hs := hint [((3,2), {val := some (bl (false))})]) (f := { ks := [0, 1, 5, 6], l := [0] }) (ps := [bl (decide ((↑n : Int) < (↑n : Int))) = bl (false), true = true, pureB (Bk.arr (n * (1 : Nat)) (List.flatMap eS l) (0 : Nat)) = true]) (by kernel_rfl) ⟨(bdF (by omega)), rfl, (by exact row_pureB (fun _ => rfl) _ _ _), trivial⟩ (by decide)
theorem numb_ok (n : Nat) (hn : n ≤ 1025) : Pu 14 [st ⟨#[43]⟩, i64 n] (slS (numL n)) := by
  have L := LoopT.count (fun k => nuS n (numL k) k) n (fun k hk => nu_step n (by omega) k (by omega)) (nu_end n _) 0 (by omega)
  have r1 := row_sl (sz := 1) (enc := eS) (fun _ => rfl) (numL n) n (n * 1) (numL_len n).symm (by rw [numL_len]; omega)
  unfold nuS at L
  rw [show numL 0 = [] from rfl] at L
  exact pure_cast (pure_said (hs := hint [((3,1000), {loop := some ({ ks := [0, 1, 6], gh := [(5, 1)] }, { t := mkT (33 : Nat) [((0 : Nat), st { data := #[(43 : UInt8)] : ByteArray }), ((1 : Nat), i64 (↑n : Int)), ((5 : Nat), AV.osl (0 : Nat) (0 : Nat) (0 : Nat) (1 : Nat)), ((6 : Nat), i64 (↑(0 : Nat) : Int))], h := [Bk.arr ((0 : Nat) * (1 : Nat)) (List.flatMap eS []) (0 : Nat)] : St }, Ex.exit (0 : Nat), { t := mkT (33 : Nat) [((0 : Nat), st { data := #[(43 : UInt8)] : ByteArray }), ((1 : Nat), i64 (↑n : Int)), ((5 : Nat), AV.osl (0 : Nat) (0 : Nat) n (1 : Nat)), ((6 : Nat), i64 (↑n : Int))], h := [Bk.arr (n * (1 : Nat)) (List.flatMap eS (numL n)) (0 : Nat)] : St })})]) (r := AV.sl (n) (List.take (n * (1 : Nat)) (List.drop (0 : Nat) (List.flatMap eS (numL n))))) (ps := [{ t := mkT (33 : Nat) [((0 : Nat), st { data := #[(43 : UInt8)] : ByteArray }), ((1 : Nat), i64 (↑n : Int)), ((5 : Nat), AV.osl (0 : Nat) (0 : Nat) (0 : Nat) (1 : Nat)), ((6 : Nat), i64 (↑(0 : Nat) : Int))], h := [Bk.arr ((0 : Nat) * (1 : Nat)) (List.flatMap eS []) (0 : Nat)] : St } = { t := mkT (33 : Nat) [((0 : Nat), st { data := #[(43 : UInt8)] : ByteArray }), ((1 : Nat), i64 (↑n : Int)), ((5 : Nat), AV.osl (0 : Nat) (0 : Nat) (0 : Nat) (1 : Nat)), ((6 : Nat), i64 (↑(0 : Nat) : Int))], h := [Bk.arr ((0 : Nat) * (1 : Nat)) (List.flatMap eS []) (0 : Nat)] : St }, _, true = true, ([(0 : Nat)].all fun (i : Nat) => (Option.map pureB [Bk.arr (n * (1 : Nat)) (List.flatMap eS (numL n)) (0 : Nat)][i]?).getD false) = true, true = true]) (by kernel_rfl) ⟨rfl, L, rfl, (by exact row_ids (fun _ => rfl) _ _ _ _ _ rfl), rfl, trivial⟩) (by assumption)
/-! the names are right, and apart -/
theorem num_right : ∀ k, k < 1026 → rightD (numN k) = true := by decide +kernel
def decN (s : ByteArray) : Nat := (s.data.toList.getD 1 0).toNat - 97 + 26 * ((s.data.toList.getD 2 0).toNat - 97) + 676 * ((s.data.toList.getD 3 0).toNat - 97)
theorem num_dec : ∀ k, k < 1026 → decN (numN k) = k := by decide +kernel
theorem num_kn : ∀ k, k < 1026 → kn.all (fun x => decide (x ≠ numN k)) = true := by decide +kernel
def tabN (k : Nat) : List ByteArray := numL (min k 1014)
theorem idx_noneI {α : Type} (p : α → Bool) (l : List α) (h : ∀ x ∈ l, ¬ p x = true) : idxD p l = none := by
  have e := idx_isSome p l
  rw [List.any_eq_false.2 h] at e
  cases hk : idxD p l with
  | none => rfl
  | some k => rw [hk] at e; cases e
theorem num_fresh (k n : Nat) (hk : k < 1026) (hn : n ≤ k) : idxD (eqD (numN k)) (kn ++ numL n) = none := by
  refine idx_noneI _ _ fun x hx q => ?_
  have q : x = numN k := by simpa [eqD] using q
  rcases List.mem_append.1 hx with h | h
  · have := List.all_eq_true.1 (num_kn k hk) x h
    simp at this
    exact this q
  · obtain ⟨j, hj, rfl⟩ := List.mem_map.1 h
    rw [List.mem_range] at hj
    have h1 := num_dec k hk
    have h2 := num_dec j (by omega)
    rw [q] at h2
    omega
theorem num_new (k : Nat) (hk : k < 1014) : internD (tabN k) (numN k) false = (tabN (k + 1), (k : Int) + 11, 0) := by
  unfold internD tabN
  rw [if_neg (fun q => q (num_right k (by omega))), show min k 1014 = k by omega, show min (k + 1) 1014 = k + 1 by omega, num_fresh k k (by omega) (Nat.le_refl _)]
  simp only
  rw [if_neg (by simp), numL_len, if_neg (by omega), numL_succ]
theorem num_full (k : Nat) (hk : 1014 ≤ k) (h2 : k < 1026) : internD (tabN k) (numN k) false = (tabN k, 0, 12) := by
  unfold internD tabN
  rw [if_neg (fun q => q (num_right k (by omega))), show min k 1014 = 1014 by omega, num_fresh k 1014 (by omega) (by omega)]
  simp only
  rw [if_neg (by simp), numL_len, if_pos (by omega)]
theorem tabN_tok : ∀ k, k ≤ 1026 → TOk (tabN k) := by
  intro k
  induction k with
  | zero => intro _; exact tok0
  | succ k ih =>
    intro h
    have q := intern_tok (ih (by omega)) (numN k) false
    by_cases hk : k < 1014
    · rw [num_new k hk] at q; exact q
    · unfold tabN at ih ⊢
      rw [show min (k + 1) 1014 = min k 1014 by omega]
      exact ih (by omega)
/-! Full -/
noncomputable def fuB : Code := loopOf Tryd.prog 5 10
def fuS (s : ByteArray) (l a : List ByteArray) (m : Nat) (w : List ByteArray) (k : Nat) : St := ⟨mkT 133 [(1, st s), (6, slS l), (7, .ptr 0 0), (8, .osl 1 0 m 1), (9, i64 k)], [ptB a, .arr (m * 1) (w.flatMap eS) 0]⟩
theorem fu_new (s : ByteArray) (l a a' : List ByteArray) (m : Nat) (w w' : List ByteArray) (k : Nat) (hk : k < l.length) (hl : l.length ≤ 1100) (hm : m = w.length) (hm2 : m ≤ 2000) (hw' : w' = w ++ [nth l k]) (h : k < 1014) (hI : Pu 11 [tabA a, st (nth l k), bl false] (internA (a', (k : Int) + 11, 0))) : Tri C0 fuB (fuS s l a m w k) .normal (fuS s l a' (m + 1) w' (k + 1)) := by
  have e1 : w'.flatMap eS = w.flatMap eS ++ eS (nth l k) := by rw [hw']; exact row_snoc w _
  have hle : w'.length = w.length + 1 := by rw [hw', List.length_append, List.length_singleton]
  exact runF_ok (hs := hint [((10,3), {val := some (bl (true))}), ((12,3), {cells := some (eS (nth l k) ++ List.flatMap eS (List.drop (k + (1 : Nat)) l)), sym := true}), ((12,5), {call := some ((internA (a', (↑k : Int) + (11 : Int), (0 : Int))))}), ((13,1), {val := some (i64 ((↑k : Int) + (11 : Int)))}), ((13,2), {val := some (bl (true))}), ((14,4), {val := some (i64 ((↑k : Int) + (11 : Int)))}), ((14,6), {val := some (i64 ((↑k : Int) + (11 : Int)))}), ((14,8), {val := some (bl (false))}), ((16,3), {cells := some (eS (nth l k) ++ List.flatMap eS (List.drop (k + (1 : Nat)) l)), sym := true}), ((16,6), { sym := true, cells := some (w'.flatMap eS) }), ((11,1), {val := some (i64 ((↑k : Int) + (1 : Int)))})]) (f := { ks := [1, 6, 7, 8, 9], l := [0, 4] }) (ps := [bl (decide ((↑k : Int) < (↑l.length : Int))) = bl (true), decide ((0 : Int) ≤ (↑k : Int) ∧ (↑k : Int) < (↑l.length : Int)) = true, ((List.drop ((↑k : Int).toNat * (1 : Nat)) (List.flatMap eS l)) : List AV) = (eS (nth l k) ++ List.flatMap eS (List.drop (k + (1 : Nat)) l)), _, i64 (IntKind.i64.wrap ((↑k : Int) + (11 : Int))) = i64 ((↑k : Int) + (11 : Int)), bl (decide ((↑k : Int) + (11 : Int) ≤ (1024 : Int))) = bl (true), i64 (IntKind.i64.wrap ((↑k : Int) + (11 : Int))) = i64 ((↑k : Int) + (11 : Int)), i64 (IntKind.i64.wrap ((↑k : Int) + (11 : Int))) = i64 ((↑k : Int) + (11 : Int)), bl ((↑k : Int) + (11 : Int) != (↑k : Int) + (11 : Int)) = bl (false), decide ((0 : Int) ≤ (↑k : Int) ∧ (↑k : Int) < (↑l.length : Int)) = true, ((List.drop ((↑k : Int).toNat * (1 : Nat)) (List.flatMap eS l)) : List AV) = (eS (nth l k) ++ List.flatMap eS (List.drop (k + (1 : Nat)) l)), decide (m * (1 : Nat) = m * (1 : Nat) ∧ (0 : Nat) ≤ m * (1 : Nat) ∧ m * (1 : Nat) = (List.flatMap eS w).length) = true, decide ((m + (1 : Nat)) * (16 : Nat) ≤ (140737488355328 : Nat)) = true, true = true, ((List.flatMap eS w ++ [AV.s (Value.string (nth l k))]) : List AV) = (List.flatMap eS w'), i64 (IntKind.i64.wrap ((↑k : Int) + (1 : Int))) = i64 ((↑k : Int) + (1 : Int)), true = true, true = true, pureB (Bk.arr ((m + (1 : Nat)) * (1 : Nat)) (List.flatMap eS w') (0 : Nat)) = true]) (by kernel_rfl) ⟨(bdT (by omega)), (by exact decide_t (by omega)), (by exact flat_nth (sz := 1) (k := k) (fun _ => rfl) (by omega)), (hI), (intE (by exact wrap_i64 (by omega) (by omega))), (bdT (by omega)), (intE (by exact wrap_i64 (by omega) (by omega))), (intE (by exact wrap_i64 (by omega) (by omega))), (neT (by omega)), (by exact decide_t (by omega)), (by exact flat_nth (sz := 1) (k := k) (fun _ => rfl) (by omega)), (by (first | exact e1.symm | exact decide_t (by omega) | exact decide_t ⟨by omega, by omega, by rw [row_len (sz := 1) (fun _ => rfl)]; omega⟩ | exact decide_t (by rw [row_len (sz := 1) (fun _ => rfl)]; omega))), (by (first | exact e1.symm | exact decide_t (by omega) | exact decide_t ⟨by omega, by omega, by rw [row_len (sz := 1) (fun _ => rfl)]; omega⟩ | exact decide_t (by rw [row_len (sz := 1) (fun _ => rfl)]; omega))), rfl, (by (first | exact e1.symm | exact decide_t (by omega) | exact decide_t ⟨by omega, by omega, by rw [row_len (sz := 1) (fun _ => rfl)]; omega⟩ | exact decide_t (by rw [row_len (sz := 1) (fun _ => rfl)]; omega))), (intE (by exact wrap_i64 (by omega) (by omega))), rfl, rfl, (by exact row_pureB (fun _ => rfl) _ _ _), trivial⟩
theorem fu_full (s : ByteArray) (l a : List ByteArray) (m : Nat) (w : List ByteArray) (k : Nat) (hk : k < l.length) (hl : l.length ≤ 1100) (h : 1014 ≤ k) (hI : Pu 11 [tabA a, st (nth l k), bl false] (internA (a, 0, 12))) : Tri C0 fuB (fuS s l a m w k) .normal (fuS s l a m w (k + 1)) := by
  exact runF_ok (hs := hint [((10,3), {val := some (bl (true))}), ((12,3), {cells := some (eS (nth l k) ++ List.flatMap eS (List.drop (k + (1 : Nat)) l)), sym := true}), ((12,5), {call := some ((internA (a, (0 : Int), (12 : Int))))}), ((13,1), {val := some (i64 ((↑k : Int) + (11 : Int)))}), ((13,2), {val := some (bl (false))}), ((11,1), {val := some (i64 ((↑k : Int) + (1 : Int)))})]) (f := { ks := [1, 6, 7, 8, 9], l := [0, 1] }) (ps := [bl (decide ((↑k : Int) < (↑l.length : Int))) = bl (true), decide ((0 : Int) ≤ (↑k : Int) ∧ (↑k : Int) < (↑l.length : Int)) = true, ((List.drop ((↑k : Int).toNat * (1 : Nat)) (List.flatMap eS l)) : List AV) = (eS (nth l k) ++ List.flatMap eS (List.drop (k + (1 : Nat)) l)), _, i64 (IntKind.i64.wrap ((↑k : Int) + (11 : Int))) = i64 ((↑k : Int) + (11 : Int)), bl (decide ((↑k : Int) + (11 : Int) ≤ (1024 : Int))) = bl (false), i64 (IntKind.i64.wrap ((↑k : Int) + (1 : Int))) = i64 ((↑k : Int) + (1 : Int)), true = true, true = true, pureB (Bk.arr (m * (1 : Nat)) (List.flatMap eS w) (0 : Nat)) = true]) (by kernel_rfl) ⟨(bdT (by omega)), (by exact decide_t (by omega)), (by exact flat_nth (sz := 1) (k := k) (fun _ => rfl) (by omega)), (hI), (intE (by exact wrap_i64 (by omega) (by omega))), (bdF (by omega)), (intE (by exact wrap_i64 (by omega) (by omega))), rfl, rfl, (by exact row_pureB (fun _ => rfl) _ _ _), trivial⟩
theorem fu_end (s : ByteArray) (l a : List ByteArray) (m : Nat) (w : List ByteArray) : LoopT C0 fuB (fuS s l a m w l.length) (.exit 0) (fuS s l a m w l.length) := by
  exact LoopT.fin (hs := hint [((10,3), {val := some (bl (false))})]) (f := { ks := [1, 6, 7, 8, 9], l := [0, 1] }) (ps := [bl (decide ((↑l.length : Int) < (↑l.length : Int))) = bl (false), true = true, true = true, pureB (Bk.arr (m * (1 : Nat)) (List.flatMap eS w) (0 : Nat)) = true]) (by kernel_rfl) ⟨(bdF (by omega)), rfl, rfl, (by exact row_pureB (fun _ => rfl) _ _ _), trivial⟩ (by decide)
theorem rknown_own : Pure Tryd.prog G1 15 [] (.osl 0 0 10 1) [.arr 10 (kn.flatMap eS) 0] := by
  exact (fnRun_ok (hs := hint []) (ps := []) (by kernel_rfl) trivial).1
theorem fu_all (s : ByteArray) (n : Nat) (hn : n ≤ 1025) : LoopT C0 fuB (fuS s (numL n) [] 10 kn 0) (.exit 0) (fuS s (numL n) (tabN n) (10 + min n 1014) (kn ++ tabN n) (numL n).length) := by
  have hl : ∀ k, (kn ++ tabN k).length = 10 + min k 1014 := fun k => by
    rw [List.length_append]; unfold tabN; rw [numL_len]; rfl
  have L := LoopT.count (fun k => fuS s (numL n) (tabN k) (10 + min k 1014) (kn ++ tabN k) k) (numL n).length (fun k hk => by
    rw [numL_len] at hk
    have hI := intern_ok _ (tabN_tok k (by omega)) (numN k) false
    have en := numL_nth n k hk
    by_cases h : k < 1014
    · rw [num_new k h, ← en] at hI
      rw [show 10 + min (k + 1) 1014 = 10 + min k 1014 + 1 by omega]
      refine fu_new s (numL n) _ _ _ _ _ k (by rw [numL_len]; exact hk) (by rw [numL_len]; omega) (hl k).symm (by omega) ?_ h hI
      unfold tabN
      rw [en, show min (k + 1) 1014 = k + 1 by omega, show min k 1014 = k by omega, numL_succ, List.append_assoc]
    · rw [num_full k (by omega) (by omega), ← en] at hI
      have e : tabN (k + 1) = tabN k := by unfold tabN; rw [show min (k + 1) 1014 = min k 1014 by omega]
      rw [e, show 10 + min (k + 1) 1014 = 10 + min k 1014 by omega]
      exact fu_full s (numL n) _ _ _ k (by rw [numL_len]; exact hk) (by rw [numL_len]; omega) (by omega) hI) (by rw [numL_len]; have := fu_end s (numL n) (tabN n) (10 + min n 1014) (kn ++ tabN n); rw [numL_len] at this; exact this) 0 (by omega)
  rw [numL_len]
  exact L
theorem full_go (x : Int) (x0 : 0 ≤ x) (x1 : x ≤ 65535) (s : ByteArray) (l z w z' w' : List ByteArray) (m : Nat) (v e y g : Int) (hs : s.size ≤ 300) (hN : Pu 14 [st ⟨#[43]⟩, i64 (1010 + x % 16)] (slS l)) (L : LoopT C0 fuB (fuS s l [] 10 kn 0) (.exit 0) (fuS s l z m w l.length)) (hv0 : 0 ≤ v) (hv1 : v ≤ 2000) (hy0 : 0 ≤ y) (hy1 : y ≤ 2000) (I1 : Pu 11 [tabA z, st s, bl false] (internA (z', v, e))) (R : Pu 16 [slS w, st s, bl false] (rR (w', v, e))) (I2 : Pu 11 [tabA z, st s, bl true] (internA (z, y, g))) (hg : ¬ g = 0 ∨ g = 0 ∧ y = numD w s) (F : Pu 17 [slS w, st s] (i64 (numD w s))) (hLz : Pu 13 [tabA z] (i64 (10 + (z.length : Int)))) (hLz' : Pu 13 [tabA z'] (i64 (10 + (z'.length : Int)))) (hz : z.length ≤ z'.length) (hw : w.length = 10 + z.length) (hm : m = w.length) (hm2 : m ≤ 2000) (hz2 : z'.length ≤ 2000) : Pu 5 [.s (.int .u16 x), st s] (bl true) := by
  have r1 := row_sl (sz := 1) (enc := eS) (fun _ => rfl) w m (m * 1) hm (by omega)
  have hO := rknown_own
  rw [show slS w = AV.sl m (((w.flatMap eS).drop 0).take (m * 1)) from r1.symm] at R F
  unfold fuS at L
  rcases hg with hg | ⟨hg, hy⟩
  · exact pure_of (hs := hint [((1,0), {call := some ((bl true))}), ((3,2), {val := some (bl (false))}), ((5,1), {val := some (i64 (x))}), ((5,2), { val := some (i64 (x % 16)) }), ((6,1), {val := some (i64 ((1010 : Int) + x % (16 : Int)))}), ((6,2), {call := some ((slS l))}), ((8,0), {call := some ((AV.osl (0 : Nat) (0 : Nat) (10 : Nat) (1 : Nat))), news := some ([Bk.arr (10 : Nat) (List.flatMap eS kn) (0 : Nat)])}), ((10,1000), {loop := some ({ ks := [1, 6, 7, 8, 9], l := [0, 1], mx := [0] }, { t := mkT (133 : Nat) [((1 : Nat), st s), ((6 : Nat), slS l), ((7 : Nat), AV.ptr (0 : Nat) (0 : Nat)), ((8 : Nat), AV.osl (1 : Nat) (0 : Nat) (10 : Nat) (1 : Nat)), ((9 : Nat), i64 (↑(0 : Nat) : Int))], h := [ptB [], Bk.arr ((10 : Nat) * (1 : Nat)) (List.flatMap eS kn) (0 : Nat)] : St }, Ex.exit (0 : Nat), { t := mkT (133 : Nat) [((1 : Nat), st s), ((6 : Nat), slS l), ((7 : Nat), AV.ptr (0 : Nat) (0 : Nat)), ((8 : Nat), AV.osl (1 : Nat) (0 : Nat) m (1 : Nat)), ((9 : Nat), i64 (↑l.length : Int))], h := [ptB z, Bk.arr (m * (1 : Nat)) (List.flatMap eS w) (0 : Nat)] : St })}), ((20,2), {call := some ((internA (z', v, e)))}), ((21,2), {call := some ((rR (w', v, e))), sym := true}), ((22,2), {call := some ((internA (z, y, g)))}), ((23,1), {call := some ((i64 ((10 : Int) + (↑z.length : Int))))}), ((23,5), {val := some (bl (true))}), ((23,7), {val := some (i64 (v))}), ((23,11), {val := some (bl (true))}), ((23,16), {val := some (bl (true))}), ((23,18), {call := some ((i64 ((10 : Int) + (↑z'.length : Int))))}), ((23,20), {call := some ((i64 ((10 : Int) + (↑z.length : Int))))}), ((23,23), {val := some (bl (true))}), ((23,26), {val := some (bl (true))})]) (ps := [_, bl (decide ((↑s.size : Int) > (300 : Int))) = bl (false), i64 (IntKind.i64.wrap x) = i64 (x), i64 (x.tmod (16 : Int)) = i64 (x % (16 : Int)), i64 (IntKind.i64.wrap ((1010 : Int) + x % (16 : Int))) = i64 ((1010 : Int) + x % (16 : Int)), _, _, { t := mkT (133 : Nat) [((1 : Nat), st s), ((6 : Nat), slS l), ((7 : Nat), AV.ptr (0 : Nat) (0 : Nat)), ((8 : Nat), AV.osl (1 : Nat) (0 : Nat) (10 : Nat) (1 : Nat)), ((9 : Nat), i64 (↑(0 : Nat) : Int))], h := [ptB [], Bk.arr ((10 : Nat) * (1 : Nat)) (List.flatMap eS kn) (0 : Nat)] : St } = { t := mkT (133 : Nat) [((1 : Nat), st s), ((6 : Nat), slS l), ((7 : Nat), AV.ptr (0 : Nat) (0 : Nat)), ((8 : Nat), AV.osl (1 : Nat) (0 : Nat) (10 : Nat) (1 : Nat)), ((9 : Nat), i64 (↑(0 : Nat) : Int))], h := [ptB [], Bk.arr ((10 : Nat) * (1 : Nat)) (List.flatMap eS kn) (0 : Nat)] : St }, _, true = true, true = true, _, ([(1 : Nat)].all fun (i : Nat) => (Option.map pureB ((fun (j : Nat) => [Bk.arr (2 : Nat) [AV.sl z.length (List.flatMap eS z), AV.mp (rowsB z)] (0 : Nat), Bk.arr (m * (1 : Nat)) (List.flatMap eS w) (0 : Nat), Bk.arr (2 : Nat) [AV.sl z'.length (List.flatMap eS z'), AV.mp (rowsB z')] (0 : Nat)][j]?) i)).getD false) = true, true = true, _, _, _, bl ((10 : Int) + (↑z.length : Int) == (↑m : Int)) = bl (true), i64 (IntKind.i64.wrap v) = i64 (v), bl (v == v) = bl (true), bl (e == e) = bl (true), _, _, bl (decide ((10 : Int) + (↑z'.length : Int) ≥ (10 : Int) + (↑z.length : Int))) = bl (true), bl (g != (0 : Int)) = bl (true)]) (by kernel_rfl) ⟨(awake_ok), (bdF (by omega)), (intE (by exact wrap_i64 (by omega) (by omega))), (by exact intE (Int.tmod_eq_emod_of_nonneg (by omega))), (intE (by exact wrap_i64 (by omega) (by omega))), (hN), (hO), rfl, L, rfl, rfl, (I1), (by exact row_ids (fun _ => rfl) _ _ _ _ _ rfl), rfl, (R), (I2), (hLz), (beT (by omega)), (intE (by exact wrap_i64 (by omega) (by omega))), (beT (by omega)), (beT (by omega)), (hLz'), (hLz), (bdT (by omega)), (neF (by assumption)), trivial⟩
  · exact pure_cast (pure_of (hs := hint [((1,0), {call := some ((bl true))}), ((3,2), {val := some (bl (false))}), ((5,1), {val := some (i64 (x))}), ((5,2), { val := some (i64 (x % 16)) }), ((6,1), {val := some (i64 ((1010 : Int) + x % (16 : Int)))}), ((6,2), {call := some ((slS l))}), ((8,0), {call := some ((AV.osl (0 : Nat) (0 : Nat) (10 : Nat) (1 : Nat))), news := some ([Bk.arr (10 : Nat) (List.flatMap eS kn) (0 : Nat)])}), ((10,1000), {loop := some ({ ks := [1, 6, 7, 8, 9], l := [0, 1], mx := [0] }, { t := mkT (133 : Nat) [((1 : Nat), st s), ((6 : Nat), slS l), ((7 : Nat), AV.ptr (0 : Nat) (0 : Nat)), ((8 : Nat), AV.osl (1 : Nat) (0 : Nat) (10 : Nat) (1 : Nat)), ((9 : Nat), i64 (↑(0 : Nat) : Int))], h := [ptB [], Bk.arr ((10 : Nat) * (1 : Nat)) (List.flatMap eS kn) (0 : Nat)] : St }, Ex.exit (0 : Nat), { t := mkT (133 : Nat) [((1 : Nat), st s), ((6 : Nat), slS l), ((7 : Nat), AV.ptr (0 : Nat) (0 : Nat)), ((8 : Nat), AV.osl (1 : Nat) (0 : Nat) m (1 : Nat)), ((9 : Nat), i64 (↑l.length : Int))], h := [ptB z, Bk.arr (m * (1 : Nat)) (List.flatMap eS w) (0 : Nat)] : St })}), ((20,2), {call := some ((internA (z', v, e)))}), ((21,2), {call := some ((rR (w', v, e))), sym := true}), ((22,2), {call := some ((internA (z, y, g)))}), ((23,1), {call := some ((i64 ((10 : Int) + (↑z.length : Int))))}), ((23,5), {val := some (bl (true))}), ((23,7), {val := some (i64 (v))}), ((23,11), {val := some (bl (true))}), ((23,16), {val := some (bl (true))}), ((23,18), {call := some ((i64 ((10 : Int) + (↑z'.length : Int))))}), ((23,20), {call := some ((i64 ((10 : Int) + (↑z.length : Int))))}), ((23,23), {val := some (bl (true))}), ((23,26), {val := some (bl (false))}), ((23,28), {val := some (i64 (y))}), ((23,31), {call := some ((i64 (numD w s))), sym := true})]) (r := bl (y == numD w s)) (ps := [_, bl (decide ((↑s.size : Int) > (300 : Int))) = bl (false), i64 (IntKind.i64.wrap x) = i64 (x), i64 (x.tmod (16 : Int)) = i64 (x % (16 : Int)), i64 (IntKind.i64.wrap ((1010 : Int) + x % (16 : Int))) = i64 ((1010 : Int) + x % (16 : Int)), _, _, { t := mkT (133 : Nat) [((1 : Nat), st s), ((6 : Nat), slS l), ((7 : Nat), AV.ptr (0 : Nat) (0 : Nat)), ((8 : Nat), AV.osl (1 : Nat) (0 : Nat) (10 : Nat) (1 : Nat)), ((9 : Nat), i64 (↑(0 : Nat) : Int))], h := [ptB [], Bk.arr ((10 : Nat) * (1 : Nat)) (List.flatMap eS kn) (0 : Nat)] : St } = { t := mkT (133 : Nat) [((1 : Nat), st s), ((6 : Nat), slS l), ((7 : Nat), AV.ptr (0 : Nat) (0 : Nat)), ((8 : Nat), AV.osl (1 : Nat) (0 : Nat) (10 : Nat) (1 : Nat)), ((9 : Nat), i64 (↑(0 : Nat) : Int))], h := [ptB [], Bk.arr ((10 : Nat) * (1 : Nat)) (List.flatMap eS kn) (0 : Nat)] : St }, _, true = true, true = true, _, ([(1 : Nat)].all fun (i : Nat) => (Option.map pureB ((fun (j : Nat) => [Bk.arr (2 : Nat) [AV.sl z.length (List.flatMap eS z), AV.mp (rowsB z)] (0 : Nat), Bk.arr (m * (1 : Nat)) (List.flatMap eS w) (0 : Nat), Bk.arr (2 : Nat) [AV.sl z'.length (List.flatMap eS z'), AV.mp (rowsB z')] (0 : Nat)][j]?) i)).getD false) = true, true = true, _, _, _, bl ((10 : Int) + (↑z.length : Int) == (↑m : Int)) = bl (true), i64 (IntKind.i64.wrap v) = i64 (v), bl (v == v) = bl (true), bl (e == e) = bl (true), _, _, bl (decide ((10 : Int) + (↑z'.length : Int) ≥ (10 : Int) + (↑z.length : Int))) = bl (true), bl (g != (0 : Int)) = bl (false), i64 (IntKind.i64.wrap y) = i64 (y), ([(1 : Nat)].all fun (i : Nat) => (Option.map pureB ((fun (j : Nat) => [Bk.arr (2 : Nat) [AV.sl z.length (List.flatMap eS z), AV.mp (rowsB z)] (0 : Nat), Bk.arr (m * (1 : Nat)) (List.flatMap eS w) (m * (1 : Nat)), Bk.arr (2 : Nat) [AV.sl z'.length (List.flatMap eS z'), AV.mp (rowsB z')] (0 : Nat), Bk.arr (2 : Nat) [AV.sl z.length (List.flatMap eS z), AV.mp (rowsB z)] (0 : Nat)][j]?) i)).getD false) = true, true = true, _]) (by kernel_rfl) ⟨(awake_ok), (bdF (by omega)), (intE (by exact wrap_i64 (by omega) (by omega))), (by exact intE (Int.tmod_eq_emod_of_nonneg (by omega))), (intE (by exact wrap_i64 (by omega) (by omega))), (hN), (hO), rfl, L, rfl, rfl, (I1), (by exact row_ids (fun _ => rfl) _ _ _ _ _ rfl), rfl, (R), (I2), (hLz), (beT (by omega)), (intE (by exact wrap_i64 (by omega) (by omega))), (beT (by omega)), (beT (by omega)), (hLz'), (hLz), (bdT (by omega)), (neT (by assumption)), (intE (by exact wrap_i64 (by omega) (by omega))), (by exact row_ids (fun _ => rfl) _ _ _ _ _ rfl), rfl, (F), trivial⟩) (by (simp; omega))
theorem look_num (z : List ByteArray) (s : ByteArray) : ¬ (internD z s true).2.2 = 0 ∨ (internD z s true).2.2 = 0 ∧ (internD z s true).2.1 = numD (kn ++ z) s := by
  unfold internD numD
  by_cases hr : rightD s = true
  · rw [if_neg (fun q => q hr)]
    cases h : idxD (eqD s) (kn ++ z) with
    | some k => exact .inr ⟨rfl, rfl⟩
    | none => exact .inr ⟨rfl, rfl⟩
  · rw [if_pos hr]
    exact .inl (by simp)
theorem full_ok (x : Int) (x0 : 0 ≤ x) (x1 : x ≤ 65535) (s : ByteArray) : Pu 5 [.s (.int .u16 x), st s] (bl true) := by
  by_cases hs : s.size ≤ 300
  · obtain ⟨n, hn⟩ : ∃ n : Nat, (n : Int) = 1010 + x % 16 := ⟨(1010 + x % 16).toNat, by omega⟩
    have hn2 : n ≤ 1025 := by omega
    have hN := numb_ok n hn2
    rw [hn] at hN
    have tz := tabN_tok n (by omega)
    have lz := tz.len
    have hw : (kn ++ tabN n).length = 10 + (tabN n).length := by rw [List.length_append]; rfl
    have hlt : (tabN n).length = min n 1014 := by unfold tabN; rw [numL_len]
    have I1 := intern_ok _ tz s false
    have I2 := intern_ok _ tz s true
    have R := rintern_ok (kn ++ tabN n) (by omega) s (by omega) false
    rw [rD_eq] at R
    have b1 := intern_int tz s false
    have b2 := intern_int tz s true
    obtain ⟨b, hb⟩ := intern_pre (tabN n) s false
    have tz' := (intern_tok tz s false).len
    obtain ⟨⟨z', v, e⟩, hr⟩ : ∃ r, internD (tabN n) s false = r := ⟨_, rfl⟩
    rw [hr] at I1 R b1 hb tz'
    simp only at b1 hb tz'
    rw [intern_lookE] at I2
    exact full_go x x0 x1 s (numL n) (tabN n) (kn ++ tabN n) z' (kn ++ z') _ v e _ _ hs hN (fu_all s n hn2) b1.1 b1.2 b2.1 b2.2 I1 R I2 (look_num _ s) (rfind_ok _ s (by omega)) (len_ok _ (by omega)) (len_ok _ (by omega)) (by rw [hb, List.length_append]; omega) hw (by omega) (by omega) (by omega)
  · exact pure_of (hs := hint [((1,0), {call := some ((bl true))}), ((3,2), {val := some (bl (true))})]) (ps := [_, bl (decide ((↑s.size : Int) > (300 : Int))) = bl (true)]) (by kernel_rfl) ⟨(awake_ok), (bdT (by omega)), trivial⟩
end Go.Proofs.YtgbpjpacmepicaaDoor
