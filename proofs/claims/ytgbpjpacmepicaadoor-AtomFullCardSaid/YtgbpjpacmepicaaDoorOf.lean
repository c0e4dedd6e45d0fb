/- The law Splits. By the prover of this seat. -/
import Derived.Test.YtgbpjpacmepicaaDoorOe
set_option linter.unusedVariables false
set_option linter.unusedSimpArgs false
set_option maxRecDepth 100000
set_option maxHeartbeats 4000000
namespace Go.Proofs.YtgbpjpacmepicaaDoor
open Go.RowKit Go.Pm
def ptB (a : List ByteArray) : Bk := .arr 2 [slS a, .mp (rowsB a)] 0
theorem run_loop {S : List ByteArray → Nat → St} {B : Code} (names : List ByteArray) (e : Nat) (hs : ∀ a a' n er k, k < names.length → Pu 11 [tabA a, st (nth names k), bl false] (internA (a', n, er)) → Tri C0 B (S a k) .normal (S a' (k + 1))) (he : ∀ a, LoopT C0 B (S a names.length) (.exit e) (S a names.length)) (a : List ByteArray) (ha : TOk a) : LoopT C0 B (S a 0) (.exit e) (S (runI a names) names.length) := by
  have L := LoopT.count (fun k => S (runI a (names.take k)) k) names.length (fun k hk => by
    have q := runI_tok (names.take k) a ha
    have e := runI_snoc a names k hk
    simp only [e]
    exact hs _ _ _ _ k hk (intern_ok _ q (nth names k) false)) (he _) 0 (by omega)
  simp only [List.take_length] at L
  exact L
noncomputable def sxB : Code := loopOf Tryd.prog 8 7
def sxS (l0 l1 l2 : List ByteArray) (a : List ByteArray) (k : Nat) : St := ⟨mkT 147 [(0, slS l0), (1, slS l1), (2, slS l2), (7, .ptr 0 0), (8, i64 k)], [ptB a]⟩
theorem sx_step (l0 l1 l2 : List ByteArray) (hn : l0.length ≤ 20) (a a' : List ByteArray) (n e : Int) (k : Nat) (hk : k < l0.length) (hI : Pu 11 [tabA a, st (nth l0 k), bl false] (internA (a', n, e))) : Tri C0 sxB (sxS l0 l1 l2 a k) .normal (sxS l0 l1 l2 a' (k + 1)) := by
  exact runF_ok (hs := hint [((7,3), {val := some (bl (true))}), ((9,3), {cells := some (eS (nth l0 k) ++ List.flatMap eS (List.drop (k + (1 : Nat)) l0)), sym := true}), ((9,5), {call := some ((internA (a', n, e)))}), ((8,1), {val := some (i64 ((↑k : Int) + (1 : Int)))})]) (f := { ks := [0, 1, 2, 7, 8], l := [0] }) (ps := [bl (decide ((↑k : Int) < (↑l0.length : Int))) = bl (true), decide ((0 : Int) ≤ (↑k : Int) ∧ (↑k : Int) < (↑l0.length : Int)) = true, ((List.drop ((↑k : Int).toNat * (1 : Nat)) (List.flatMap eS l0)) : List AV) = (eS (nth l0 k) ++ List.flatMap eS (List.drop (k + (1 : Nat)) l0)), _, i64 (IntKind.i64.wrap ((↑k : Int) + (1 : Int))) = i64 ((↑k : Int) + (1 : Int)), true = true, true = true]) (by kernel_rfl) ⟨(bdT (by omega)), (by exact decide_t (by omega)), (by exact flat_nth (sz := 1) (k := k) (fun _ => rfl) (by omega)), (hI), (intE (by exact wrap_i64 (by omega) (by omega))), rfl, rfl, trivial⟩
theorem sx_end (l0 l1 l2 : List ByteArray) (a : List ByteArray) : LoopT C0 sxB (sxS l0 l1 l2 a l0.length) (.exit 0) (sxS l0 l1 l2 a l0.length) := by
  exact LoopT.fin (hs := hint [((7,3), {val := some (bl (false))})]) (f := { ks := [0, 1, 2, 7, 8], l := [0] }) (ps := [bl (decide ((↑l0.length : Int) < (↑l0.length : Int))) = bl (false), true = true, true = true]) (by kernel_rfl) ⟨(bdF (by omega)), rfl, rfl, trivial⟩ (by decide)
theorem sx_all (l0 l1 l2 : List ByteArray) (hn : l0.length ≤ 20) (a : List ByteArray) (ha : TOk a) : LoopT C0 sxB (sxS l0 l1 l2 a 0) (.exit 0) (sxS l0 l1 l2 (runI a l0) l0.length) :=
  run_loop l0 0 (fun a a' n er k hk h => sx_step l0 l1 l2 hn a a' n er k hk h) (sx_end l0 l1 l2) a ha
noncomputable def suB : Code := loopOf Tryd.prog 8 13
def suS (l0 l1 l2 was t : List ByteArray) (a : List ByteArray) (k : Nat) : St := ⟨mkT 147 [(0, slS l0), (1, slS l1), (2, slS l2), (7, .ptr 0 0), (9, slS was), (10, .ptr 1 0), (11, .ptr 2 0), (12, .ptr 3 0), (13, i64 k)], [ptB t, ptB a, ptB t, ptB t]⟩
theorem su_step (l0 l1 l2 was t : List ByteArray) (hn : l1.length ≤ 20) (a a' : List ByteArray) (n e : Int) (k : Nat) (hk : k < l1.length) (hI : Pu 11 [tabA a, st (nth l1 k), bl false] (internA (a', n, e))) : Tri C0 suB (suS l0 l1 l2 was t a k) .normal (suS l0 l1 l2 was t a' (k + 1)) := by
  exact runF_ok (hs := hint [((13,3), {val := some (bl (true))}), ((15,3), {cells := some (eS (nth l1 k) ++ List.flatMap eS (List.drop (k + (1 : Nat)) l1)), sym := true}), ((15,5), {call := some ((internA (a', n, e)))}), ((14,1), {val := some (i64 ((↑k : Int) + (1 : Int)))})]) (f := { ks := [0, 1, 2, 7, 9, 10, 11, 12, 13], l := [0, 1, 2, 3] }) (ps := [bl (decide ((↑k : Int) < (↑l1.length : Int))) = bl (true), decide ((0 : Int) ≤ (↑k : Int) ∧ (↑k : Int) < (↑l1.length : Int)) = true, ((List.drop ((↑k : Int).toNat * (1 : Nat)) (List.flatMap eS l1)) : List AV) = (eS (nth l1 k) ++ List.flatMap eS (List.drop (k + (1 : Nat)) l1)), _, i64 (IntKind.i64.wrap ((↑k : Int) + (1 : Int))) = i64 ((↑k : Int) + (1 : Int)), true = true, true = true, true = true, true = true, true = true]) (by kernel_rfl) ⟨(bdT (by omega)), (by exact decide_t (by omega)), (by exact flat_nth (sz := 1) (k := k) (fun _ => rfl) (by omega)), (hI), (intE (by exact wrap_i64 (by omega) (by omega))), rfl, rfl, rfl, rfl, rfl, trivial⟩
theorem su_end (l0 l1 l2 was t : List ByteArray) (a : List ByteArray) : LoopT C0 suB (suS l0 l1 l2 was t a l1.length) (.exit 2) (suS l0 l1 l2 was t a l1.length) := by
  exact LoopT.fin (hs := hint [((13,3), {val := some (bl (false))})]) (f := { ks := [0, 1, 2, 7, 9, 10, 11, 12, 13], l := [0, 1, 2, 3] }) (ps := [bl (decide ((↑l1.length : Int) < (↑l1.length : Int))) = bl (false), true = true, true = true, true = true, true = true, true = true]) (by kernel_rfl) ⟨(bdF (by omega)), rfl, rfl, rfl, rfl, rfl, trivial⟩ (by decide)
theorem su_all (l0 l1 l2 was t : List ByteArray) (hn : l1.length ≤ 20) (a : List ByteArray) (ha : TOk a) : LoopT C0 suB (suS l0 l1 l2 was t a 0) (.exit 2) (suS l0 l1 l2 was t (runI a l1) l1.length) :=
  run_loop l1 2 (fun a a' n er k hk h => su_step l0 l1 l2 was t hn a a' n er k hk h) (su_end l0 l1 l2 was t) a ha
noncomputable def svB : Code := loopOf Tryd.prog 8 17
def svS (l0 l1 l2 was t u : List ByteArray) (a : List ByteArray) (k : Nat) : St := ⟨mkT 147 [(0, slS l0), (1, slS l1), (2, slS l2), (7, .ptr 0 0), (9, slS was), (10, .ptr 1 0), (11, .ptr 2 0), (12, .ptr 3 0), (14, i64 k)], [ptB t, ptB u, ptB a, ptB t]⟩
theorem sv_step (l0 l1 l2 was t u : List ByteArray) (hn : l2.length ≤ 20) (a a' : List ByteArray) (n e : Int) (k : Nat) (hk : k < l2.length) (hI : Pu 11 [tabA a, st (nth l2 k), bl false] (internA (a', n, e))) : Tri C0 svB (svS l0 l1 l2 was t u a k) .normal (svS l0 l1 l2 was t u a' (k + 1)) := by
  exact runF_ok (hs := hint [((17,3), {val := some (bl (true))}), ((19,3), {cells := some (eS (nth l2 k) ++ List.flatMap eS (List.drop (k + (1 : Nat)) l2)), sym := true}), ((19,5), {call := some ((internA (a', n, e)))}), ((18,1), {val := some (i64 ((↑k : Int) + (1 : Int)))})]) (f := { ks := [0, 1, 2, 7, 9, 10, 11, 12, 14], l := [0, 1, 2, 3] }) (ps := [bl (decide ((↑k : Int) < (↑l2.length : Int))) = bl (true), decide ((0 : Int) ≤ (↑k : Int) ∧ (↑k : Int) < (↑l2.length : Int)) = true, ((List.drop ((↑k : Int).toNat * (1 : Nat)) (List.flatMap eS l2)) : List AV) = (eS (nth l2 k) ++ List.flatMap eS (List.drop (k + (1 : Nat)) l2)), _, i64 (IntKind.i64.wrap ((↑k : Int) + (1 : Int))) = i64 ((↑k : Int) + (1 : Int)), true = true, true = true, true = true, true = true, true = true]) (by kernel_rfl) ⟨(bdT (by omega)), (by exact decide_t (by omega)), (by exact flat_nth (sz := 1) (k := k) (fun _ => rfl) (by omega)), (hI), (intE (by exact wrap_i64 (by omega) (by omega))), rfl, rfl, rfl, rfl, rfl, trivial⟩
theorem sv_end (l0 l1 l2 was t u : List ByteArray) (a : List ByteArray) : LoopT C0 svB (svS l0 l1 l2 was t u a l2.length) (.exit 4) (svS l0 l1 l2 was t u a l2.length) := by
  exact LoopT.fin (hs := hint [((17,3), {val := some (bl (false))})]) (f := { ks := [0, 1, 2, 7, 9, 10, 11, 12, 14], l := [0, 1, 2, 3] }) (ps := [bl (decide ((↑l2.length : Int) < (↑l2.length : Int))) = bl (false), true = true, true = true, true = true, true = true, true = true]) (by kernel_rfl) ⟨(bdF (by omega)), rfl, rfl, rfl, rfl, rfl, trivial⟩ (by decide)
theorem sv_all (l0 l1 l2 was t u : List ByteArray) (hn : l2.length ≤ 20) (a : List ByteArray) (ha : TOk a) : LoopT C0 svB (svS l0 l1 l2 was t u a 0) (.exit 4) (svS l0 l1 l2 was t u (runI a l2) l2.length) :=
  run_loop l2 4 (fun a a' n er k hk h => sv_step l0 l1 l2 was t u hn a a' n er k hk h) (sv_end l0 l1 l2 was t u) a ha
noncomputable def swB : Code := loopOf Tryd.prog 8 21
def swS (l0 l1 l2 was t u v : List ByteArray) (a : List ByteArray) (k : Nat) : St := ⟨mkT 147 [(0, slS l0), (1, slS l1), (2, slS l2), (7, .ptr 0 0), (9, slS was), (10, .ptr 1 0), (11, .ptr 2 0), (12, .ptr 3 0), (15, i64 k)], [ptB t, ptB u, ptB v, ptB a]⟩
theorem sw_step (l0 l1 l2 was t u v : List ByteArray) (hn : l1.length ≤ 20) (a a' : List ByteArray) (n e : Int) (k : Nat) (hk : k < l1.length) (hI : Pu 11 [tabA a, st (nth l1 k), bl false] (internA (a', n, e))) : Tri C0 swB (swS l0 l1 l2 was t u v a k) .normal (swS l0 l1 l2 was t u v a' (k + 1)) := by
  exact runF_ok (hs := hint [((21,3), {val := some (bl (true))}), ((23,3), {cells := some (eS (nth l1 k) ++ List.flatMap eS (List.drop (k + (1 : Nat)) l1)), sym := true}), ((23,5), {call := some ((internA (a', n, e)))}), ((22,1), {val := some (i64 ((↑k : Int) + (1 : Int)))})]) (f := { ks := [0, 1, 2, 7, 9, 10, 11, 12, 15], l := [0, 1, 2, 3] }) (ps := [bl (decide ((↑k : Int) < (↑l1.length : Int))) = bl (true), decide ((0 : Int) ≤ (↑k : Int) ∧ (↑k : Int) < (↑l1.length : Int)) = true, ((List.drop ((↑k : Int).toNat * (1 : Nat)) (List.flatMap eS l1)) : List AV) = (eS (nth l1 k) ++ List.flatMap eS (List.drop (k + (1 : Nat)) l1)), _, i64 (IntKind.i64.wrap ((↑k : Int) + (1 : Int))) = i64 ((↑k : Int) + (1 : Int)), true = true, true = true, true = true, true = true, true = true]) (by kernel_rfl) ⟨(bdT (by omega)), (by exact decide_t (by omega)), (by exact flat_nth (sz := 1) (k := k) (fun _ => rfl) (by omega)), (hI), (intE (by exact wrap_i64 (by omega) (by omega))), rfl, rfl, rfl, rfl, rfl, trivial⟩
theorem sw_end (l0 l1 l2 was t u v : List ByteArray) (a : List ByteArray) : LoopT C0 swB (swS l0 l1 l2 was t u v a l1.length) (.exit 6) (swS l0 l1 l2 was t u v a l1.length) := by
  exact LoopT.fin (hs := hint [((21,3), {val := some (bl (false))})]) (f := { ks := [0, 1, 2, 7, 9, 10, 11, 12, 15], l := [0, 1, 2, 3] }) (ps := [bl (decide ((↑l1.length : Int) < (↑l1.length : Int))) = bl (false), true = true, true = true, true = true, true = true, true = true]) (by kernel_rfl) ⟨(bdF (by omega)), rfl, rfl, rfl, rfl, rfl, trivial⟩ (by decide)
theorem sw_all (l0 l1 l2 was t u v : List ByteArray) (hn : l1.length ≤ 20) (a : List ByteArray) (ha : TOk a) : LoopT C0 swB (swS l0 l1 l2 was t u v a 0) (.exit 6) (swS l0 l1 l2 was t u v (runI a l1) l1.length) :=
  run_loop l1 6 (fun a a' n er k hk h => sw_step l0 l1 l2 was t u v hn a a' n er k hk h) (sw_end l0 l1 l2 was t u v) a ha
theorem spl_go (l0 l1 l2 t u v wt wu wv : List ByteArray) (h0 : shortD l0 20 = true) (h1 : shortD l1 20 = true) (h2 : shortD l2 20 = true) (hu : wt.length ≤ wu.length) (hv : wt.length ≤ wv.length)
    (L0 : LoopT C0 sxB (sxS l0 l1 l2 [] 0) (.exit 0) (sxS l0 l1 l2 t l0.length))
    (L1 : LoopT C0 suB (suS l0 l1 l2 wt t t 0) (.exit 2) (suS l0 l1 l2 wt t u l1.length))
    (L2 : LoopT C0 svB (svS l0 l1 l2 wt t u t 0) (.exit 4) (svS l0 l1 l2 wt t u v l2.length))
    (L3 : LoopT C0 swB (swS l0 l1 l2 wt t u v t 0) (.exit 6) (swS l0 l1 l2 wt t u v u l1.length))
    (A0 : Pu 19 [tabA t] (slS wt)) (A1 : Pu 19 [tabA u] (slS wu)) (A2 : Pu 19 [tabA v] (slS wv)) (S0 : Pu 18 [slS wt, slS wt] (bl true)) (S1 : Pu 18 [slS wu, slS wu] (bl true))
    (E1 : AV.sl ((wt.length : Int) - 0).toNat (pieceA 1 0 wt.length (wu.flatMap eS)) = slS wt) (E2 : AV.sl ((wt.length : Int) - 0).toNat (pieceA 1 0 wt.length (wv.flatMap eS)) = slS wt) : Pu 8 [slS l0, slS l1, slS l2] (bl true) := by
  have q0 : Pu 10 [slS l0, i64 20] (bl true) := by have := short_ok l0 20 (by omega); rw [h0] at this; exact this
  have q1 : Pu 10 [slS l1, i64 20] (bl true) := by have := short_ok l1 20 (by omega); rw [h1] at this; exact this
  have q2 : Pu 10 [slS l2, i64 20] (bl true) := by have := short_ok l2 20 (by omega); rw [h2] at this; exact this
  exact pure_of (hs := hint [((1,0), {call := some ((bl true))}), ((3,1), {call := some ((bl true))}), ((3,5), {call := some ((bl true))}), ((3,10), {call := some ((bl true))}), ((7,1000), {loop := some ({ ks := [0, 1, 2, 7, 8], l := [0], mx := [0] }, sxS l0 l1 l2 [] (0 : Nat), Ex.exit (0 : Nat), sxS l0 l1 l2 t l0.length)}), ((10,1), {call := some ((slS wt))}), ((13,1000), {loop := some ({ ks := [0, 1, 2, 7, 9, 10, 11, 12, 13], l := [0, 1, 2, 3] }, suS l0 l1 l2 wt t t (0 : Nat), Ex.exit (2 : Nat), suS l0 l1 l2 wt t u l1.length)}), ((17,1000), {loop := some ({ ks := [0, 1, 2, 7, 9, 10, 11, 12, 14], l := [0, 1, 2, 3] }, svS l0 l1 l2 wt t u t (0 : Nat), Ex.exit (4 : Nat), svS l0 l1 l2 wt t u v l2.length)}), ((21,1000), {loop := some ({ ks := [0, 1, 2, 7, 9, 10, 11, 12, 15], l := [0, 1, 2, 3] }, swS l0 l1 l2 wt t u v t (0 : Nat), Ex.exit (6 : Nat), swS l0 l1 l2 wt t u v u l1.length)}), ((24,1), {call := some ((slS wu))}), ((24,3), {call := some ((slS wv))}), ((25,1), {call := some ((slS wt))}), ((25,3), {call := some ((bl true))}), ((25,7), {call := some ((slS wu))}), ((25,8), {call := some ((bl true))}), ((25,17), {val := some (bl (true))}), ((25,24), {val := some (bl (true))}), ((25,28), { sym := true, val := some (slS wt) }), ((25,30), {call := some ((bl true))}), ((25,36), { sym := true, val := some (slS wt) }), ((25,38), {call := some ((bl true))})]) (ps := [_, _, _, _, sxS l0 l1 l2 [] (0 : Nat) = sxS l0 l1 l2 [] (0 : Nat), _, true = true, _, suS l0 l1 l2 wt t t (0 : Nat) = suS l0 l1 l2 wt t t (0 : Nat), _, true = true, true = true, true = true, true = true, true = true, svS l0 l1 l2 wt t u t (0 : Nat) = svS l0 l1 l2 wt t u t (0 : Nat), _, true = true, true = true, true = true, true = true, true = true, swS l0 l1 l2 wt t u v t (0 : Nat) = swS l0 l1 l2 wt t u v t (0 : Nat), _, true = true, true = true, true = true, true = true, true = true, _, _, _, _, _, _, bl (decide ((↑wu.length : Int) ≥ (↑wt.length : Int))) = bl (true), bl (decide ((↑wv.length : Int) ≥ (↑wt.length : Int))) = bl (true), (decide ((0 : Int) ≤ (0 : Int) ∧ (0 : Int) ≤ (↑wt.length : Int) ∧ (↑wt.length : Int) ≤ (↑wu.length : Int) ∧ (↑wu.length : Int) ≤ (↑wu.length : Int)) && true) = true, AV.sl (((↑wt.length : Int) - (0 : Int)).toNat) (List.take (((↑wt.length : Int) - (0 : Int)).toNat * (1 : Nat)) (List.drop (0 : Nat) (List.flatMap eS wu))) = AV.sl (wt.length) (List.flatMap eS wt), _, (decide ((0 : Int) ≤ (0 : Int) ∧ (0 : Int) ≤ (↑wt.length : Int) ∧ (↑wt.length : Int) ≤ (↑wv.length : Int) ∧ (↑wv.length : Int) ≤ (↑wv.length : Int)) && true) = true, AV.sl (((↑wt.length : Int) - (0 : Int)).toNat) (List.take (((↑wt.length : Int) - (0 : Int)).toNat * (1 : Nat)) (List.drop (0 : Nat) (List.flatMap eS wv))) = AV.sl (wt.length) (List.flatMap eS wt), _]) (by kernel_rfl) ⟨(awake_ok), (q0), (q1), (q2), rfl, L0, rfl, (A0), rfl, L1, rfl, rfl, rfl, rfl, rfl, rfl, L2, rfl, rfl, rfl, rfl, rfl, rfl, L3, rfl, rfl, rfl, rfl, rfl, (A1), (A2), (A0), (S0), (A1), (S1), (bdT (by omega)), (bdT (by omega)), (by (first | exact E1 | (simp [slIn]; omega))), (by (first | exact E1 | (simp [slIn]; omega))), (S0), (by (first | exact E2 | (simp [slIn]; omega))), (by (first | exact E2 | (simp [slIn]; omega))), (S0), trivial⟩
theorem pre_len {w x b : List ByteArray} (h : x = w ++ b) : w.length ≤ x.length := by rw [h, List.length_append]; exact Nat.le_add_right _ _
theorem pre_piece (w x : List ByteArray) (p : ∃ b, x = w ++ b) : AV.sl ((w.length : Int) - 0).toNat (pieceA 1 0 w.length (x.flatMap eS)) = slS w := by
  obtain ⟨b, rfl⟩ := p
  have h := row_to (sz := 1) (enc := eS) (fun _ => rfl) (w ++ b) w.length (by omega) (by rw [List.length_append]; omega)
  rw [Int.toNat_natCast, List.take_left' rfl] at h
  exact h
theorem splits_ok (l0 l1 l2 : List ByteArray) : Pu 8 [slS l0, slS l1, slS l2] (bl true) := by
  by_cases h0 : shortD l0 20 = true
  · have q0 : Pu 10 [slS l0, i64 20] (bl true) := by have := short_ok l0 20 (by omega); rw [h0] at this; exact this
    by_cases h1 : shortD l1 20 = true
    · have q1 : Pu 10 [slS l1, i64 20] (bl true) := by have := short_ok l1 20 (by omega); rw [h1] at this; exact this
      by_cases h2 : shortD l2 20 = true
      · have n0 := (short_len h0).1
        have n1 := (short_len h1).1
        have n2 := (short_len h2).1
        have tt := runI_tok l0 [] tok0
        have tu := runI_tok l1 _ tt
        have tv := runI_tok l2 _ tt
        have lt := tt.len
        have lu := tu.len
        have lv := tv.len
        have el : ∀ x : List ByteArray, (kn ++ x).length = 10 + x.length := fun x => by rw [List.length_append]; rfl
        have pu : ∃ b, kn ++ runI (runI [] l0) l1 = kn ++ runI [] l0 ++ b := by
          obtain ⟨b, hb⟩ := runI_pre l1 (runI [] l0)
          exact ⟨b, by rw [hb, List.append_assoc]⟩
        have pv : ∃ b, kn ++ runI (runI [] l0) l2 = kn ++ runI [] l0 ++ b := by
          obtain ⟨b, hb⟩ := runI_pre l2 (runI [] l0)
          exact ⟨b, by rw [hb, List.append_assoc]⟩
        refine spl_go l0 l1 l2 _ _ _ _ _ _ h0 h1 h2 ?_ ?_ (sx_all l0 l1 l2 n0 [] tok0) (su_all l0 l1 l2 _ _ n1 _ tt) (sv_all l0 l1 l2 _ _ _ n2 _ tt) (sw_all l0 l1 l2 _ _ _ _ n1 _ tt) (all_ok _ (by omega)) (all_ok _ (by omega)) (all_ok _ (by omega)) (same_ok _ (by rw [el]; omega)) (same_ok _ (by rw [el]; omega)) (pre_piece _ _ pu) (pre_piece _ _ pv)
        · obtain ⟨b, hb⟩ := pu
          exact pre_len hb
        · obtain ⟨b, hb⟩ := pv
          exact pre_len hb
      · have q2 : Pu 10 [slS l2, i64 20] (bl false) := by have := short_ok l2 20 (by omega); rw [show shortD l2 20 = false by simpa using h2] at this; exact this
        exact pure_of (hs := hint [((1,0), {call := some ((bl true))}), ((3,1), {call := some ((bl true))}), ((3,5), {call := some ((bl true))}), ((3,10), {call := some ((bl false))})]) (ps := [_, _, _, _]) (by kernel_rfl) ⟨(awake_ok), (q0), (q1), (q2), trivial⟩
    · have q1 : Pu 10 [slS l1, i64 20] (bl false) := by have := short_ok l1 20 (by omega); rw [show shortD l1 20 = false by simpa using h1] at this; exact this
      exact pure_of (hs := hint [((1,0), {call := some ((bl true))}), ((3,1), {call := some ((bl true))}), ((3,5), {call := some ((bl false))})]) (ps := [_, _, _]) (by kernel_rfl) ⟨(awake_ok), (q0), (q1), trivial⟩
  · have q0 : Pu 10 [slS l0, i64 20] (bl false) := by have := short_ok l0 20 (by omega); rw [show shortD l0 20 = false by simpa using h0] at this; exact this
    exact pure_of (hs := hint [((1,0), {call := some ((bl true))}), ((3,1), {call := some ((bl false))})]) (ps := [_, _]) (by kernel_rfl) ⟨(awake_ok), (q0), trivial⟩
end Go.Proofs.YtgbpjpacmepicaaDoor
