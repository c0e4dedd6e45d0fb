/- Set, by the program. By the prover of this seat. -/
import Derived.Test.YtcnlgdbmcdlknaaDoorGg
set_option linter.unusedVariables false
set_option linter.unusedSimpArgs false
set_option maxRecDepth 100000
set_option maxHeartbeats 4000000
namespace Go.Proofs.YtcnlgdbmcdlknaaDoor.Ch
open Go.RowKit Go.Pm
def k8 : List Int := [1, 2, 3, 4, 5, 6, 7, 8]
theorem k8_nth (k : Nat) (hk : k < 8) : nth k8 k = (k : Int) + 1 := by
  match k, hk with
  | 0, _ => rfl
  | 1, _ => rfl
  | 2, _ => rfl
  | 3, _ => rfl
  | 4, _ => rfl
  | 5, _ => rfl
  | 6, _ => rfl
  | 7, _ => rfl
/-- a mask's bits -/
noncomputable def psB : Code := loopOf Tryd.prog 7 8
def psS (l : List Row) (c id m : Int) (k : Nat) : St := ⟨mkT 65 [(1, i64 c), (2, u32 id), (3, i64 m), (4, .ptr 0 0), (8, .ptr 1 0), (10, i64 ((k : Int) + 1))], [boxA l, .arr 2 [.mp [], .mp []] 0]⟩
def psH (l : List Row) : St := ⟨mkT 65 [(8, .ptr 1 0), (9, i64 15)], [boxA l, boxA l]⟩
theorem ps_same (l : List Row) (c id m : Int) (k : Nat) (hk : k < 8) (hc : (k : Int) + 1 = c) : Tri CS psB (psS l c id m k) .normal (psS l c id m (k + 1)) := by
  exact runF_ok (hs := hint [((8,1), {val := some (bl (true))}), ((10,3), {val := some (bl (false))}), ((9,1), {val := some (i64 ((↑k : Int) + (1 : Int) + (1 : Int)))})]) (f := { ks := [1, 2, 3, 4, 8, 10], l := [0, 1] }) (ps := [bl (decide ((↑k : Int) + (1 : Int) ≤ (8 : Int))) = bl (true), bl ((↑k : Int) + (1 : Int) != c) = bl (false), i64 (IntKind.i64.wrap ((↑k : Int) + (1 : Int) + (1 : Int))) = i64 ((↑k : Int) + (1 : Int) + (1 : Int)), true = true, true = true, true = true]) (by kernel_rfl) ⟨(bdT (by omega)), (neT (by assumption)), (intE (by exact wrap_i64 (by omega) (by omega))), rfl, rfl, rfl, trivial⟩
theorem ps_step (l : List Row) (h : LOk l) (c id m : Int) (h2 : 0 ≤ id) (h3 : id ≤ 4294967295) (k : Nat) (hk : k < 8) (hc : ¬ (k : Int) + 1 = c) (v x y : Int) (hv : lookV false (mfind (rowsK l) (A [i64 ((k : Int) + 1), u32 id])) (i64 0) = i64 v) (hx : andI v m = x) (hy : andI x 2052 = y) (hz : y = 0) : Tri CS psB (psS l c id m k) .normal (psS l c id m (k + 1)) := by
  have q1 := kwfP (c := (k : Int) + 1) (by omega) (by omega) h2 h3
  have q2 := allK_k h
  exact runF_ok (hs := hint [((8,1), {val := some (bl (true))}), ((10,3), {val := some (bl (true))}), ((10,9), { sym := true, val := some (i64 v) }), ((10,11), { val := some (i64 x) }), ((10,12), { val := some (i64 y) }), ((10,14), {val := some (bl (false))}), ((9,1), {val := some (i64 ((↑k : Int) + (1 : Int) + (1 : Int)))})]) (f := { ks := [1, 2, 3, 4, 8, 10], l := [0, 1] }) (ps := [bl (decide ((↑k : Int) + (1 : Int) ≤ (8 : Int))) = bl (true), bl ((↑k : Int) + (1 : Int) != c) = bl (true), true = true, kwf CS.P (87 : Nat) (AV.agg [AV.s (Value.int IntKind.i64 ((↑k : Int) + (1 : Int))), AV.s (Value.int IntKind.u32 id)]) = true, allK CS.P (87 : Nat) (rowsK l) = true, (match mfind (rowsK l) (AV.agg [AV.s (Value.int IntKind.i64 ((↑k : Int) + (1 : Int))), AV.s (Value.int IntKind.u32 id)]) with
  | some v => if false = true then AV.tup [v, AV.s (Value.bool true)] else v
  | none => if false = true then AV.tup [ofV (Value.int IntKind.i64 (0 : Int)), AV.s (Value.bool false)] else ofV (Value.int IntKind.i64 (0 : Int))) = i64 (v), i64 (IntKind.i64.wrap (↑(BitVec.ofInt (64 : Nat) v &&& BitVec.ofInt (64 : Nat) m).toNat : Int)) = i64 (x), i64 (IntKind.i64.wrap (↑(BitVec.ofInt (64 : Nat) x &&& BitVec.ofInt (64 : Nat) (2052 : Int)).toNat : Int)) = i64 (y), bl (y != (0 : Int)) = bl (false), i64 (IntKind.i64.wrap ((↑k : Int) + (1 : Int) + (1 : Int))) = i64 ((↑k : Int) + (1 : Int) + (1 : Int)), true = true, true = true, true = true]) (by kernel_rfl) ⟨(bdT (by omega)), (neF (by assumption)), (by (first | assumption | exact hv | rfl)), (by (first | assumption | exact hv | rfl)), (by (first | assumption | exact hv | rfl)), (by (first | assumption | exact hv | rfl)), (by exact intE hx), (by exact intE hy), (neT (by assumption)), (intE (by exact wrap_i64 (by omega) (by omega))), rfl, rfl, rfl, trivial⟩
theorem ps_hit (l : List Row) (h : LOk l) (c id m : Int) (h2 : 0 ≤ id) (h3 : id ≤ 4294967295) (k : Nat) (hk : k < 8) (hc : ¬ (k : Int) + 1 = c) (v x y : Int) (hv : lookV false (mfind (rowsK l) (A [i64 ((k : Int) + 1), u32 id])) (i64 0) = i64 v) (hx : andI v m = x) (hy : andI x 2052 = y) (hz : y ≠ 0) : LoopT CS psB (psS l c id m k) .ret (psH l) := by
  have q1 := kwfP (c := (k : Int) + 1) (by omega) (by omega) h2 h3
  have q2 := allK_k h
  exact LoopT.fin (hs := hint [((8,1), {val := some (bl (true))}), ((10,3), {val := some (bl (true))}), ((10,9), { sym := true, val := some (i64 v) }), ((10,11), { val := some (i64 x) }), ((10,12), { val := some (i64 y) }), ((10,14), {val := some (bl (true))})]) (f := { ks := [8, 9], l := [0, 1] }) (ps := [bl (decide ((↑k : Int) + (1 : Int) ≤ (8 : Int))) = bl (true), bl ((↑k : Int) + (1 : Int) != c) = bl (true), true = true, kwf CS.P (87 : Nat) (AV.agg [AV.s (Value.int IntKind.i64 ((↑k : Int) + (1 : Int))), AV.s (Value.int IntKind.u32 id)]) = true, allK CS.P (87 : Nat) (rowsK l) = true, (match mfind (rowsK l) (AV.agg [AV.s (Value.int IntKind.i64 ((↑k : Int) + (1 : Int))), AV.s (Value.int IntKind.u32 id)]) with
  | some v => if false = true then AV.tup [v, AV.s (Value.bool true)] else v
  | none => if false = true then AV.tup [ofV (Value.int IntKind.i64 (0 : Int)), AV.s (Value.bool false)] else ofV (Value.int IntKind.i64 (0 : Int))) = i64 (v), i64 (IntKind.i64.wrap (↑(BitVec.ofInt (64 : Nat) v &&& BitVec.ofInt (64 : Nat) m).toNat : Int)) = i64 (x), i64 (IntKind.i64.wrap (↑(BitVec.ofInt (64 : Nat) x &&& BitVec.ofInt (64 : Nat) (2052 : Int)).toNat : Int)) = i64 (y), bl (y != (0 : Int)) = bl (true), true = true, true = true, true = true]) (by kernel_rfl) ⟨(bdT (by omega)), (neF (by assumption)), (by (first | assumption | exact hv | rfl)), (by (first | assumption | exact hv | rfl)), (by (first | assumption | exact hv | rfl)), (by (first | assumption | exact hv | rfl)), (by exact intE hx), (by exact intE hy), (neF (by assumption)), rfl, rfl, rfl, trivial⟩ (by decide)
theorem ps_end (l : List Row) (c id m : Int) : LoopT CS psB (psS l c id m 8) (.exit 1) (psS l c id m 8) := by
  exact LoopT.fin (hs := hint []) (f := { ks := [1, 2, 3, 4, 8, 10], l := [0, 1] }) (ps := [true = true, true = true, true = true]) (by kernel_rfl) ⟨rfl, rfl, rfl, trivial⟩ (by decide)
def clashB (l : List Row) (c id : Int) (m : Nat) (k : Int) : Bool := decide (¬ k = c) && decide ((maskR l k id &&& m &&& 2052) ≠ 0)
def setD (l : List Row) (c id m : Int) : List Row × Int :=
  if c < 1 ∨ c > 8 then (l, 1) else if id = 0 then (l, 6) else if ¬ (0 ≤ m ∧ m ≤ 8191) then (l, 22) else if (idxD (clashB l c id m.toNat) k8).isSome = true then (l, 15) else (putM keyR l ⟨c, id, m.toNat⟩, 0)
theorem pset_b1 (l : List Row) (c id m : Int) (hc : c < 1 ∨ c > 8) : PS 7 [tabC l, i64 c, u32 id, i64 m] (outA l 1) := by
  by_cases h : c < 1
  · exact pure_of (hs := hint [((1,2), {val := some (bl (true))})]) (ps := [bl (decide (c < (1 : Int))) = bl (true)]) (by kernel_rfl) ⟨(bdT (by assumption)), trivial⟩
  · exact pure_of (hs := hint [((1,2), {val := some (bl (false))}), ((1,6), {val := some (bl (true))})]) (ps := [bl (decide (c < (1 : Int))) = bl (false), bl (decide (c > (8 : Int))) = bl (true)]) (by kernel_rfl) ⟨(bdF (by assumption)), (bdT (by omega)), trivial⟩
theorem pset_b2 (l : List Row) (c m : Int) (h1 : 1 ≤ c) (h8 : c ≤ 8) : PS 7 [tabC l, i64 c, u32 0, i64 m] (outA l 6) := by
  exact pure_of (hs := hint [((1,2), {val := some (bl (false))}), ((1,6), {val := some (bl (false))})]) (ps := [bl (decide (c < (1 : Int))) = bl (false), bl (decide (c > (8 : Int))) = bl (false)]) (by kernel_rfl) ⟨(bdF (by omega)), (bdF (by omega)), trivial⟩
theorem pset_b3 (l : List Row) (c id m : Int) (h1 : 1 ≤ c) (h8 : c ≤ 8) (h0 : id ≠ 0) (hI : PS 22 [i64 m] (bl false)) : PS 7 [tabC l, i64 c, u32 id, i64 m] (outA l 22) := by
  exact pure_of (hs := hint [((1,2), {val := some (bl (false))}), ((1,6), {val := some (bl (false))}), ((3,2), {val := some (bl (false))}), ((5,1), {call := some ((bl false))})]) (ps := [bl (decide (c < (1 : Int))) = bl (false), bl (decide (c > (8 : Int))) = bl (false), bl (id == (0 : Int)) = bl (false), _]) (by kernel_rfl) ⟨(bdF (by omega)), (bdF (by omega)), (beF (by assumption)), (hI), trivial⟩
theorem pset_b4 (l : List Row) (c id m : Int) (h1 : 1 ≤ c) (h8 : c ≤ 8) (h0 : id ≠ 0) (hI : PS 22 [i64 m] (bl true)) (L : LoopT CS psB (psS l c id m 0) .ret (psH l)) : PS 7 [tabC l, i64 c, u32 id, i64 m] (outA l 15) := by
  exact pure_of (hs := hint [((1,2), {val := some (bl (false))}), ((1,6), {val := some (bl (false))}), ((3,2), {val := some (bl (false))}), ((5,1), {call := some ((bl true))}), ((8,1000), {loop := some ({ ks := [1, 2, 3, 4, 8, 10], l := [0, 1] }, psS l c id m (0 : Nat), Ex.ret, psH l)})]) (ps := [bl (decide (c < (1 : Int))) = bl (false), bl (decide (c > (8 : Int))) = bl (false), bl (id == (0 : Int)) = bl (false), _, psS l c id m (0 : Nat) = psS l c id m (0 : Nat), _, true = true, true = true, true = true]) (by kernel_rfl) ⟨(bdF (by omega)), (bdF (by omega)), (beF (by assumption)), (hI), rfl, L, rfl, rfl, rfl, trivial⟩
theorem pset_g0 (l l' : List Row) (h : LOk l) (c id : Int) (h1 : 1 ≤ c) (h8 : c ≤ 8) (h0 : id ≠ 0) (h2 : 0 ≤ id) (h3 : id ≤ 4294967295) (hI : PS 22 [i64 0] (bl true)) (L : LoopT CS psB (psS l c id 0 0) (.exit 1) (psS l c id 0 8)) (hd : (mdel (rowsK l) (A [i64 c, u32 id])).Perm (rowsK l')) : PS 7 [tabC l, i64 c, u32 id, i64 0] (.tup [A [.mp (rowsK l'), .mp (rowsT l)], i64 0]) := by
  have hC := copied_ok l h
  have q1 := kwfP (c := c) (by omega) (by omega) h2 h3
  have q2 := allK_k h
  exact pure_said (hs := hint [((1,2), {val := some (bl (false))}), ((1,6), {val := some (bl (false))}), ((3,2), {val := some (bl (false))}), ((5,1), {call := some ((bl true))}), ((8,1000), {loop := some ({ ks := [1, 2, 3, 4, 8, 10], l := [0, 1] }, psS l c id (0 : Int) (0 : Nat), Ex.exit (1 : Nat), psS l c id (0 : Int) (8 : Nat))}), ((12,1), {call := some ((A [AV.omp (0 : Nat), AV.omp (1 : Nat)])), news := some ([Bk.map (rowsK l) false, Bk.map (rowsT l) false]), sym := true}), ((14,5), { sym := true, ents := some (rowsK l') })]) (ps := [bl (decide (c < (1 : Int))) = bl (false), bl (decide (c > (8 : Int))) = bl (false), bl (id == (0 : Int)) = bl (false), _, psS l c id (0 : Int) (0 : Nat) = psS l c id (0 : Int) (0 : Nat), _, true = true, true = true, true = true, [Bk.map (rowsK l) false, Bk.map (rowsT l) false].all pureB = true, true = true, true = true, _, true = true, true = true, kwf Tryd.prog (87 : Nat) (AV.agg [AV.s (Value.int IntKind.i64 c), AV.s (Value.int IntKind.u32 id)]) = true, allK Tryd.prog (87 : Nat) (rowsK l) = true, (mdel (rowsK l) (AV.agg [AV.s (Value.int IntKind.i64 c), AV.s (Value.int IntKind.u32 id)])).Perm (rowsK l'), ([(2 : Nat), (3 : Nat)].all fun (i : Nat) => (Option.map pureB [Bk.arr (2 : Nat) [AV.mp (rowsK l), AV.mp (rowsT l)] (0 : Fz), Bk.arr (2 : Nat) [AV.omp (2 : Nat), AV.omp (3 : Nat)] (0 : Fz), Bk.map (rowsK l') false, Bk.map (rowsT l) false, Bk.arr (2 : Nat) [AV.omp (2 : Nat), AV.omp (3 : Nat)] (if false = true then { n := (0 : Nat), ty := some (35 : Nat) : Fz } else (0 : Fz))][i]?).getD false) = true, true = true]) (by kernel_rfl) ⟨(bdF (by omega)), (bdF (by omega)), (beF (by assumption)), (hI), rfl, L, rfl, rfl, rfl, (by exact all_kt _ _), rfl, rfl, (hC), (by (first | assumption | exact hd | rfl)), (by (first | assumption | exact hd | rfl)), (by (first | assumption | exact hd | rfl)), (by (first | assumption | exact hd | rfl)), (by (first | assumption | exact hd | rfl)), (by exact all_kt _ _), rfl, trivial⟩
theorem pset_g1 (l l' : List Row) (h : LOk l) (c id m : Int) (h1 : 1 ≤ c) (h8 : c ≤ 8) (h0 : id ≠ 0) (h2 : 0 ≤ id) (h3 : id ≤ 4294967295) (hm : m ≠ 0) (hI : PS 22 [i64 m] (bl true)) (L : LoopT CS psB (psS l c id m 0) (.exit 1) (psS l c id m 8)) (hd : (mput (rowsK l) (A [i64 c, u32 id]) (i64 m)).Perm (rowsK l')) : PS 7 [tabC l, i64 c, u32 id, i64 m] (.tup [A [.mp (rowsK l'), .mp (rowsT l)], i64 0]) := by
  have hC := copied_ok l h
  have q1 := kwfP (c := c) (by omega) (by omega) h2 h3
  have q2 := allK_k h
  exact pure_said (hs := hint [((1,2), {val := some (bl (false))}), ((1,6), {val := some (bl (false))}), ((3,2), {val := some (bl (false))}), ((5,1), {call := some ((bl true))}), ((8,1000), {loop := some ({ ks := [1, 2, 3, 4, 8, 10], l := [0, 1] }, psS l c id m (0 : Nat), Ex.exit (1 : Nat), psS l c id m (8 : Nat))}), ((12,1), {call := some ((A [AV.omp (0 : Nat), AV.omp (1 : Nat)])), news := some ([Bk.map (rowsK l) false, Bk.map (rowsT l) false]), sym := true}), ((13,1), {val := some (bl (false))}), ((15,6), { sym := true, ents := some (rowsK l') })]) (ps := [bl (decide (c < (1 : Int))) = bl (false), bl (decide (c > (8 : Int))) = bl (false), bl (id == (0 : Int)) = bl (false), _, psS l c id m (0 : Nat) = psS l c id m (0 : Nat), _, true = true, true = true, true = true, [Bk.map (rowsK l) false, Bk.map (rowsT l) false].all pureB = true, true = true, true = true, _, bl (m == (0 : Int)) = bl (false), true = true, true = true, kwf Tryd.prog (87 : Nat) (AV.agg [AV.s (Value.int IntKind.i64 c), AV.s (Value.int IntKind.u32 id)]) = true, allK Tryd.prog (87 : Nat) (rowsK l) = true, (mput (rowsK l) (AV.agg [AV.s (Value.int IntKind.i64 c), AV.s (Value.int IntKind.u32 id)]) (AV.s (Value.int IntKind.i64 m))).Perm (rowsK l'), ([(2 : Nat), (3 : Nat)].all fun (i : Nat) => (Option.map pureB [Bk.arr (2 : Nat) [AV.mp (rowsK l), AV.mp (rowsT l)] (0 : Fz), Bk.arr (2 : Nat) [AV.omp (2 : Nat), AV.omp (3 : Nat)] (0 : Fz), Bk.map (rowsK l') false, Bk.map (rowsT l) false, Bk.arr (2 : Nat) [AV.omp (2 : Nat), AV.omp (3 : Nat)] (if false = true then { n := (0 : Nat), ty := some (35 : Nat) : Fz } else (0 : Fz))][i]?).getD false) = true, true = true]) (by kernel_rfl) ⟨(bdF (by omega)), (bdF (by omega)), (beF (by assumption)), (hI), rfl, L, rfl, rfl, rfl, (by exact all_kt _ _), rfl, rfl, (hC), (beF (by assumption)), (by (first | assumption | exact hd | rfl)), (by (first | assumption | exact hd | rfl)), (by (first | assumption | exact hd | rfl)), (by (first | assumption | exact hd | rfl)), (by (first | assumption | exact hd | rfl)), (by exact all_kt _ _), rfl, trivial⟩
theorem ps_any (l : List Row) (h : LOk l) (c id : Int) (n : Nat) (hn : n ≤ 8191) (h2 : 0 ≤ id) (h3 : id ≤ 4294967295) (k : Nat) (hk : k < 8) : (¬ clashB l c id n (nth k8 k) = true → Tri CS psB (psS l c id n k) .normal (psS l c id n (k + 1))) ∧ (clashB l c id n (nth k8 k) = true → LoopT CS psB (psS l c id n k) .ret (psH l)) := by
  rw [k8_nth k hk]
  have hv := look_k l h.apart ((k : Int) + 1) id (by omega)
  have hle := maskR_le (fun r hr => (h.row r hr).2.2.2.2) ((k : Int) + 1) id
  have hx := andI_nat (maskR l ((k : Int) + 1) id) n hle (by omega)
  have hle2 : maskR l ((k : Int) + 1) id &&& n ≤ maskR l ((k : Int) + 1) id := Nat.and_le_left
  have hy := andI_nat (maskR l ((k : Int) + 1) id &&& n) 2052 (by omega) (by omega)
  unfold clashB
  constructor
  · intro q
    by_cases hc : (k : Int) + 1 = c
    · exact ps_same l c id n k hk hc
    · rw [decide_eq_true hc, Bool.true_and, decide_eq_true_eq] at q
      exact ps_step l h c id n h2 h3 k hk hc _ _ _ hv hx hy (by omega)
  · intro q
    rw [Bool.and_eq_true, decide_eq_true_eq, decide_eq_true_eq] at q
    exact ps_hit l h c id n h2 h3 k hk q.1 _ _ _ hv hx hy (by have := q.2; omega)
theorem pset_ok (l : List Row) (h : LOk l) (c id m : Int) (h2 : 0 ≤ id) (h3 : id ≤ 4294967295) : PS 7 [tabC l, i64 c, u32 id, i64 m] (outA (setD l c id m).1 (setD l c id m).2) := by
  have hI := ismask_ok m
  unfold setD
  by_cases hc : c < 1 ∨ c > 8
  · rw [if_pos hc]; exact pset_b1 l c id m hc
  · rw [if_neg hc]
    by_cases h0 : id = 0
    · rw [if_pos h0, h0]; exact pset_b2 l c m (by omega) (by omega)
    · rw [if_neg h0]
      by_cases hm : 0 ≤ m ∧ m ≤ 8191
      · rw [if_neg (fun q => q hm)]
        rw [decide_eq_true hm] at hI
        obtain ⟨n, rfl⟩ : ∃ n : Nat, m = (n : Int) := ⟨m.toNat, by omega⟩
        rw [Int.toNat_natCast]
        have st := ps_any l h c id n (by omega) h2 h3
        cases hk : idxD (clashB l c id n) k8 with
        | some j =>
          obtain ⟨p1, p2, p3⟩ := idx_some hk
          have p1 : j < 8 := p1
          rw [if_pos (show (some j).isSome = true from rfl)]
          exact pset_b4 l c id n (by omega) (by omega) h0 hI (LoopT.count (psS l c id n) j (fun i hi => (st i (by omega)).1 (p3 i hi)) ((st j p1).2 p2) 0 (by omega))
        | none =>
          have p3 := idx_none hk
          rw [if_neg (by simp)]
          have L := LoopT.count (psS l c id n) 8 (fun i hi => (st i hi).1 (p3 i hi)) (ps_end l c id n) 0 (by omega)
          have hc0 : c ≠ 0 := by omega
          have eT : rowsT (putM keyR l ⟨c, id, n⟩) = rowsT l := by unfold rowsT; rw [put_kt hc0]
          simp only [outA, tabC]
          rw [eT]
          by_cases hz : n = 0
          · subst hz
            exact pset_g0 l _ h c id (by omega) (by omega) h0 h2 h3 hI L (putk_del h.apart (x := ⟨c, id, 0⟩) hc0 rfl)
          · exact pset_g1 l _ h c id n (by omega) (by omega) h0 h2 h3 (by omega) hI L (putk_put h.apart (x := ⟨c, id, n⟩) hc0 hz)
      · rw [if_pos hm]
        rw [decide_eq_false hm] at hI
        exact pset_b3 l c id m (by omega) (by omega) h0 hI
end Go.Proofs.YtcnlgdbmcdlknaaDoor.Ch
