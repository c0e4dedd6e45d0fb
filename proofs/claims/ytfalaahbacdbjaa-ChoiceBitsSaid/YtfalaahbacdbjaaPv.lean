/- Drop, by the program. By the prover of this seat. -/
import Derived.Test.YtfalaahbacdbjaaPx
set_option linter.unusedVariables false
set_option linter.unusedSimpArgs false
set_option maxRecDepth 100000
set_option maxHeartbeats 4000000
namespace Go.Proofs.Ytfalaahbacdbjaa
open Go.RowKit Go.Pm
def dpH (l : List Row) (c : Int) (g : List Int) (K T : List (AV × AV)) : List Bk := [boxA l, .arr 1 [i64 c] 1, .arr 2 [.mp [], .mp []] 0, .map (g.map rowG) true, .arr 1 [.mp (g.map rowG)] 1, .map K false, .map T false, .arr 2 [.omp 5, .omp 6] 0]
theorem drop_go (l : List Row) (h : LOk l) (K T : List Row) (c : Int) (ids g : List Int) (hl : ids.length ≤ 1000) (L : LoopT C0 gnB (gnS l c ids [] 0) (.exit 0) (gnS l c ids g ids.length))
    (D1 : CallH Try.prog G1 31 [.omp 5, .fn (.func 32) [] [.fptr [i64 c], .fptr [.mp (g.map rowG)]]] (dpH l c g (rowsK l) (rowsT l)) (.tup []) (dpH l c g (rowsK K) (rowsT l)))
    (D2 : CallH Try.prog G1 33 [.omp 6, .fn (.func 34) [] [.fptr [.mp (g.map rowG)]]] (dpH l c g (rowsK K) (rowsT l)) (.tup []) (dpH l c g (rowsK K) (rowsT T))) : Pu 21 [tabC l, i64 c, slI ids] (A [.mp (rowsK K), .mp (rowsT T)]) := by
  have hC := copied_ok l h
  exact pure_said (hs := hint [((3,1000), {loop := some ({ ks := [3, 4, 6, 7, 14, 15, 16], l := [0, 1, 2, 3, 4], mx := [4] }, gnS l c ids [] (0 : Nat), Ex.exit (0 : Nat), gnS l c ids g ids.length)}), ((7,1), {call := some ((A [AV.omp (0 : Nat), AV.omp (1 : Nat)])), news := some ([Bk.map (rowsK l) false, Bk.map (rowsT l) false]), sym := true}), ((8,2000), { frz := [1, 3, 4] }), ((8,3), {heap := some (AV.tup [], dpH l c g (rowsK K) (rowsT l))}), ((9,3), {heap := some (AV.tup [], dpH l c g (rowsK K) (rowsT T))})]) (ps := [gnS l c ids [] (0 : Nat) = gnS l c ids [] (0 : Nat), _, true = true, true = true, true = true, true = true, true = true, [Bk.map (rowsK l) false, Bk.map (rowsT l) false].all pureB = true, true = true, true = true, _, true = true, pureB (Bk.map (List.map rowG g) false) = true, true = true, _, [Bk.arr (2 : Nat) [AV.mp (rowsK l), AV.mp (rowsT l)] (0 : Nat), Bk.arr (1 : Nat) [AV.s (Value.int IntKind.i64 c)] (1 : Nat), Bk.arr (2 : Nat) [AV.mp [], AV.mp []] (0 : Nat), Bk.map (List.map rowG g) true, Bk.arr (1 : Nat) [AV.mp (List.map rowG g)] (1 : Nat), Bk.map (rowsK l) false, Bk.map (rowsT l) false, Bk.arr (2 : Nat) [AV.omp (5 : Nat), AV.omp (6 : Nat)] (0 : Nat)].length ≤ [Bk.arr (2 : Nat) [AV.mp (rowsK l), AV.mp (rowsT l)] (0 : Nat), Bk.arr (1 : Nat) [AV.s (Value.int IntKind.i64 c)] (1 : Nat), Bk.arr (2 : Nat) [AV.mp [], AV.mp []] (0 : Nat), Bk.map (List.map rowG g) true, Bk.arr (1 : Nat) [AV.mp (List.map rowG g)] (1 : Nat), Bk.map (rowsK K) false, Bk.map (rowsT l) false, Bk.arr (2 : Nat) [AV.omp (5 : Nat), AV.omp (6 : Nat)] (0 : Nat)].length, _, [Bk.arr (2 : Nat) [AV.mp (rowsK l), AV.mp (rowsT l)] (0 : Nat), Bk.arr (1 : Nat) [AV.s (Value.int IntKind.i64 c)] (1 : Nat), Bk.arr (2 : Nat) [AV.mp [], AV.mp []] (0 : Nat), Bk.map (List.map rowG g) true, Bk.arr (1 : Nat) [AV.mp (List.map rowG g)] (1 : Nat), Bk.map (rowsK K) false, Bk.map (rowsT l) false, Bk.arr (2 : Nat) [AV.omp (5 : Nat), AV.omp (6 : Nat)] (0 : Nat)].length ≤ [Bk.arr (2 : Nat) [AV.mp (rowsK l), AV.mp (rowsT l)] (0 : Nat), Bk.arr (1 : Nat) [AV.s (Value.int IntKind.i64 c)] (1 : Nat), Bk.arr (2 : Nat) [AV.mp [], AV.mp []] (0 : Nat), Bk.map (List.map rowG g) true, Bk.arr (1 : Nat) [AV.mp (List.map rowG g)] (1 : Nat), Bk.map (rowsK K) false, Bk.map (rowsT T) false, Bk.arr (2 : Nat) [AV.omp (5 : Nat), AV.omp (6 : Nat)] (0 : Nat)].length, ([(5 : Nat), (6 : Nat)].all fun (i : Nat) => (Option.map pureB [Bk.arr (2 : Nat) [AV.mp (rowsK l), AV.mp (rowsT l)] (0 : Nat), Bk.arr (1 : Nat) [AV.s (Value.int IntKind.i64 c)] (1 : Nat), Bk.arr (2 : Nat) [AV.omp (5 : Nat), AV.omp (6 : Nat)] (0 : Nat), Bk.map (List.map rowG g) true, Bk.arr (1 : Nat) [AV.mp (List.map rowG g)] (1 : Nat), Bk.map (rowsK K) false, Bk.map (rowsT T) false, Bk.arr (2 : Nat) [AV.omp (5 : Nat), AV.omp (6 : Nat)] (0 : Nat)][i]?).getD false) = true, true = true]) (by kernel_rfl) ⟨rfl, L, rfl, rfl, rfl, rfl, rfl, (by exact all_kt _ _), rfl, rfl, (hC), rfl, (by exact pureB_g _ _), rfl, (D1), (by (simp; done)), (D2), (by (simp; done)), (by exact all_kt _ _), rfl, trivial⟩
theorem lits_wf {t : TypeId} {q : IntKind} (ht : Try.prog.underlying t = some (.int q)) (m : Nat) {n : Int} {l : List Lit} (h : Try.prog.keyLits (m + 1) t [.int q n] = some l) : (Lit.int q n).wf = true := by
  unfold Program.keyLits at h
  rw [ht] at h
  simp at h
  exact h.1
theorem keyP_wf {x : Int × Int} (hx : kwf Try.prog 67 (ka67 x) = true) : (Lit.int .u32 x.2).wf = true := by
  have hx : (true && (keyOf Try.prog 67 (mkK x)).isSome) = true := hx
  rw [Bool.true_and] at hx
  unfold keyOf at hx
  rw [Try.underlying67] at hx
  simp only at hx
  split at hx
  · rw [Option.isSome_map] at hx
    obtain ⟨ls, h1⟩ := Option.isSome_iff_exists.1 hx
    unfold Program.keyLits at h1
    rw [Try.underlying67] at h1
    simp only at h1
    split at h1
    · obtain ⟨m, hm⟩ := tsz
      rw [hm] at h1
      simp only [mkK, Value.cells, List.mapM_cons, List.mapM_nil, c3, c33, List.drop_zero, List.take_succ_cons, List.take_zero, List.drop_succ_cons, Option.map_eq_some_iff] at h1
      obtain ⟨L, h3, _⟩ := h1
      cases ha : Try.prog.keyLits (m + 1) 3 [.int .i64 x.1] with
      | none => rw [ha] at h3; cases h3
      | some la =>
        cases hb : Try.prog.keyLits (m + 1) 33 [.int .u32 x.2] with
        | none => rw [ha, hb] at h3; cases h3
        | some lb => exact lits_wf Try.underlying33 m hb
    · cases h1
  · cases hx
theorem drop_ok (l : List Row) (h : LOk l) (c : Int) (h1 : -9223372036854775808 ≤ c) (h2 : c ≤ 9223372036854775807) (ids : List Int) (hi : ∀ x ∈ ids, 0 ≤ x ∧ x ≤ 4294967295) (hl : ids.length ≤ 1000) : Pu 21 [tabC l, i64 c, slI ids] (tabC (l.filter (keepG c ids))) := by
  have hg : ∀ x ∈ goneL ids ids.length, 0 ≤ x ∧ x ≤ 4294967295 := fun x hx => hi x (gone_sub ids _ x hx)
  have hm := gone_mem ids
  have L := gn_all l c ids hi (by omega)
  generalize goneL ids ids.length = g at hg hm L
  have lk : (l.filter mskB).length ≤ 1000000 := Nat.le_trans (List.length_filter_le _ _) (by have := h.len; omega)
  have lt : (l.filter stpB).length ≤ 1000000 := Nat.le_trans (List.length_filter_le _ _) (by have := h.len; omega)
  have D1 := del31_law G1 [.fptr [i64 c], .fptr [.mp (g.map rowG)]] (by simp [pureC0]) (delK c g) (fun x v hx => by
    unfold delK
    by_cases q : x.1 = c
    · rw [decide_eq_true q, Bool.true_or]
      exact clo32_y g c x.1 x.2 v q
    · rw [decide_eq_false q, Bool.false_or]
      have hx2 : kwf Try.prog 33 (u32 x.2) = true := kwf33 (keyP_wf hx)
      exact clo32_n g hg c x.1 x.2 v q hx2) (dpH l c g (rowsK l) (rowsT l)) 5 ((l.filter mskB).map prK) (by rw [← rowsK_pr]; rfl) (fun p hp => by
      obtain ⟨r, hr, rfl⟩ := List.mem_map.1 hp
      have := h.row r (List.mem_filter.1 hr).1
      exact kwfP (c := r.c) (id := r.id) (by omega) (by omega) (by omega) (by omega)) (by rw [List.length_map]; exact lk)
  rw [drop_k h c ids g hm] at D1
  have D2 := del33_law G1 [.fptr [.mp (g.map rowG)]] (by simp [pureC0]) (delT g) (fun x v hx => clo34 g hg x v hx) (dpH l c g (rowsK (l.filter (keepG c ids))) (rowsT l)) 6 ((l.filter stpB).map prT) (by rw [← rowsT_pr]; rfl) (fun p hp => by
      obtain ⟨r, hr, rfl⟩ := List.mem_map.1 hp
      have := h.row r (List.mem_filter.1 hr).1
      exact kwfS (id := r.id) (by omega) (by omega)) (by rw [List.length_map]; exact lt)
  rw [drop_t h c ids g hm] at D2
  exact drop_go l h _ _ c ids g hl L D1 D2
end Go.Proofs.Ytfalaahbacdbjaa
