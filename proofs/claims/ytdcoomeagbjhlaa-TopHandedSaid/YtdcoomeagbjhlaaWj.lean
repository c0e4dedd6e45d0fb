/- The law TopHanded. By the prover of this seat. -/
import Derived.Test.YtdcoomeagbjhlaaWi
set_option linter.unusedVariables false
set_option linter.unusedSimpArgs false
set_option maxRecDepth 100000
set_option maxHeartbeats 4000000
namespace Go.Proofs.Ytdcoomeagbjhlaa
open Go.RowKit Go.Pm
open Go.Proofs.Ytdcoomeagbjhlaa.Cl (Tab tabA setA convA slS TOk setD convD dropT)
noncomputable def nuB : Code := loopOf Try.prog 3 7
def nuS (ns : List Int) (q : Int) (ms : List Mw) (k m : Nat) (ks : List Int) : St := ⟨mkT 163 [(0, slU ns), (1, u8 q), (2, slM ms), (7, .osl 0 0 m 1), (30, slU ns), (31, i64 ns.length), (32, i64 k)], [.arr (m * 1) (ks.flatMap eI) 0]⟩
theorem nu_step (ns : List Int) (q : Int) (ms : List Mw) (k m : Nat) (ks : List Int) (hm : m = ks.length) (hmk : m ≤ k) (hk : k < ns.length) (hl : ns.length ≤ 2000) (h0 : 0 ≤ nth ns k) (h1 : nth ns k ≤ 4294967295) : Tri C0 nuB (nuS ns q ms k m ks) .normal (nuS ns q ms (k + 1) (m + 1) (ks ++ [nth ns k])) := by
  have e1 : (ks ++ [nth ns k]).flatMap eI = ks.flatMap eI ++ eI (nth ns k) := row_snoc ks _
  exact runF_ok (hs := hint [((7,0), {val := some (bl (true))}), ((8,0), {cells := some (eU (nth ns k) ++ List.flatMap eU (List.drop (k + (1 : Nat)) ns)), sym := true}), ((9,2), {val := some (i64 (nth ns k))}), ((9,4), { sym := true, cells := some ((ks ++ [nth ns k]).flatMap eI) }), ((10,0), {val := some (i64 ((↑k : Int) + (1 : Int)))})]) (f := { ks := [0, 1, 2, 7, 30, 31, 32], l := [2] }) (ps := [bl (decide ((↑k : Int) < (↑ns.length : Int))) = bl (true), decide ((0 : Int) ≤ (↑k : Int) ∧ (↑k : Int) < (↑ns.length : Int)) = true, ((List.drop ((↑k : Int).toNat * (1 : Nat)) (List.flatMap eU ns)) : List AV) = (eU (nth ns k) ++ List.flatMap eU (List.drop (k + (1 : Nat)) ns)), i64 (IntKind.i64.wrap (nth ns k)) = i64 (nth ns k), decide (m * (1 : Nat) = m * (1 : Nat) ∧ (0 : Nat) ≤ m * (1 : Nat) ∧ m * (1 : Nat) = (List.flatMap eI ks).length) = true, decide ((m + (1 : Nat)) * (8 : Nat) ≤ (140737488355328 : Nat)) = true, true = true, ((List.flatMap eI ks ++ [AV.s (Value.int IntKind.i64 (nth ns k))]) : List AV) = (List.flatMap eI (ks ++ [nth ns k])), i64 (IntKind.i64.wrap ((↑k : Int) + (1 : Int))) = i64 ((↑k : Int) + (1 : Int)), true = true, pureB (Bk.arr ((m + (1 : Nat)) * (1 : Nat)) (List.flatMap eI (ks ++ [nth ns k])) (0 : Fz)) = true]) (by kernel_rfl) ⟨(bdT (by omega)), (by exact decide_t (by omega)), (by exact flat_nth (sz := 1) (k := k) (fun _ => rfl) (by omega)), (intE (by exact wrap_i64 (by omega) (by omega))), (by (first | exact e1.symm | exact decide_t (by omega) | exact decide_t ⟨by omega, by omega, by rw [row_len (sz := 1) (fun _ => rfl)]; omega⟩ | exact decide_t (by rw [row_len (sz := 1) (fun _ => rfl)]; omega))), (by (first | exact e1.symm | exact decide_t (by omega) | exact decide_t ⟨by omega, by omega, by rw [row_len (sz := 1) (fun _ => rfl)]; omega⟩ | exact decide_t (by rw [row_len (sz := 1) (fun _ => rfl)]; omega))), rfl, (by (first | exact e1.symm | exact decide_t (by omega) | exact decide_t ⟨by omega, by omega, by rw [row_len (sz := 1) (fun _ => rfl)]; omega⟩ | exact decide_t (by rw [row_len (sz := 1) (fun _ => rfl)]; omega))), (intE (by exact wrap_i64 (by omega) (by omega))), rfl, (by exact row_pureB (fun _ => rfl) _ _ _), trivial⟩
theorem nu_end (ns : List Int) (q : Int) (ms : List Mw) (m : Nat) (ks : List Int) : LoopT C0 nuB (nuS ns q ms ns.length m ks) (.exit 0) (nuS ns q ms ns.length m ks) := by
  exact LoopT.fin (hs := hint [((7,0), {val := some (bl (false))})]) (f := { ks := [0, 1, 2, 7, 30, 31, 32], l := [0] }) (ps := [bl (decide ((↑ns.length : Int) < (↑ns.length : Int))) = bl (false), true = true, pureB (Bk.arr (m * (1 : Nat)) (List.flatMap eI ks) (0 : Fz)) = true]) (by kernel_rfl) ⟨(bdF (by omega)), rfl, (by exact row_pureB (fun _ => rfl) _ _ _), trivial⟩ (by decide)
theorem take_snoc (ns : List Int) (k : Nat) (hk : k < ns.length) : ns.take (k + 1) = ns.take k ++ [nth ns k] := by
  rw [nth_eq hk, List.take_add_one, List.getElem?_eq_getElem hk]; rfl
theorem nu_all (ns : List Int) (hn : ∀ n ∈ ns, 0 ≤ n ∧ n ≤ 4294967295) (q : Int) (ms : List Mw) (hl : ns.length ≤ 2000) : LoopT C0 nuB (nuS ns q ms 0 0 []) (.exit 0) (nuS ns q ms ns.length ns.length ns) := by
  have h := LoopT.count (fun k => nuS ns q ms k (ns.take k).length (ns.take k)) ns.length (fun k hk => by
    have hb := hn _ (nth_mem hk)
    show Tri C0 nuB (nuS ns q ms k (ns.take k).length (ns.take k)) .normal (nuS ns q ms (k + 1) (ns.take (k + 1)).length (ns.take (k + 1)))
    rw [take_snoc ns k hk, List.length_append]
    exact nu_step ns q ms k _ _ rfl (by rw [List.length_take]; omega) hk hl hb.1 hb.2) (nu_end ns q ms _ _) 0 (by omega)
  simp only [List.take_length] at h
  exact h
theorem ho_end (ns d : List Int) (m : Int) (ms : List Mw) (s : Hs) (Q : Nat) (hn : ns.length ≤ 2000) (hms : ms.length ≤ 60) (m0 : 1 ≤ m) (m1 : m ≤ 1000) (hQ : (ns.length : Int).tdiv m = Q) (hQ1 : Q ≤ 2000) : LoopT C0 hoB (hoS ns d m ms s (4 + Q + ms.length)) (.exit 2) (hoS ns d m ms s (4 + Q + ms.length)) := by
  exact LoopT.fin (hs := hint [((16,4), { sym := true, val := some (i64 Q) }), ((16,5), {val := some (i64 ((4 : Int) + (↑Q : Int)))}), ((16,8), {val := some (i64 ((4 : Int) + (↑Q : Int) + (↑ms.length : Int)))}), ((16,9), {val := some (bl (false))})]) (f := { ks := [0, 2, 7, 10, 11, 13], l := [0] }) (ps := [decide (m ≠ (0 : Int)) = true, i64 (IntKind.i64.wrap ((↑ns.length : Int).tdiv m)) = i64 ((↑Q : Int)), i64 (IntKind.i64.wrap ((4 : Int) + (↑Q : Int))) = i64 ((4 : Int) + (↑Q : Int)), i64 (IntKind.i64.wrap ((4 : Int) + (↑Q : Int) + (↑ms.length : Int))) = i64 ((4 : Int) + (↑Q : Int) + (↑ms.length : Int)), bl (decide ((↑((4 : Nat) + Q + ms.length) : Int) < (4 : Int) + (↑Q : Int) + (↑ms.length : Int))) = bl (false), true = true, true = true]) (by kernel_rfl) ⟨(by (first | exact decide_t (by omega) | exact intE (by rw [hQ]; exact wrap_i64 (by omega) (by omega)))), (by (first | exact decide_t (by omega) | exact intE (by rw [hQ]; exact wrap_i64 (by omega) (by omega)))), (intE (by exact wrap_i64 (by omega) (by omega))), (intE (by exact wrap_i64 (by omega) (by omega))), (bdF (by omega)), rfl, rfl, trivial⟩ (by decide)
theorem top_long (ns : List Int) (q : Int) (ms : List Mw) (h : ns.length > 2000 ∨ ms.length > 60) : Pu 3 [slU ns, u8 q, slM ms] (bl true) := by
  have a := aw_ok
  by_cases h1 : ns.length > 2000
  · exact pure_of (hs := hint [((1,0), {call := some ((bl true))}), ((3,3), {val := some (bl (true))})]) (ps := [_, bl (decide ((↑ns.length : Int) > (2000 : Int))) = bl (true)]) (by kernel_rfl) ⟨(a), (bdT (by omega)), trivial⟩
  · exact pure_of (hs := hint [((1,0), {call := some ((bl true))}), ((3,3), {val := some (bl (false))}), ((3,7), {val := some (bl (true))})]) (ps := [_, bl (decide ((↑ns.length : Int) > (2000 : Int))) = bl (false), bl (decide ((↑ms.length : Int) > (60 : Int))) = bl (true)]) (by kernel_rfl) ⟨(a), (bdF (by omega)), (bdT (by omega)), trivial⟩
def hoT (ns : List Int) (a : AV) (m : Int) (ms : List Mw) (s : Hs) (i : Nat) : St := ⟨mkT 163 [(0, slU ns), (2, slM ms), (7, a), (10, i64 m), (11, .ptr 0 0), (13, i64 i)], [.arr 11 (hsL s) 0]⟩
theorem top_go (ns : List Int) (q : Int) (q0 : 0 ≤ q) (q1 : q ≤ 255) (ms : List Mw) (h1 : ¬ ns.length > 2000) (h2 : ¬ ms.length > 60) (n : Nat) (l : List Prp) (t : Tab) (g : Give) (tk : Take) (dd : Bool) (hl : tk.data.length ≤ 2000)
    (L1 : LoopT C0 nuB (nuS ns q ms 0 0 []) (.exit 0) (nuS ns q ms ns.length ns.length ns))
    (b : Pu 6 [AV.sl ns.length (List.take (ns.length * 1) (List.drop 0 (ns.flatMap eI))), i64 (q + 1 + (ns.length : Int) / 100)] (.tup [A (hsL ⟨[], tb2, ⟨ns, q + 1 + (ns.length : Int) / 100, 0, true⟩, ⟨[], 0, 0⟩, false⟩), bl true]))
    (L2 : LoopT C0 hoB (hoT ns (AV.sl ns.length (List.take (ns.length * 1) (List.drop 0 (ns.flatMap eI)))) (q + 1 + (ns.length : Int) / 100) ms ⟨[], tb2, ⟨ns, q + 1 + (ns.length : Int) / 100, 0, true⟩, ⟨[], 0, 0⟩, false⟩ 0) (.exit 2) (hoT ns (AV.sl ns.length (List.take (ns.length * 1) (List.drop 0 (ns.flatMap eI)))) (q + 1 + (ns.length : Int) / 100) ms ⟨l, t, g, tk, dd⟩ n))
    (h : tk.state = 2 ∨ (dd = true ∧ tk.state = 3)) : Pu 3 [slU ns, u8 q, slM ms] (bl true) := by
  have a := aw_ok
  have y := data_ok tk (by omega)
  rcases h with h | ⟨rfl, h⟩
  · exact pure_of (hs := hint [((1,0), {call := some ((bl true))}), ((3,3), {val := some (bl (false))}), ((3,7), {val := some (bl (false))}), ((7,1000), {loop := some ({ ks := [0, 1, 2, 30, 31, 32], gh := [(7, 1)] }, nuS ns q ms (0 : Nat) (0 : Nat) [], Ex.exit (0 : Nat), nuS ns q ms ns.length ns.length ns)}), ((11,2000), { frz := [0] }), ((11,1), {val := some (i64 (q))}), ((11,2), {val := some (i64 (q + (1 : Int)))}), ((11,5), {val := some (i64 ((↑ns.length : Int) / (100 : Int)))}), ((11,6), {val := some (i64 (q + (1 : Int) + (↑ns.length : Int) / (100 : Int)))}), ((12,2), {call := some (AV.tup [(A (hsL { l := [], t := tb2, g := { data := ns, most := q + (1 : Int) + (↑ns.length : Int) / (100 : Int), at_ := (0 : Int), live := true : Give }, k := { data := [], total := (0 : Int), state := (0 : Int) : Take }, dead := false : Hs })), (bl true)])}), ((16,1000), {loop := some ({ ks := [0, 2, 7, 10, 11, 13], l := [1] }, hoT ns (AV.sl ns.length (List.take (ns.length * (1 : Nat)) (List.drop (0 : Nat) (List.flatMap eI ns)))) (q + (1 : Int) + (↑ns.length : Int) / (100 : Int)) ms { l := [], t := tb2, g := { data := ns, most := q + (1 : Int) + (↑ns.length : Int) / (100 : Int), at_ := (0 : Int), live := true : Give }, k := { data := [], total := (0 : Int), state := (0 : Int) : Take }, dead := false : Hs } (0 : Nat), Ex.exit (2 : Nat), hoT ns (AV.sl ns.length (List.take (ns.length * (1 : Nat)) (List.drop (0 : Nat) (List.flatMap eI ns)))) (q + (1 : Int) + (↑ns.length : Int) / (100 : Int)) ms { l := l, t := t, g := g, k := tk, dead := dd : Hs } n)}), ((32,2), {call := some (AV.tup [(slI tk.data), (i64 tk.state)])}), ((33,2), {val := some (bl (true))})]) (ps := [_, bl (decide ((↑ns.length : Int) > (2000 : Int))) = bl (false), bl (decide ((↑ms.length : Int) > (60 : Int))) = bl (false), nuS ns q ms (0 : Nat) (0 : Nat) [] = nuS ns q ms (0 : Nat) (0 : Nat) [], _, true = true, pureB (Bk.arr (ns.length * (1 : Nat)) (List.flatMap eI ns) (0 : Fz)) = true, i64 (IntKind.i64.wrap q) = i64 (q), i64 (IntKind.i64.wrap (q + (1 : Int))) = i64 (q + (1 : Int)), i64 (IntKind.i64.wrap ((↑ns.length : Int).tdiv (100 : Int))) = i64 ((↑ns.length : Int) / (100 : Int)), i64 (IntKind.i64.wrap (q + (1 : Int) + (↑ns.length : Int) / (100 : Int))) = i64 (q + (1 : Int) + (↑ns.length : Int) / (100 : Int)), _, hoT ns (AV.sl ns.length (List.take (ns.length * (1 : Nat)) (List.drop (0 : Nat) (List.flatMap eI ns)))) (q + (1 : Int) + (↑ns.length : Int) / (100 : Int)) ms { l := [], t := tb2, g := { data := ns, most := q + (1 : Int) + (↑ns.length : Int) / (100 : Int), at_ := (0 : Int), live := true : Give }, k := { data := [], total := (0 : Int), state := (0 : Int) : Take }, dead := false : Hs } (0 : Nat) = hoT ns (AV.sl ns.length (List.take (ns.length * (1 : Nat)) (List.drop (0 : Nat) (List.flatMap eI ns)))) (q + (1 : Int) + (↑ns.length : Int) / (100 : Int)) ms { l := [], t := tb2, g := { data := ns, most := q + (1 : Int) + (↑ns.length : Int) / (100 : Int), at_ := (0 : Int), live := true : Give }, k := { data := [], total := (0 : Int), state := (0 : Int) : Take }, dead := false : Hs } (0 : Nat), _, true = true, true = true, _, bl (tk.state == (2 : Int)) = bl (true)]) (by kernel_rfl) ⟨(a), (bdF (by omega)), (bdF (by omega)), rfl, L1, rfl, (by exact row_pureB (fun _ => rfl) _ _ _), (intE (by exact wrap_i64 (by omega) (by omega))), (intE (by exact wrap_i64 (by omega) (by omega))), (intE (wrapE (Int.tdiv_eq_ediv_of_nonneg (by omega)) (by exact wrap_i64 (by omega) (by omega)))), (intE (by exact wrap_i64 (by omega) (by omega))), (b), rfl, L2, rfl, rfl, (y), (beT (by assumption)), trivial⟩
  · exact pure_cast (pure_of (hs := hint [((1,0), {call := some ((bl true))}), ((3,3), {val := some (bl (false))}), ((3,7), {val := some (bl (false))}), ((7,1000), {loop := some ({ ks := [0, 1, 2, 30, 31, 32], gh := [(7, 1)] }, nuS ns q ms (0 : Nat) (0 : Nat) [], Ex.exit (0 : Nat), nuS ns q ms ns.length ns.length ns)}), ((11,2000), { frz := [0] }), ((11,1), {val := some (i64 (q))}), ((11,2), {val := some (i64 (q + (1 : Int)))}), ((11,5), {val := some (i64 ((↑ns.length : Int) / (100 : Int)))}), ((11,6), {val := some (i64 (q + (1 : Int) + (↑ns.length : Int) / (100 : Int)))}), ((12,2), {call := some (AV.tup [(A (hsL { l := [], t := tb2, g := { data := ns, most := q + (1 : Int) + (↑ns.length : Int) / (100 : Int), at_ := (0 : Int), live := true : Give }, k := { data := [], total := (0 : Int), state := (0 : Int) : Take }, dead := false : Hs })), (bl true)])}), ((16,1000), {loop := some ({ ks := [0, 2, 7, 10, 11, 13], l := [1] }, hoT ns (AV.sl ns.length (List.take (ns.length * (1 : Nat)) (List.drop (0 : Nat) (List.flatMap eI ns)))) (q + (1 : Int) + (↑ns.length : Int) / (100 : Int)) ms { l := [], t := tb2, g := { data := ns, most := q + (1 : Int) + (↑ns.length : Int) / (100 : Int), at_ := (0 : Int), live := true : Give }, k := { data := [], total := (0 : Int), state := (0 : Int) : Take }, dead := false : Hs } (0 : Nat), Ex.exit (2 : Nat), hoT ns (AV.sl ns.length (List.take (ns.length * (1 : Nat)) (List.drop (0 : Nat) (List.flatMap eI ns)))) (q + (1 : Int) + (↑ns.length : Int) / (100 : Int)) ms { l := l, t := t, g := g, k := tk, dead := true : Hs } n)}), ((32,2), {call := some (AV.tup [(slI tk.data), (i64 tk.state)])}), ((33,2), {val := some (bl (false))})]) (r := bl (tk.state == (3 : Int))) (ps := [_, bl (decide ((↑ns.length : Int) > (2000 : Int))) = bl (false), bl (decide ((↑ms.length : Int) > (60 : Int))) = bl (false), nuS ns q ms (0 : Nat) (0 : Nat) [] = nuS ns q ms (0 : Nat) (0 : Nat) [], _, true = true, pureB (Bk.arr (ns.length * (1 : Nat)) (List.flatMap eI ns) (0 : Fz)) = true, i64 (IntKind.i64.wrap q) = i64 (q), i64 (IntKind.i64.wrap (q + (1 : Int))) = i64 (q + (1 : Int)), i64 (IntKind.i64.wrap ((↑ns.length : Int).tdiv (100 : Int))) = i64 ((↑ns.length : Int) / (100 : Int)), i64 (IntKind.i64.wrap (q + (1 : Int) + (↑ns.length : Int) / (100 : Int))) = i64 (q + (1 : Int) + (↑ns.length : Int) / (100 : Int)), _, hoT ns (AV.sl ns.length (List.take (ns.length * (1 : Nat)) (List.drop (0 : Nat) (List.flatMap eI ns)))) (q + (1 : Int) + (↑ns.length : Int) / (100 : Int)) ms { l := [], t := tb2, g := { data := ns, most := q + (1 : Int) + (↑ns.length : Int) / (100 : Int), at_ := (0 : Int), live := true : Give }, k := { data := [], total := (0 : Int), state := (0 : Int) : Take }, dead := false : Hs } (0 : Nat) = hoT ns (AV.sl ns.length (List.take (ns.length * (1 : Nat)) (List.drop (0 : Nat) (List.flatMap eI ns)))) (q + (1 : Int) + (↑ns.length : Int) / (100 : Int)) ms { l := [], t := tb2, g := { data := ns, most := q + (1 : Int) + (↑ns.length : Int) / (100 : Int), at_ := (0 : Int), live := true : Give }, k := { data := [], total := (0 : Int), state := (0 : Int) : Take }, dead := false : Hs } (0 : Nat), _, true = true, true = true, _, bl (tk.state == (2 : Int)) = bl (false)]) (by kernel_rfl) ⟨(a), (bdF (by omega)), (bdF (by omega)), rfl, L1, rfl, (by exact row_pureB (fun _ => rfl) _ _ _), (intE (by exact wrap_i64 (by omega) (by omega))), (intE (by exact wrap_i64 (by omega) (by omega))), (intE (wrapE (Int.tdiv_eq_ediv_of_nonneg (by omega)) (by exact wrap_i64 (by omega) (by omega)))), (intE (by exact wrap_i64 (by omega) (by omega))), (b), rfl, L2, rfl, rfl, (y), (beF (by omega)), trivial⟩) (by (simp; omega))
theorem top_good (ns : List Int) (hn : ∀ n ∈ ns, 0 ≤ n ∧ n ≤ 4294967295) (q : Int) (q0 : 0 ≤ q) (q1 : q ≤ 255) (ms : List Mw) (hM : ∀ w ∈ ms, MOk w) (h1 : ¬ ns.length > 2000) (h2 : ¬ ms.length > 60) : Pu 3 [slU ns, u8 q, slM ms] (bl true) := by
  have L1 := nu_all ns hn q ms (by omega)
  obtain ⟨m, hm⟩ : ∃ m : Nat, (m : Int) = q + 1 + ns.length / 100 := ⟨(q + 1 + ns.length / 100).toNat, by omega⟩
  obtain ⟨Q, hQ⟩ : ∃ Q : Nat, Q = ns.length / m := ⟨_, rfl⟩
  have hQ1 : (ns.length : Int).tdiv (m : Int) = Q := by rw [hQ, Int.tdiv_eq_ediv_of_nonneg (by omega)]; omega
  have m0 : 1 ≤ m := by omega
  have m1 : m ≤ 1000 := by omega
  have hQ2 : Q ≤ 400 := by
    rw [hQ]
    have : ns.length < 400 * m + m := by omega
    exact Nat.le_of_lt_succ ((Nat.div_lt_iff_lt_mul (by omega)).2 (by rw [Nat.succ_mul]; exact this))
  have b := bg_ok ns m (by omega) (by omega) (by omega) (nums_of hn)
  obtain ⟨f, f0, f1, f2⟩ := rounds (Ok ns m) (fun i s s' => Tri C0 hoB (hoS ns ns m ms s i) .normal (hoS ns ns m ms s' (i + 1))) (4 + Q + ms.length) (fun i hi s h => round_ok ns ns hn m ms Q (by omega) (by omega) (by omega) m0 m1 hQ1 hQ2 hM i hi s h) (4 + Q + ms.length) (Nat.le_refl _) ⟨[], tb2, gvAt ns m 0, takeAt ns m 0, false⟩ (by
    rw [Nat.sub_self]
    exact ⟨none, none, true, tb2, _, _, false, rfl, by simp [tiN], tok2, by simp [tb2], .inl ⟨rfl, rfl, by rw [Nat.zero_min], by rw [Nat.zero_min], rfl⟩⟩)
  rw [Nat.sub_self] at f0 f1
  have L2 := LoopT.count (fun i => hoS ns ns m ms (f i) i) (4 + Q + ms.length) (fun i hi => f1 i (by omega) hi) (ho_end ns ns m ms (f (4 + Q + ms.length)) Q (by omega) (by omega) (by omega) (by omega) hQ1 (by omega)) 0 (by omega)
  simp only [f0] at L2
  generalize f (4 + Q + ms.length) = s at L2 f2
  obtain ⟨ti, tr, ff, t, g, tk, dd, rfl, _, _, _, h4⟩ := f2
  have hN : (allD ns m).length ≤ 4 + Q + ms.length := by
    rw [all_len]
    split
    · omega
    · have : cntD ns m ≤ Q + 1 := by
        unfold cntD
        rw [hQ]
        refine Nat.le_trans (Nat.div_le_div_right (c := m) (show ns.length + m - 1 ≤ ns.length + m by omega)) ?_
        rw [Nat.add_div_right _ (by omega)]; exact Nat.le_refl _
      omega
  have te := take_end ns m m0
  have hl := take_len ns m (allD ns m).length
  rw [show min (4 + Q + ms.length) (allD ns m).length = (allD ns m).length by omega] at h4
  have e0 : takeAt ns m 0 = ⟨[], 0, 0⟩ := rfl
  rw [e0] at L2
  have hd : ns.length ≤ 2000 := by omega
  have hR : AV.sl ns.length (List.take (ns.length * 1) (List.drop 0 (ns.flatMap eI))) = slI ns := is_sl ns _ _ rfl (by omega)
  have hdl : tk.data.length ≤ 2000 := by
    rcases h4 with ⟨_, _, _, rfl, _⟩ | ⟨_, _, _, rfl⟩ | ⟨_, rfl⟩
    · omega
    · omega
    · simp
  have hst : tk.state = 2 ∨ (dd = true ∧ tk.state = 3) := by
    rcases h4 with ⟨_, _, _, rfl, _⟩ | ⟨_, _, _, rfl⟩ | ⟨rfl, rfl⟩
    · exact .inl te.2
    · exact .inl te.2
    · exact .inr ⟨rfl, rfl⟩
  refine top_go ns q q0 q1 ms h1 h2 (4 + Q + ms.length) (mkL ti tr ff) t g tk dd hdl L1 ?_ ?_ hst
  · rw [hR, ← hm]; exact b
  · rw [hR, ← hm]; exact L2
theorem top_ok (ns : List Int) (hn : ∀ n ∈ ns, 0 ≤ n ∧ n ≤ 4294967295) (q : Int) (q0 : 0 ≤ q) (q1 : q ≤ 255) (ms : List Mw) (hM : ∀ w ∈ ms, MOk w) : Pu 3 [slU ns, u8 q, slM ms] (bl true) := by
  by_cases h : ns.length > 2000 ∨ ms.length > 60
  · exact top_long ns q ms h
  · exact top_good ns hn q q0 q1 ms hM (by omega) (by omega)
end Go.Proofs.Ytdcoomeagbjhlaa
