/- The line: the other loops, by the program. By the prover of this seat. -/
import Derived.Test.YtdcoomeagbjhlaaDoorEx
set_option linter.unusedVariables false
set_option linter.unusedSimpArgs false
set_option maxRecDepth 100000
set_option maxHeartbeats 4000000
namespace Go.Proofs.YtdcoomeagbjhlaaDoor.Lk
open Go.RowKit Go.Pm
open Go.Proofs.YtdcoomeagbjhlaaDoor.Or (G1 C1 Pu)
open Go.Proofs.YtdcoomeagbjhlaaDoor.Ca (eS slS cacheA outP)
noncomputable def ckB : Code := loopOf Tryd.prog 3 4
def ckS (l : List ByteArray) (ps : List Int) (q1 q2 : Int) (k : Nat) : St := ⟨mkT 380 [(0, slS l), (1, u8 q1), (2, u8 q2), (3, slB ps), (37, slS l), (38, i64 (l.length : Nat)), (39, i64 (k : Nat))], []⟩
theorem ck_step (l : List ByteArray) (ps : List Int) (q1 q2 : Int) (k : Nat) (hk : k < l.length) (hl : l.length ≤ 12) (h : ¬ (nth l k).size > 200) : Tri C1 ckB (ckS l ps q1 q2 k) .normal (ckS l ps q1 q2 (k + 1)) := by
  exact runF_ok (hs := hint [((4,0), {val := some (bl (true))}), ((5,0), {cells := some (eS (nth l k) ++ List.flatMap eS (List.drop (k + (1 : Nat)) l)), sym := true}), ((6,2), {val := some (bl (false))}), ((8,0), {val := some (i64 ((↑k : Int) + (1 : Int)))})]) (f := { ks := [0, 1, 2, 3, 37, 38, 39] }) (ps := [bl (decide ((↑k : Int) < (↑l.length : Int))) = bl (true), decide ((0 : Int) ≤ (↑k : Int) ∧ (↑k : Int) < (↑l.length : Int)) = true, ((List.drop ((↑k : Int).toNat * (1 : Nat)) (List.flatMap eS l)) : List AV) = (eS (nth l k) ++ List.flatMap eS (List.drop (k + (1 : Nat)) l)), bl (decide ((↑(nth l k).size : Int) > (200 : Int))) = bl (false), i64 (IntKind.i64.wrap ((↑k : Int) + (1 : Int))) = i64 ((↑k : Int) + (1 : Int)), true = true]) (by kernel_rfl) ⟨(bdT (by omega)), (by exact decide_t (by omega)), (by exact flat_nth (sz := 1) (k := k) (fun _ => rfl) (by omega)), (bdF (by omega)), (intE (by exact wrap_i64 (by omega) (by omega))), rfl, trivial⟩
theorem ck_stop (l : List ByteArray) (ps : List Int) (q1 q2 : Int) (k : Nat) (hk : k < l.length) (hl : l.length ≤ 12) (h : (nth l k).size > 200) : LoopT C1 ckB (ckS l ps q1 q2 k) .ret ⟨mkT 380 [(8, bl true)], []⟩ := by
  exact LoopT.fin (hs := hint [((4,0), {val := some (bl (true))}), ((5,0), {cells := some (eS (nth l k) ++ List.flatMap eS (List.drop (k + (1 : Nat)) l)), sym := true}), ((6,2), {val := some (bl (true))})]) (f := { ks := [8] }) (ps := [bl (decide ((↑k : Int) < (↑l.length : Int))) = bl (true), decide ((0 : Int) ≤ (↑k : Int) ∧ (↑k : Int) < (↑l.length : Int)) = true, ((List.drop ((↑k : Int).toNat * (1 : Nat)) (List.flatMap eS l)) : List AV) = (eS (nth l k) ++ List.flatMap eS (List.drop (k + (1 : Nat)) l)), bl (decide ((↑(nth l k).size : Int) > (200 : Int))) = bl (true), true = true]) (by kernel_rfl) ⟨(bdT (by omega)), (by exact decide_t (by omega)), (by exact flat_nth (sz := 1) (k := k) (fun _ => rfl) (by omega)), (bdT (by omega)), rfl, trivial⟩ (by decide)
theorem ck_end (l : List ByteArray) (ps : List Int) (q1 q2 : Int) : LoopT C1 ckB (ckS l ps q1 q2 l.length) (.exit 0) (ckS l ps q1 q2 l.length) := by
  exact LoopT.fin (hs := hint [((4,0), {val := some (bl (false))})]) (f := { ks := [0, 1, 2, 3, 37, 38, 39] }) (ps := [bl (decide ((↑l.length : Int) < (↑l.length : Int))) = bl (false), true = true]) (by kernel_rfl) ⟨(bdF (by omega)), rfl, trivial⟩ (by decide)
noncomputable def seB : Code := loopOf Tryd.prog 3 62
def seS (l : List ByteArray) (sent : Nat) (a b : Le) (nm : Nat) (mk : List Int) : St := ⟨mkT 380 [(0, slS l), (11, .ptr 0 0), (12, .ptr 1 0), (17, .osl 2 0 nm 1), (18, i64 (sent : Nat))], [.arr 27 (leC a) 0, .arr 27 (leC b) 0, .arr (nm * 1) (mk.flatMap eQ) 0]⟩
theorem se_step (l : List ByteArray) (sent : Nat) (a b a' : Le) (nm : Nat) (mk : List Int) (M' : Int) (hs : sent < l.length) (hl : l.length ≤ 12) (hnm : nm = mk.length) (hnm2 : nm = sent + 1) (hSd : Pu 7 [leA a, st (nth l sent)] (.tup [leA a', bl true])) (hMs : Pu 6 [cacheA a'.m a'.kl] (u64v M')) : Tri C1 seB (seS l sent a b nm mk) .normal (seS l (sent + 1) a' b (nm + 1) (mk ++ [M'])) := by
  exact runF_ok (hs := hint [((62,3), {val := some (bl (true))}), ((64,3), {cells := some (eS (nth l sent) ++ List.flatMap eS (List.drop (sent + (1 : Nat)) l)), sym := true}), ((64,5), {call := some (AV.tup [(leA a'), (bl true)])}), ((67,3), {call := some ((u64v M'))}), ((67,5), { sym := true, cells := some ((mk ++ [M']).flatMap eQ) }), ((63,1), { val := some (i64 (sent + 1 : Nat)) })]) (f := { ks := [0, 11, 12, 17, 18], l := [0, 1, 4] }) (ps := [bl (decide ((↑sent : Int) < (↑l.length : Int))) = bl (true), decide ((0 : Int) ≤ (↑sent : Int) ∧ (↑sent : Int) < (↑l.length : Int)) = true, ((List.drop ((↑sent : Int).toNat * (1 : Nat)) (List.flatMap eS l)) : List AV) = (eS (nth l sent) ++ List.flatMap eS (List.drop (sent + (1 : Nat)) l)), _, _, decide (nm * (1 : Nat) = nm * (1 : Nat) + (0 : Nat) ∧ (0 : Nat) ≤ nm * (1 : Nat) ∧ nm * (1 : Nat) = (List.flatMap eQ mk).length) = true, decide ((nm + (1 : Nat)) * (8 : Nat) ≤ (140737488355328 : Nat)) = true, true = true, ((List.drop (0 : Nat) (List.flatMap eQ mk) ++ [AV.s (Value.int IntKind.u64 M')]) : List AV) = (List.flatMap eQ (mk ++ [M'])), i64 (IntKind.i64.wrap ((↑sent : Int) + (1 : Int))) = i64 ((↑(sent + (1 : Nat)) : Int)), true = true, true = true, true = true, pureB (Bk.arr ((nm + (1 : Nat)) * (1 : Nat)) (List.flatMap eQ (mk ++ [M'])) (0 : Fz)) = true]) (by kernel_rfl) ⟨(bdT (by omega)), (by exact decide_t (by omega)), (by exact flat_nth (sz := 1) (k := sent) (fun _ => rfl) (by omega)), (hSd), (hMs), (by (first | exact (row_snoc mk M').symm | exact decide_t (by omega) | exact decide_t ⟨by omega, by omega, eq_len _ _ hnm⟩)), (by (first | exact (row_snoc mk M').symm | exact decide_t (by omega) | exact decide_t ⟨by omega, by omega, eq_len _ _ hnm⟩)), rfl, (by (first | exact (row_snoc mk M').symm | exact decide_t (by omega) | exact decide_t ⟨by omega, by omega, eq_len _ _ hnm⟩)), (by exact intE (by rw [wrap_i64 (by omega) (by omega)]; omega)), rfl, rfl, rfl, (by exact row_pureB (fun _ => rfl) _ _ _), trivial⟩
theorem se_end (l : List ByteArray) (sent : Nat) (a b : Le) (nm : Nat) (mk : List Int) (hs : ¬ sent < l.length) : LoopT C1 seB (seS l sent a b nm mk) (.exit 5) (seS l sent a b nm mk) := by
  exact LoopT.fin (hs := hint [((62,3), {val := some (bl (false))})]) (f := { ks := [0, 11, 12, 17, 18], l := [0, 1, 2] }) (ps := [bl (decide ((↑sent : Int) < (↑l.length : Int))) = bl (false), true = true, true = true, true = true, pureB (Bk.arr (nm * (1 : Nat)) (List.flatMap eQ mk) (0 : Fz)) = true]) (by kernel_rfl) ⟨(bdF (by omega)), rfl, rfl, rfl, (by exact row_pureB (fun _ => rfl) _ _ _), trivial⟩ (by decide)
noncomputable def caB : Code := loopOf Tryd.prog 3 70
def caS (l : List ByteArray) (a b : Le) (k : Nat) : St := ⟨mkT 380 [(0, slS l), (11, .ptr 0 0), (12, .ptr 1 0), (288, i64 (k : Nat))], [.arr 27 (leC a) 0, .arr 27 (leC b) 0]⟩
theorem ca_step (l : List ByteArray) (a b b2 : Le) (A1 A2 B1 B2 : En) (d1 d2 : List ByteArray) (k : Nat) (hk : k < 200) (hD1 : Pu 8 [enA a.ln] (.tup [enA A1, slS d1])) (hO1 : Pu 9 [enA b.ln, slS d1] (.tup [enA B1, bl true])) (hD2 : Pu 8 [enA B1] (.tup [enA B2, slS d2])) (hO2 : Pu 9 [enA A1, slS d2] (.tup [enA A2, bl true])) (hRd : Pu 12 [leA { b with ln := B2 }] (.tup [leA b2, bl true])) : Tri C1 caB (caS l a b k) .normal (caS l { a with ln := A2 } b2 (k + 1)) := by
  exact runF_ok (hs := hint [((70,0), {val := some (bl (true))}), ((72,2), {call := some (AV.tup [(enA A1), (slS d1)])}), ((73,3), {call := some (AV.tup [(enA B1), (bl true)])}), ((76,2), {call := some (AV.tup [(enA B2), (slS d2)])}), ((77,3), {call := some (AV.tup [(enA A2), (bl true)])}), ((80,1), {call := some (AV.tup [(leA b2), (bl true)])}), ((83,0), {val := some (i64 ((↑k : Int) + (1 : Int)))})]) (f := { ks := [0, 11, 12, 288], l := [0, 1] }) (ps := [bl (decide ((↑k : Int) < (200 : Int))) = bl (true), _, _, _, _, _, i64 (IntKind.i64.wrap ((↑k : Int) + (1 : Int))) = i64 ((↑k : Int) + (1 : Int)), true = true, true = true, true = true]) (by kernel_rfl) ⟨(bdT (by omega)), (hD1), (hO1), (hD2), (hO2), (hRd), (intE (by exact wrap_i64 (by omega) (by omega))), rfl, rfl, rfl, trivial⟩
theorem ca_end (l : List ByteArray) (a b : Le) : LoopT C1 caB (caS l a b 200) (.exit 7) (caS l a b 200) := by
  exact LoopT.fin (hs := hint []) (f := { ks := [0, 11, 12, 288], l := [0, 1] }) (ps := [true = true, true = true, true = true]) (by kernel_rfl) ⟨rfl, rfl, rfl, trivial⟩ (by decide)
theorem top_long (l : List ByteArray) (ps : List Int) (q1 q2 : Int) (h : l.length > 12 ∨ ps.length > 200) : Pu 3 [slS l, u8 q1, u8 q2, slB ps] (bl true) := by
  rcases h with h | h
  · exact pure_of (hs := hint [((1,3), {val := some (bl (true))})]) (ps := [bl (decide ((↑l.length : Int) > (12 : Int))) = bl (true)]) (by kernel_rfl) ⟨(bdT (by omega)), trivial⟩
  · by_cases h1 : (↑l.length : Int) > (12 : Int)
    · exact pure_of (hs := hint [((1,3), {val := some (bl (true))})]) (ps := [bl (decide ((↑l.length : Int) > (12 : Int))) = bl (true)]) (by kernel_rfl) ⟨(bdT h1), trivial⟩
    · exact pure_of (hs := hint [((1,3), {val := some (bl (false))}), ((1,7), {val := some (bl (true))})]) (ps := [bl (decide ((↑l.length : Int) > (12 : Int))) = bl (false), bl (decide ((↑ps.length : Int) > (200 : Int))) = bl (true)]) (by kernel_rfl) ⟨(bdF h1), (bdT (by omega)), trivial⟩
theorem top_stop (l : List ByteArray) (ps : List Int) (q1 q2 : Int) (h1 : ¬ l.length > 12) (h2 : ¬ ps.length > 200) (L1 : LoopT C1 ckB (ckS l ps q1 q2 0) .ret ⟨mkT 380 [(8, bl true)], []⟩) : Pu 3 [slS l, u8 q1, u8 q2, slB ps] (bl true) := by
  exact pure_of (hs := hint [((1,3), {val := some (bl (false))}), ((1,7), {val := some (bl (false))}), ((4,1000), {loop := some ({ ks := [0, 1, 2, 3, 37, 38, 39] }, ckS l ps q1 q2 (0 : Nat), Ex.ret, { t := mkT (380 : Nat) [((8 : Nat), bl true)], h := [] : St })})]) (ps := [bl (decide ((↑l.length : Int) > (12 : Int))) = bl (false), bl (decide ((↑ps.length : Int) > (200 : Int))) = bl (false), ckS l ps q1 q2 (0 : Nat) = ckS l ps q1 q2 (0 : Nat), _, true = true]) (by kernel_rfl) ⟨(bdF (by omega)), (bdF (by omega)), rfl, L1, rfl, trivial⟩
def w0 : Rw := ⟨0, 0, 0, 0, []⟩
theorem top_go (l : List ByteArray) (ps : List Int) (q1 q2 : Int) (h1 : ¬ l.length > 12) (h2 : ¬ ps.length > 200) (m most : Nat) (hm : 1 + q1.tmod 5 = m) (hm2 : 1 ≤ m ∧ m ≤ 5) (hmo : 1 + q2.tmod 9 = most) (hmo2 : 1 ≤ most ∧ most ≤ 9) (L1 : LoopT C1 ckB (ckS l ps q1 q2 0) (.exit 0) (ckS l ps q1 q2 l.length))
    (hN : Pu 4 [i64 (m : Nat)] (.tup [cacheA m [], i64 0])) (hE : Pu 5 [i64 (most : Nat)] (.tup [enA { en0 with most := most }, i64 0])) (M0 : Int) (hM0 : Pu 6 [cacheA m []] (u64v M0))
    (a b a' b' a2 b2 : Le) (A' : En) (sent sent' nm nm' : Nat) (mk mk' : List Int) (w v : Rw) (th bk : List ByteArray) (hw : w.Ok th) (hv : v.Ok bk)
    (L2 : LoopT C1 tpB (tpS l ps 0 0 ⟨m, [], { en0 with most := most }, e0, []⟩ ⟨m, [], { en0 with most := most }, e0, []⟩ 1 [M0] w0 w0) (.exit 2) (tpS l ps ps.length sent a b nm mk w v))
    (L5 : LoopT C1 seB (seS l sent a b nm mk) (.exit 5) (seS l sent' a' b nm' mk'))
    (hT : Pu 11 [enA a'.ln] (enA A'))
    (L7 : LoopT C1 caB (caS l { a' with ln := A' } b 0) (.exit 7) (caS l a2 b2 200))
    (hg : b2.got.length = l.length) (hB : Pu 13 [slS b2.got, slS l] (bl true)) (hr : b2.rest = ⟨#[]⟩) (M : Int) (hMa : Pu 6 [cacheA a2.m a2.kl] (u64v M)) (hMb : Pu 6 [cacheA b2.m b2.kl] (u64v M)) (n : Int) (hLa : Pu 14 [cacheA a2.m a2.kl] (i64 n)) (hLb : Pu 14 [cacheA b2.m b2.kl] (i64 n)) (hQa : Pu 15 [enA a2.ln] (bl true)) (hQb : Pu 15 [enA b2.ln] (bl true)) (hAw : Pu 16 [] (bl true)) : Pu 3 [slS l, u8 q1, u8 q2, slB ps] (bl true) := by
  exact pure_of (hs := hint [((1,3), {val := some (bl (false))}), ((1,7), {val := some (bl (false))}), ((4,1000), {loop := some ({ ks := [0, 1, 2, 3, 37, 38, 39] }, ckS l ps q1 q2 (0 : Nat), Ex.exit (0 : Nat), ckS l ps q1 q2 l.length)}), ((10,2), {val := some (i64 (q1.tmod (5 : Int)))}), ((10,3), { val := some (i64 (m : Nat)) }), ((10,4), {call := some (AV.tup [(cacheA (↑m : Int) []), (i64 (0 : Int))])}), ((11,2), {val := some (i64 (q2.tmod (9 : Int)))}), ((11,3), { val := some (i64 (most : Nat)) }), ((11,4), {call := some (AV.tup [(enA
    (let __src := en0;
    { most := most, way := __src.way, next := __src.next, rest := __src.rest, exp := __src.exp, asd := __src.asd, read := __src.read, ack := __src.ack : En })), (i64 (0 : Int))])}), ((15,1), {call := some ((u64v M0))}), ((19,1000), {loop := some ({ ks := [0, 11, 12, 17, 18, 78, 79, 80], l := [0, 1, 4], mx := [0, 1], gh := [(20, 1), (21, 1)] }, tpS l ps (0 : Nat) (0 : Nat)
    { m := m, kl := [],
      ln :=
        let __src := en0;
        { most := most, way := __src.way, next := __src.next, rest := __src.rest, exp := __src.exp, asd := __src.asd, read := __src.read, ack := __src.ack : En },
      rest := e0, got := [] : Le }
    { m := m, kl := [],
      ln :=
        let __src := en0;
        { most := most, way := __src.way, next := __src.next, rest := __src.rest, exp := __src.exp, asd := __src.asd, read := __src.read, ack := __src.ack : En },
      rest := e0, got := [] : Le }
    (1 : Nat) [M0] w0 w0, Ex.exit (2 : Nat), tpS l ps ps.length sent a b nm mk w v)}), ((62,1000), {loop := some ({ ks := [0, 11, 12, 17, 18], l := [0, 1, 2] }, seS l sent a b nm mk, Ex.exit (5 : Nat), seS l sent' a' b nm' mk')}), ((68,2), {call := some ((enA A'))}), ((70,1000), {loop := some ({ ks := [0, 11, 12, 288], l := [0, 1] }, caS l { m := a'.m, kl := a'.kl, ln := A', rest := a'.rest, got := a'.got : Le } b (0 : Nat), Ex.exit (7 : Nat), caS l a2 b2 (200 : Nat))}), ((84,6), {val := some (bl (true))}), ((84,10), {call := some ((bl true))}), ((84,17), {val := some (bl (true))}), ((84,20), {call := some ((u64v M))}), ((84,23), {call := some ((u64v M))}), ((84,26), {val := some (bl (true))}), ((84,29), {call := some ((i64 n))}), ((84,32), {call := some ((i64 n))}), ((84,35), {val := some (bl (true))}), ((84,38), {call := some ((bl true))}), ((84,43), {call := some ((bl true))}), ((84,46), {call := some ((bl true))})]) (ps := [bl (decide ((↑l.length : Int) > (12 : Int))) = bl (false), bl (decide ((↑ps.length : Int) > (200 : Int))) = bl (false), ckS l ps q1 q2 (0 : Nat) = ckS l ps q1 q2 (0 : Nat), _, true = true, i64 (IntKind.i64.wrap (q1.tmod (5 : Int))) = i64 (q1.tmod (5 : Int)), i64 (IntKind.i64.wrap ((1 : Int) + q1.tmod (5 : Int))) = i64 ((↑m : Int)), _, i64 (IntKind.i64.wrap (q2.tmod (9 : Int))) = i64 (q2.tmod (9 : Int)), i64 (IntKind.i64.wrap ((1 : Int) + q2.tmod (9 : Int))) = i64 ((↑most : Int)), _, _, tpS l ps (0 : Nat) (0 : Nat)
    { m := m, kl := [],
      ln :=
        let __src := en0;
        { most := most, way := __src.way, next := __src.next, rest := __src.rest, exp := __src.exp, asd := __src.asd, read := __src.read, ack := __src.ack : En },
      rest := e0, got := [] : Le }
    { m := m, kl := [],
      ln :=
        let __src := en0;
        { most := most, way := __src.way, next := __src.next, rest := __src.rest, exp := __src.exp, asd := __src.asd, read := __src.read, ack := __src.ack : En },
      rest := e0, got := [] : Le }
    (1 : Nat) [M0] w0 w0 = tpS l ps (0 : Nat) (0 : Nat)
    { m := m, kl := [],
      ln :=
        let __src := en0;
        { most := most, way := __src.way, next := __src.next, rest := __src.rest, exp := __src.exp, asd := __src.asd, read := __src.read, ack := __src.ack : En },
      rest := e0, got := [] : Le }
    { m := m, kl := [],
      ln :=
        let __src := en0;
        { most := most, way := __src.way, next := __src.next, rest := __src.rest, exp := __src.exp, asd := __src.asd, read := __src.read, ack := __src.ack : En },
      rest := e0, got := [] : Le }
    (1 : Nat) [M0] w0 w0, _, true = true, true = true, seS l sent a b nm mk = seS l sent a b nm mk, _, true = true, true = true, true = true, pureB (Bk.arr (nm * (1 : Nat)) (List.flatMap eQ mk) (0 : Fz)) = true, _, caS l { m := a'.m, kl := a'.kl, ln := A', rest := a'.rest, got := a'.got : Le } b (0 : Nat) = caS l { m := a'.m, kl := a'.kl, ln := A', rest := a'.rest, got := a'.got : Le } b (0 : Nat), _, true = true, true = true, true = true, bl ((↑b2.got.length : Int) == (↑l.length : Int)) = bl (true), _, bl (b2.rest.toList == { data := #[] : ByteArray }.toList) = bl (true), _, _, bl (M == M) = bl (true), _, _, bl (n == n) = bl (true), _, _, _]) (by kernel_rfl) ⟨(bdF (by omega)), (bdF (by omega)), rfl, L1, rfl, (intE (by exact wrap_i64 (by omega) (by omega))), (by exact intE (by rw [wrap_i64 (by omega) (by omega)]; omega)), (hN), (intE (by exact wrap_i64 (by omega) (by omega))), (by exact intE (by rw [wrap_i64 (by omega) (by omega)]; omega)), (hE), (hM0), rfl, L2, rfl, rfl, rfl, L5, rfl, rfl, rfl, (by exact row_pureB (fun _ => rfl) _ _ _), (hT), rfl, L7, rfl, rfl, rfl, (beT (by omega)), (hB), (bsT (by assumption)), (hMa), (hMb), (beT (by omega)), (hLa), (hLb), (beT (by omega)), (hQa), (hQb), (hAw), trivial⟩
end Go.Proofs.YtdcoomeagbjhlaaDoor.Lk
