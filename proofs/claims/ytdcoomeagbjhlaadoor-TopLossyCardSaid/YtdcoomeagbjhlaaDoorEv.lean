/- The line: a pick, by the program. By the prover of this seat. -/
import Derived.Test.YtdcoomeagbjhlaaDoorEu
set_option linter.unusedVariables false
set_option linter.unusedSimpArgs false
set_option maxRecDepth 100000
set_option maxHeartbeats 4000000
namespace Go.Proofs.YtdcoomeagbjhlaaDoor.Lk
open Go.RowKit Go.Pm
open Go.Proofs.YtdcoomeagbjhlaaDoor.Or (G1 C1 Pu)
open Go.Proofs.YtdcoomeagbjhlaaDoor.Ca (eS slS cacheA outP)
abbrev u64v (n : Int) : AV := .s (.int .u64 n)
def eQ (n : Int) : List AV := [u64v n]
def eB (n : Int) : List AV := [u8 n]
abbrev slB (l : List Int) : AV := slE eB l
/-- a slice of an own row -/
structure Rw where
  L : Nat
  off : Nat
  n : Nat
  f : Nat
  cs : List AV
structure Rw.Ok (w : Rw) (th : List ByteArray) : Prop where
  len : w.L = w.n * 1 + w.off
  cl : w.cs.length = w.L
  row : w.cs.drop w.off = th.flatMap eS
  n : w.n = th.length
  f : w.f ≤ w.L
  pu : w.cs.all pureC = true
  big : w.n ≤ 100000
  bo : w.off ≤ 100000
def rwB (w : Rw) : Bk := .arr w.L w.cs ⟨w.f, none⟩
theorem Rw.Ok.pb {w : Rw} {th : List ByteArray} (h : w.Ok th) (fz : Fz) : pureB (.arr w.L w.cs fz) = true := h.pu
theorem Rw.Ok.pbs {w : Rw} {th : List ByteArray} (h : w.Ok th) (fz : Fz) : [Bk.arr w.L w.cs fz].all pureB = true := by rw [List.all_cons, h.pb]; rfl
theorem Rw.Ok.ids {w : Rw} {th : List ByteArray} (h : w.Ok th) (H : List Bk) (i : Nat) (fz : Fz) (e : H[i]? = some (.arr w.L w.cs fz)) : ([i].all fun i => (Option.map pureB H[i]?).getD false) = true := by
  simp [e, h.pb fz]
theorem sl_len (n : Nat) (l : List ByteArray) (h : n = l.length) : decide ((List.take (n * 1) (l.flatMap eS)).length = n * 1) = true := es_len n l h
noncomputable def tpB : Code := loopOf Tryd.prog 3 19
def tpS (l : List ByteArray) (ps : List Int) (k sent : Nat) (a b : Le) (nm : Nat) (mk : List Int) (w v : Rw) : St := ⟨mkT 380 [(0, slS l), (11, .ptr 0 0), (12, .ptr 1 0), (17, .osl 2 0 nm 1), (18, i64 (sent : Nat)), (20, .osl 3 w.off w.n 1), (21, .osl 4 v.off v.n 1), (78, slB ps), (79, i64 (ps.length : Nat)), (80, i64 (k : Nat))],
  [.arr 27 (leC a) 0, .arr 27 (leC b) 0, .arr (nm * 1) (mk.flatMap eQ) 0, rwB w, rwB v]⟩
theorem sl_pre (l : List ByteArray) (n : Nat) (h : n ≤ l.length) : AV.sl (n : Nat) (List.take (n * 1) (List.drop 0 (l.flatMap eS))) = slS (l.take n) := by
  have := flat_take (sz := 1) (enc := eS) (fun _ => rfl) l n
  rw [List.drop_zero, this]
  show AV.sl n _ = AV.sl (l.take n).length _
  rw [List.length_take, Nat.min_eq_left h]
theorem eq_len (n : Nat) (l : List Int) (h : n = l.length) : n * 1 = (l.flatMap eQ).length := by
  rw [row_len (sz := 1) (fun _ => rfl), h]
theorem due_len (l : List ByteArray) : decide ((List.take (l.length * 1) (l.flatMap eS)).length = l.length * 1) = true := es_len _ l rfl
theorem due_app (x : List AV) (l : List ByteArray) (cs : List AV) (h : x ++ l.flatMap eS = cs) : x ++ List.take (l.length * 1) (l.flatMap eS) = cs := by
  rw [es_take _ l rfl]
  exact h
theorem Rw.Ok.len2 {w : Rw} {th : List ByteArray} (h : w.Ok th) (i n : Nat) (hi : i + n ≤ w.n) : (List.take (n * 1) (List.drop (w.off + i) w.cs)).length = n * 1 := by
  have h1 := h.len
  have h2 := h.cl
  rw [List.length_take, List.length_drop]
  omega
theorem Rw.Ok.part {w : Rw} {th : List ByteArray} (h : w.Ok th) (i n : Nat) (hi : i + n ≤ w.n) : List.take (n * 1) (List.drop (w.off + i) w.cs) = ((th.drop i).take n).flatMap eS := by
  rw [← List.drop_drop, h.row]
  have := flat_piece (sz := 1) (enc := eS) (fun _ => rfl) th i n
  rw [Nat.mul_one] at this ⊢
  simp only [Nat.mul_one] at this
  exact this
theorem pk_0b (l : List ByteArray) (ps : List Int) (k sent : Nat) (a b : Le) (nm : Nat) (mk : List Int) (w v : Rw) (th bk : List ByteArray) (hw : w.Ok th) (hv : v.Ok bk) (hk : k < ps.length) (hps : ps.length ≤ 200) (hll : l.length ≤ 12) (hse : sent ≤ l.length) (hnm : nm = mk.length) (hnm2 : nm = sent + 1) (c n : Int) (hc : (nth ps k).tmod 8 = c) (hcv : c = 0) (hn : (nth ps k).tdiv 8 = n) (hn0 : 0 ≤ n ∧ n ≤ 31) (hs : ¬ sent < l.length) (b2 : Le) (M : Int) (hRd : Pu 12 [leA b] (.tup [leA b2, bl true])) (hBg : Pu 13 [slS b2.got, slS (l.take sent)] (bl true)) (hMk : Pu 6 [cacheA b2.m b2.kl] (u64v M)) (hgl : b2.got.length ≤ sent) (hM : nth mk b2.got.length = M) : Tri C1 tpB (tpS l ps k sent a b nm mk w v) .normal (tpS l ps (k + 1) sent a b2 nm mk w v) := by
  have w1 := hw.len
  have w2 := hw.cl
  have w3 := hw.row
  have w4 := hw.n
  have w5 := hw.f
  have w7 := hw.big
  have w8 := hw.bo
  have v1 := hv.len
  have v2 := hv.cl
  have v3 := hv.row
  have v4 := hv.n
  have v5 := hv.f
  have v7 := hv.big
  have v8 := hv.bo
  have hM1 : List.take 1 (List.drop (0 + b2.got.length * 1) ((mk).flatMap eQ)) = [u64v M] := by rw [row_at (sz := 1) (enc := eQ) (fun _ => rfl) (mk) b2.got.length _ 0 1 (by omega) (by first | omega | (rw [List.length_append, List.length_singleton]; omega)) (by decide), hM]; rfl
  exact runF_ok (hs := hint [((19,0), {val := some (bl (true))}), ((20,0), {cells := some (eB (nth ps k) ++ List.flatMap eB (List.drop (k + (1 : Nat)) ps)), sym := true}), ((21,1), { val := some (u8 n) }), ((21,2), { val := some (i64 n) }), ((23,1), { val := some (u8 c) }), ((25,1), {val := some (bl (true))}), ((26,3), {val := some (bl (false))}), ((58,1), {call := some (AV.tup [(leA b2), (bl true)])}), ((59,7), { sym := true, val := some (slS (l.take sent)) }), ((59,8), {call := some ((bl true))}), ((59,14), {call := some ((u64v M))}), ((59,19), {sym := true}), ((59,20), { sym := true, cells := some [u64v M] }), ((59,22), {val := some (bl (false))}), ((61,0), {val := some (i64 ((↑k : Int) + (1 : Int)))})]) (f := { ks := [0, 11, 12, 17, 18, 20, 21, 78, 79, 80], l := [0, 1, 2, 3, 4] }) (ps := [bl (decide ((↑k : Int) < (↑ps.length : Int))) = bl (true), decide ((0 : Int) ≤ (↑k : Int) ∧ (↑k : Int) < (↑ps.length : Int)) = true, ((List.drop ((↑k : Int).toNat * (1 : Nat)) (List.flatMap eB ps)) : List AV) = (eB (nth ps k) ++ List.flatMap eB (List.drop (k + (1 : Nat)) ps)), u8 (IntKind.u8.wrap ((nth ps k).tdiv (8 : Int))) = u8 (n), i64 (IntKind.i64.wrap n) = i64 (n), u8 ((nth ps k).tmod (8 : Int)) = u8 (c), bl (c == (0 : Int)) = bl (true), bl (decide ((↑sent : Int) < (↑l.length : Int))) = bl (false), _, (decide ((0 : Int) ≤ (0 : Int) ∧ (0 : Int) ≤ (↑sent : Int) ∧ (↑sent : Int) ≤ (↑l.length : Int) ∧ (↑l.length : Int) ≤ (↑l.length : Int)) && true) = true, AV.sl (((↑sent : Int) - (0 : Int)).toNat) (List.take (((↑sent : Int) - (0 : Int)).toNat * (1 : Nat)) (List.drop (0 : Nat) (List.flatMap eS l))) = AV.sl ((List.take sent l).length) (List.flatMap eS (List.take sent l)), _, _, decide ((0 : Int) ≤ (↑b2.got.length : Int) ∧ (↑b2.got.length : Int) < (↑nm : Int)) = true, ((List.take (1 : Nat) (List.drop ((0 : Nat) + (↑b2.got.length : Int).toNat * (1 : Nat)) (List.flatMap eQ mk))) : List AV) = [u64 (M)], bl (M != M) = bl (false), i64 (IntKind.i64.wrap ((↑k : Int) + (1 : Int))) = i64 ((↑k : Int) + (1 : Int)), true = true, true = true, true = true, pureB (Bk.arr (nm * (1 : Nat)) (List.flatMap eQ mk) (0 : Fz)) = true, pureB (Bk.arr w.L w.cs { n := w.f : Fz }) = true, pureB (Bk.arr v.L v.cs { n := v.f : Fz }) = true]) (by kernel_rfl) ⟨(bdT (by omega)), (by exact decide_t (by omega)), (by exact flat_nth (sz := 1) (k := k) (fun _ => rfl) (by omega)), (by exact intE (by rw [hn]; exact wrap_u8 (by omega) (by omega))), (by exact intE (wrap_i64 (by omega) (by omega))), (by exact intE hc), (beT (by assumption)), (bdF (by omega)), (hRd), (by (first | exact sl_pre l sent (by omega) | exact decide_t ⟨by omega, by omega⟩ | exact decide_t (by omega) | (simp; omega))), (by (first | exact sl_pre l sent (by omega) | exact decide_t ⟨by omega, by omega⟩ | exact decide_t (by omega) | (simp; omega))), (hBg), (hMk), (by exact decide_t (by omega)), (by (first | exact hM1 | exact decide_t (by omega))), (neT (by omega)), (intE (by exact wrap_i64 (by omega) (by omega))), rfl, rfl, rfl, (by exact row_pureB (fun _ => rfl) _ _ _), (by exact hw.pb _), (by exact hv.pb _), trivial⟩
theorem pk_0a (l : List ByteArray) (ps : List Int) (k sent : Nat) (a b : Le) (nm : Nat) (mk : List Int) (w v : Rw) (th bk : List ByteArray) (hw : w.Ok th) (hv : v.Ok bk) (hk : k < ps.length) (hps : ps.length ≤ 200) (hll : l.length ≤ 12) (hse : sent ≤ l.length) (hnm : nm = mk.length) (hnm2 : nm = sent + 1) (c n : Int) (hc : (nth ps k).tmod 8 = c) (hcv : c = 0) (hn : (nth ps k).tdiv 8 = n) (hn0 : 0 ≤ n ∧ n ≤ 31) (hs : sent < l.length) (a' : Le) (M' : Int) (hSd : Pu 7 [leA a, st (nth l sent)] (.tup [leA a', bl true])) (hMs : Pu 6 [cacheA a'.m a'.kl] (u64v M')) (b2 : Le) (M : Int) (hRd : Pu 12 [leA b] (.tup [leA b2, bl true])) (hBg : Pu 13 [slS b2.got, slS (l.take (sent + 1))] (bl true)) (hMk : Pu 6 [cacheA b2.m b2.kl] (u64v M)) (hgl : b2.got.length ≤ (sent + 1)) (hM : nth (mk ++ [M']) b2.got.length = M) : Tri C1 tpB (tpS l ps k sent a b nm mk w v) .normal (tpS l ps (k + 1) (sent + 1) a' b2 (nm + 1) (mk ++ [M']) w v) := by
  have w1 := hw.len
  have w2 := hw.cl
  have w3 := hw.row
  have w4 := hw.n
  have w5 := hw.f
  have w7 := hw.big
  have w8 := hw.bo
  have v1 := hv.len
  have v2 := hv.cl
  have v3 := hv.row
  have v4 := hv.n
  have v5 := hv.f
  have v7 := hv.big
  have v8 := hv.bo
  have hM1 : List.take 1 (List.drop (0 + b2.got.length * 1) ((mk ++ [M']).flatMap eQ)) = [u64v M] := by rw [row_at (sz := 1) (enc := eQ) (fun _ => rfl) (mk ++ [M']) b2.got.length _ 0 1 (by omega) (by first | omega | (rw [List.length_append, List.length_singleton]; omega)) (by decide), hM]; rfl
  exact runF_ok (hs := hint [((19,0), {val := some (bl (true))}), ((20,0), {cells := some (eB (nth ps k) ++ List.flatMap eB (List.drop (k + (1 : Nat)) ps)), sym := true}), ((21,1), { val := some (u8 n) }), ((21,2), { val := some (i64 n) }), ((23,1), { val := some (u8 c) }), ((25,1), {val := some (bl (true))}), ((26,3), {val := some (bl (true))}), ((27,3), {cells := some (eS (nth l sent) ++ List.flatMap eS (List.drop (sent + (1 : Nat)) l)), sym := true}), ((27,5), {call := some (AV.tup [(leA a'), (bl true)])}), ((30,1), { val := some (i64 (sent + 1 : Nat)) }), ((31,3), {call := some ((u64v M'))}), ((31,5), { sym := true, cells := some ((mk ++ [M']).flatMap eQ) }), ((58,1), {call := some (AV.tup [(leA b2), (bl true)])}), ((59,7), { sym := true, val := some (slS (l.take (sent + 1))) }), ((59,8), {call := some ((bl true))}), ((59,14), {call := some ((u64v M))}), ((59,19), {sym := true}), ((59,20), { sym := true, cells := some [u64v M] }), ((59,22), {val := some (bl (false))}), ((61,0), {val := some (i64 ((↑k : Int) + (1 : Int)))})]) (f := { ks := [0, 11, 12, 17, 18, 20, 21, 78, 79, 80], l := [0, 1, 6, 3, 4] }) (ps := [bl (decide ((↑k : Int) < (↑ps.length : Int))) = bl (true), decide ((0 : Int) ≤ (↑k : Int) ∧ (↑k : Int) < (↑ps.length : Int)) = true, ((List.drop ((↑k : Int).toNat * (1 : Nat)) (List.flatMap eB ps)) : List AV) = (eB (nth ps k) ++ List.flatMap eB (List.drop (k + (1 : Nat)) ps)), u8 (IntKind.u8.wrap ((nth ps k).tdiv (8 : Int))) = u8 (n), i64 (IntKind.i64.wrap n) = i64 (n), u8 ((nth ps k).tmod (8 : Int)) = u8 (c), bl (c == (0 : Int)) = bl (true), bl (decide ((↑sent : Int) < (↑l.length : Int))) = bl (true), decide ((0 : Int) ≤ (↑sent : Int) ∧ (↑sent : Int) < (↑l.length : Int)) = true, ((List.drop ((↑sent : Int).toNat * (1 : Nat)) (List.flatMap eS l)) : List AV) = (eS (nth l sent) ++ List.flatMap eS (List.drop (sent + (1 : Nat)) l)), _, i64 (IntKind.i64.wrap ((↑sent : Int) + (1 : Int))) = i64 ((↑(sent + (1 : Nat)) : Int)), _, decide (nm * (1 : Nat) = nm * (1 : Nat) + (0 : Nat) ∧ (0 : Nat) ≤ nm * (1 : Nat) ∧ nm * (1 : Nat) = (List.flatMap eQ mk).length) = true, decide ((nm + (1 : Nat)) * (8 : Nat) ≤ (140737488355328 : Nat)) = true, true = true, ((List.drop (0 : Nat) (List.flatMap eQ mk) ++ [AV.s (Value.int IntKind.u64 M')]) : List AV) = (List.flatMap eQ (mk ++ [M'])), _, (decide ((0 : Int) ≤ (0 : Int) ∧ (0 : Int) ≤ (↑(sent + (1 : Nat)) : Int) ∧ (↑(sent + (1 : Nat)) : Int) ≤ (↑l.length : Int) ∧ (↑l.length : Int) ≤ (↑l.length : Int)) && true) = true, AV.sl (((↑(sent + (1 : Nat)) : Int) - (0 : Int)).toNat) (List.take (((↑(sent + (1 : Nat)) : Int) - (0 : Int)).toNat * (1 : Nat)) (List.drop (0 : Nat) (List.flatMap eS l))) = AV.sl ((List.take (sent + (1 : Nat)) l).length) (List.flatMap eS (List.take (sent + (1 : Nat)) l)), _, _, decide ((0 : Int) ≤ (↑b2.got.length : Int) ∧ (↑b2.got.length : Int) < (↑(nm + (1 : Nat)) : Int)) = true, ((List.take (1 : Nat) (List.drop ((0 : Nat) + (↑b2.got.length : Int).toNat * (1 : Nat)) (List.flatMap eQ (mk ++ [M'])))) : List AV) = [u64 (M)], bl (M != M) = bl (false), i64 (IntKind.i64.wrap ((↑k : Int) + (1 : Int))) = i64 ((↑k : Int) + (1 : Int)), true = true, true = true, true = true, pureB (Bk.arr ((nm + (1 : Nat)) * (1 : Nat)) (List.flatMap eQ (mk ++ [M'])) (0 : Fz)) = true, pureB (Bk.arr w.L w.cs { n := w.f : Fz }) = true, pureB (Bk.arr v.L v.cs { n := v.f : Fz }) = true]) (by kernel_rfl) ⟨(bdT (by omega)), (by exact decide_t (by omega)), (by exact flat_nth (sz := 1) (k := k) (fun _ => rfl) (by omega)), (by exact intE (by rw [hn]; exact wrap_u8 (by omega) (by omega))), (by exact intE (wrap_i64 (by omega) (by omega))), (by exact intE hc), (beT (by assumption)), (bdT (by omega)), (by exact decide_t (by omega)), (by exact flat_nth (sz := 1) (k := sent) (fun _ => rfl) (by omega)), (hSd), (by exact intE (by rw [wrap_i64 (by omega) (by omega)]; omega)), (hMs), (by (first | exact (row_snoc mk M').symm | exact decide_t (by omega) | exact decide_t ⟨by omega, by omega, eq_len _ _ hnm⟩)), (by (first | exact (row_snoc mk M').symm | exact decide_t (by omega) | exact decide_t ⟨by omega, by omega, eq_len _ _ hnm⟩)), rfl, (by (first | exact (row_snoc mk M').symm | exact decide_t (by omega) | exact decide_t ⟨by omega, by omega, eq_len _ _ hnm⟩)), (hRd), (by (first | exact sl_pre l (sent + 1) (by omega) | exact decide_t ⟨by omega, by omega⟩ | exact decide_t (by omega) | (simp; omega))), (by (first | exact sl_pre l (sent + 1) (by omega) | exact decide_t ⟨by omega, by omega⟩ | exact decide_t (by omega) | (simp; omega))), (hBg), (hMk), (by exact decide_t (by omega)), (by (first | exact hM1 | exact decide_t (by omega))), (neT (by omega)), (intE (by exact wrap_i64 (by omega) (by omega))), rfl, rfl, rfl, (by exact row_pureB (fun _ => rfl) _ _ _), (by exact hw.pb _), (by exact hv.pb _), trivial⟩
theorem pk_1 (l : List ByteArray) (ps : List Int) (k sent : Nat) (a b : Le) (nm : Nat) (mk : List Int) (w v : Rw) (th bk : List ByteArray) (hw : w.Ok th) (hv : v.Ok bk) (hk : k < ps.length) (hps : ps.length ≤ 200) (hll : l.length ≤ 12) (hse : sent ≤ l.length) (hnm : nm = mk.length) (hnm2 : nm = sent + 1) (c n : Int) (hc : (nth ps k).tmod 8 = c) (hcv : c = 1) (hn : (nth ps k).tdiv 8 = n) (hn0 : 0 ≤ n ∧ n ≤ 31) (A' : En) (due : List ByteArray) (cs' : List AV) (hd : due.length ≤ 100) (hD : Pu 8 [enA a.ln] (.tup [enA A', slS due])) (hp' : cs'.all pureC = true) (hcs : w.cs.drop w.off ++ due.flatMap eS = cs') (b2 : Le) (M : Int) (hRd : Pu 12 [leA b] (.tup [leA b2, bl true])) (hBg : Pu 13 [slS b2.got, slS (l.take sent)] (bl true)) (hMk : Pu 6 [cacheA b2.m b2.kl] (u64v M)) (hgl : b2.got.length ≤ sent) (hM : nth mk b2.got.length = M) : Tri C1 tpB (tpS l ps k sent a b nm mk w v) .normal (tpS l ps (k + 1) sent { a with ln := A' } b2 nm mk ⟨(w.n + due.length) * 1, 0, w.n + due.length, w.f - w.off, cs'⟩ v) := by
  have w1 := hw.len
  have w2 := hw.cl
  have w3 := hw.row
  have w4 := hw.n
  have w5 := hw.f
  have w7 := hw.big
  have w8 := hw.bo
  have v1 := hv.len
  have v2 := hv.cl
  have v3 := hv.row
  have v4 := hv.n
  have v5 := hv.f
  have v7 := hv.big
  have v8 := hv.bo
  have hM1 : List.take 1 (List.drop (0 + b2.got.length * 1) ((mk).flatMap eQ)) = [u64v M] := by rw [row_at (sz := 1) (enc := eQ) (fun _ => rfl) (mk) b2.got.length _ 0 1 (by omega) (by first | omega | (rw [List.length_append, List.length_singleton]; omega)) (by decide), hM]; rfl
  exact runF_ok (hs := hint [((19,0), {val := some (bl (true))}), ((20,0), {cells := some (eB (nth ps k) ++ List.flatMap eB (List.drop (k + (1 : Nat)) ps)), sym := true}), ((21,1), { val := some (u8 n) }), ((21,2), { val := some (i64 n) }), ((23,1), { val := some (u8 c) }), ((25,1), {val := some (bl (false))}), ((32,1), {val := some (bl (true))}), ((33,2), {call := some (AV.tup [(enA A'), (slS due)])}), ((34,2), { sym := true, cut := true, cells := some cs' }), ((58,1), {call := some (AV.tup [(leA b2), (bl true)])}), ((59,7), { sym := true, val := some (slS (l.take sent)) }), ((59,8), {call := some ((bl true))}), ((59,14), {call := some ((u64v M))}), ((59,19), {sym := true}), ((59,20), { sym := true, cells := some [u64v M] }), ((59,22), {val := some (bl (false))}), ((61,0), {val := some (i64 ((↑k : Int) + (1 : Int)))})]) (f := { ks := [0, 11, 12, 17, 18, 20, 21, 78, 79, 80], l := [0, 1, 2, 5, 4] }) (ps := [bl (decide ((↑k : Int) < (↑ps.length : Int))) = bl (true), decide ((0 : Int) ≤ (↑k : Int) ∧ (↑k : Int) < (↑ps.length : Int)) = true, ((List.drop ((↑k : Int).toNat * (1 : Nat)) (List.flatMap eB ps)) : List AV) = (eB (nth ps k) ++ List.flatMap eB (List.drop (k + (1 : Nat)) ps)), u8 (IntKind.u8.wrap ((nth ps k).tdiv (8 : Int))) = u8 (n), i64 (IntKind.i64.wrap n) = i64 (n), u8 ((nth ps k).tmod (8 : Int)) = u8 (c), bl (c == (0 : Int)) = bl (false), bl (c == (1 : Int)) = bl (true), _, decide (w.L = w.n * (1 : Nat) + w.off ∧ w.f ≤ w.L ∧ w.L = w.cs.length) = true, decide ((w.n + due.length) * (16 : Nat) ≤ (140737488355328 : Nat)) = true, decide ((List.take (due.length * (1 : Nat)) (List.flatMap eS due)).length = due.length * (1 : Nat)) = true, ((List.drop w.off w.cs ++ List.take (due.length * (1 : Nat)) (List.flatMap eS due)) : List AV) = (cs'), _, (decide ((0 : Int) ≤ (0 : Int) ∧ (0 : Int) ≤ (↑sent : Int) ∧ (↑sent : Int) ≤ (↑l.length : Int) ∧ (↑l.length : Int) ≤ (↑l.length : Int)) && true) = true, AV.sl (((↑sent : Int) - (0 : Int)).toNat) (List.take (((↑sent : Int) - (0 : Int)).toNat * (1 : Nat)) (List.drop (0 : Nat) (List.flatMap eS l))) = AV.sl ((List.take sent l).length) (List.flatMap eS (List.take sent l)), _, _, decide ((0 : Int) ≤ (↑b2.got.length : Int) ∧ (↑b2.got.length : Int) < (↑nm : Int)) = true, ((List.take (1 : Nat) (List.drop ((0 : Nat) + (↑b2.got.length : Int).toNat * (1 : Nat)) (List.flatMap eQ mk))) : List AV) = [u64 (M)], bl (M != M) = bl (false), i64 (IntKind.i64.wrap ((↑k : Int) + (1 : Int))) = i64 ((↑k : Int) + (1 : Int)), true = true, true = true, true = true, pureB (Bk.arr (nm * (1 : Nat)) (List.flatMap eQ mk) (0 : Fz)) = true, pureB (Bk.arr ((w.n + due.length) * (1 : Nat)) cs' { n := w.f - w.off : Fz }) = true, pureB (Bk.arr v.L v.cs { n := v.f : Fz }) = true]) (by kernel_rfl) ⟨(bdT (by omega)), (by exact decide_t (by omega)), (by exact flat_nth (sz := 1) (k := k) (fun _ => rfl) (by omega)), (by exact intE (by rw [hn]; exact wrap_u8 (by omega) (by omega))), (by exact intE (wrap_i64 (by omega) (by omega))), (by exact intE hc), (beF (by omega)), (beT (by assumption)), (hD), (by (first | exact due_app _ due _ hcs | exact due_len due | exact decide_t (by omega) | exact decide_t ⟨by omega, by omega, by omega⟩)), (by (first | exact due_app _ due _ hcs | exact due_len due | exact decide_t (by omega) | exact decide_t ⟨by omega, by omega, by omega⟩)), (by (first | exact due_app _ due _ hcs | exact due_len due | exact decide_t (by omega) | exact decide_t ⟨by omega, by omega, by omega⟩)), (by (first | exact due_app _ due _ hcs | exact due_len due | exact decide_t (by omega) | exact decide_t ⟨by omega, by omega, by omega⟩)), (hRd), (by (first | exact sl_pre l sent (by omega) | exact decide_t ⟨by omega, by omega⟩ | exact decide_t (by omega) | (simp; omega))), (by (first | exact sl_pre l sent (by omega) | exact decide_t ⟨by omega, by omega⟩ | exact decide_t (by omega) | (simp; omega))), (hBg), (hMk), (by exact decide_t (by omega)), (by (first | exact hM1 | exact decide_t (by omega))), (neT (by omega)), (intE (by exact wrap_i64 (by omega) (by omega))), rfl, rfl, rfl, (by exact row_pureB (fun _ => rfl) _ _ _), (by assumption), (by exact hv.pb _), trivial⟩
theorem pk_2 (l : List ByteArray) (ps : List Int) (k sent : Nat) (a b : Le) (nm : Nat) (mk : List Int) (w v : Rw) (th bk : List ByteArray) (hw : w.Ok th) (hv : v.Ok bk) (hk : k < ps.length) (hps : ps.length ≤ 200) (hll : l.length ≤ 12) (hse : sent ≤ l.length) (hnm : nm = mk.length) (hnm2 : nm = sent + 1) (c n : Int) (hc : (nth ps k).tmod 8 = c) (hcv : c = 2) (hn : (nth ps k).tdiv 8 = n) (hn0 : 0 ≤ n ∧ n ≤ 31) (B' : En) (due : List ByteArray) (cs' : List AV) (hd : due.length ≤ 100) (hD : Pu 8 [enA b.ln] (.tup [enA B', slS due])) (hp' : cs'.all pureC = true) (hcs : v.cs.drop v.off ++ due.flatMap eS = cs') (b2 : Le) (M : Int) (hRd : Pu 12 [leA { b with ln := B' }] (.tup [leA b2, bl true])) (hBg : Pu 13 [slS b2.got, slS (l.take sent)] (bl true)) (hMk : Pu 6 [cacheA b2.m b2.kl] (u64v M)) (hgl : b2.got.length ≤ sent) (hM : nth mk b2.got.length = M) : Tri C1 tpB (tpS l ps k sent a b nm mk w v) .normal (tpS l ps (k + 1) sent a b2 nm mk w ⟨(v.n + due.length) * 1, 0, v.n + due.length, v.f - v.off, cs'⟩) := by
  have w1 := hw.len
  have w2 := hw.cl
  have w3 := hw.row
  have w4 := hw.n
  have w5 := hw.f
  have w7 := hw.big
  have w8 := hw.bo
  have v1 := hv.len
  have v2 := hv.cl
  have v3 := hv.row
  have v4 := hv.n
  have v5 := hv.f
  have v7 := hv.big
  have v8 := hv.bo
  have hM1 : List.take 1 (List.drop (0 + b2.got.length * 1) ((mk).flatMap eQ)) = [u64v M] := by rw [row_at (sz := 1) (enc := eQ) (fun _ => rfl) (mk) b2.got.length _ 0 1 (by omega) (by first | omega | (rw [List.length_append, List.length_singleton]; omega)) (by decide), hM]; rfl
  exact runF_ok (hs := hint [((19,0), {val := some (bl (true))}), ((20,0), {cells := some (eB (nth ps k) ++ List.flatMap eB (List.drop (k + (1 : Nat)) ps)), sym := true}), ((21,1), { val := some (u8 n) }), ((21,2), { val := some (i64 n) }), ((23,1), { val := some (u8 c) }), ((25,1), {val := some (bl (false))}), ((32,1), {val := some (bl (false))}), ((35,1), {val := some (bl (true))}), ((36,2), {call := some (AV.tup [(enA B'), (slS due)])}), ((37,2), { sym := true, cut := true, cells := some cs' }), ((58,1), {call := some (AV.tup [(leA b2), (bl true)])}), ((59,7), { sym := true, val := some (slS (l.take sent)) }), ((59,8), {call := some ((bl true))}), ((59,14), {call := some ((u64v M))}), ((59,19), {sym := true}), ((59,20), { sym := true, cells := some [u64v M] }), ((59,22), {val := some (bl (false))}), ((61,0), {val := some (i64 ((↑k : Int) + (1 : Int)))})]) (f := { ks := [0, 11, 12, 17, 18, 20, 21, 78, 79, 80], l := [0, 1, 2, 3, 5] }) (ps := [bl (decide ((↑k : Int) < (↑ps.length : Int))) = bl (true), decide ((0 : Int) ≤ (↑k : Int) ∧ (↑k : Int) < (↑ps.length : Int)) = true, ((List.drop ((↑k : Int).toNat * (1 : Nat)) (List.flatMap eB ps)) : List AV) = (eB (nth ps k) ++ List.flatMap eB (List.drop (k + (1 : Nat)) ps)), u8 (IntKind.u8.wrap ((nth ps k).tdiv (8 : Int))) = u8 (n), i64 (IntKind.i64.wrap n) = i64 (n), u8 ((nth ps k).tmod (8 : Int)) = u8 (c), bl (c == (0 : Int)) = bl (false), bl (c == (1 : Int)) = bl (false), bl (c == (2 : Int)) = bl (true), _, decide (v.L = v.n * (1 : Nat) + v.off ∧ v.f ≤ v.L ∧ v.L = v.cs.length) = true, decide ((v.n + due.length) * (16 : Nat) ≤ (140737488355328 : Nat)) = true, decide ((List.take (due.length * (1 : Nat)) (List.flatMap eS due)).length = due.length * (1 : Nat)) = true, ((List.drop v.off v.cs ++ List.take (due.length * (1 : Nat)) (List.flatMap eS due)) : List AV) = (cs'), _, (decide ((0 : Int) ≤ (0 : Int) ∧ (0 : Int) ≤ (↑sent : Int) ∧ (↑sent : Int) ≤ (↑l.length : Int) ∧ (↑l.length : Int) ≤ (↑l.length : Int)) && true) = true, AV.sl (((↑sent : Int) - (0 : Int)).toNat) (List.take (((↑sent : Int) - (0 : Int)).toNat * (1 : Nat)) (List.drop (0 : Nat) (List.flatMap eS l))) = AV.sl ((List.take sent l).length) (List.flatMap eS (List.take sent l)), _, _, decide ((0 : Int) ≤ (↑b2.got.length : Int) ∧ (↑b2.got.length : Int) < (↑nm : Int)) = true, ((List.take (1 : Nat) (List.drop ((0 : Nat) + (↑b2.got.length : Int).toNat * (1 : Nat)) (List.flatMap eQ mk))) : List AV) = [u64 (M)], bl (M != M) = bl (false), i64 (IntKind.i64.wrap ((↑k : Int) + (1 : Int))) = i64 ((↑k : Int) + (1 : Int)), true = true, true = true, true = true, pureB (Bk.arr (nm * (1 : Nat)) (List.flatMap eQ mk) (0 : Fz)) = true, pureB (Bk.arr w.L w.cs { n := w.f : Fz }) = true, pureB (Bk.arr ((v.n + due.length) * (1 : Nat)) cs' { n := v.f - v.off : Fz }) = true]) (by kernel_rfl) ⟨(bdT (by omega)), (by exact decide_t (by omega)), (by exact flat_nth (sz := 1) (k := k) (fun _ => rfl) (by omega)), (by exact intE (by rw [hn]; exact wrap_u8 (by omega) (by omega))), (by exact intE (wrap_i64 (by omega) (by omega))), (by exact intE hc), (beF (by omega)), (beF (by omega)), (beT (by assumption)), (hD), (by (first | exact due_app _ due _ hcs | exact due_len due | exact decide_t (by omega) | exact decide_t ⟨by omega, by omega, by omega⟩)), (by (first | exact due_app _ due _ hcs | exact due_len due | exact decide_t (by omega) | exact decide_t ⟨by omega, by omega, by omega⟩)), (by (first | exact due_app _ due _ hcs | exact due_len due | exact decide_t (by omega) | exact decide_t ⟨by omega, by omega, by omega⟩)), (by (first | exact due_app _ due _ hcs | exact due_len due | exact decide_t (by omega) | exact decide_t ⟨by omega, by omega, by omega⟩)), (hRd), (by (first | exact sl_pre l sent (by omega) | exact decide_t ⟨by omega, by omega⟩ | exact decide_t (by omega) | (simp; omega))), (by (first | exact sl_pre l sent (by omega) | exact decide_t ⟨by omega, by omega⟩ | exact decide_t (by omega) | (simp; omega))), (hBg), (hMk), (by exact decide_t (by omega)), (by (first | exact hM1 | exact decide_t (by omega))), (neT (by omega)), (intE (by exact wrap_i64 (by omega) (by omega))), rfl, rfl, rfl, (by exact row_pureB (fun _ => rfl) _ _ _), (by exact hw.pb _), (by assumption), trivial⟩
end Go.Proofs.YtdcoomeagbjhlaaDoor.Lk
