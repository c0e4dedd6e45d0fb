/- The ends of the whole line: reading, whole. By the prover of this seat. -/
import Derived.Test.YtdcoomeagbjhlaaDoorEp
set_option linter.unusedVariables false
set_option linter.unusedSimpArgs false
set_option maxRecDepth 100000
set_option maxHeartbeats 4000000
namespace Go.Proofs.YtdcoomeagbjhlaaDoor.Lk
open Go.RowKit Go.Pm
open Go.Proofs.YtdcoomeagbjhlaaDoor.Or (G1 C1 Pu)
open Go.Proofs.YtdcoomeagbjhlaaDoor.Ca (eS slS cacheA outP)
theorem read12_F (x : Le) (ln' : En) (r : ByteArray) (g : Nat) (hr : x.rest.size + r.size ≤ 1000000) (hg : g = x.got.length) (hR : Pu 23 [enA x.ln] (.tup [enA ln', st r])) (h : LoopT C1 rdB (rdF { x with ln := ln', rest := x.rest ++ r } g) (.exit 0) (rdF { x with ln := ln', rest := x.rest ++ r } g)) : Pu 12 [A (leM x (.sl g (x.got.flatMap eS)))] (.tup [A (leM { x with ln := ln', rest := x.rest ++ r } (.sl g (x.got.flatMap eS))), bl true]) := by
  exact pure_of (hs := hint [((1,2), {call := some (AV.tup [(enA ln'), (st r)])}), ((2,4), {sym := true}), ((3,1000), {loop := some ({ ks := [1, 2], l := [0, 1] }, rdF { m := x.m, kl := x.kl, ln := ln', rest := x.rest ++ r, got := x.got : Le } g, Ex.exit (0 : Nat), rdF { m := x.m, kl := x.kl, ln := ln', rest := x.rest ++ r, got := x.got : Le } g)})]) (ps := [_, decide (x.rest.size + r.size ≤ (9223372036854775807 : Nat)) = true, rdF { m := x.m, kl := x.kl, ln := ln', rest := x.rest ++ r, got := x.got : Le } g = rdF { m := x.m, kl := x.kl, ln := ln', rest := x.rest ++ r, got := x.got : Le } g, _, true = true, true = true, true = true]) (by kernel_rfl) ⟨(hR), (by exact decide_t (by omega)), rfl, h, rfl, rfl, rfl, trivial⟩
theorem read12_N (x y : Le) (ln' : En) (r : ByteArray) (g g' : Nat) (hr : x.rest.size + r.size ≤ 1000000) (hg : g' = y.got.length) (hR : Pu 23 [enA x.ln] (.tup [enA ln', st r])) (h : LoopT C1 rdB (rdF { x with ln := ln', rest := x.rest ++ r } g) (.exit 0) (rdN y g')) : Pu 12 [A (leM x (.sl g (x.got.flatMap eS)))] (.tup [leA y, bl true]) := by
  have hs := slS_take g' y.got hg
  have hq : AV.tup [A (leM y (AV.sl g' (List.take (g' * 1) (List.drop 0 (y.got.flatMap eS))))), bl true] = .tup [leA y, bl true] := by rw [hs]; rfl
  exact pure_cast (pure_said (hs := hint [((1,2), {call := some (AV.tup [(enA ln'), (st r)])}), ((2,4), {sym := true}), ((3,1000), {loop := some ({ ks := [1, 2], l := [0, 1] }, rdF { m := x.m, kl := x.kl, ln := ln', rest := x.rest ++ r, got := x.got : Le } g, Ex.exit (0 : Nat), rdN y g')})]) (r := AV.tup [A [i64 ((↑y.m : Int)), AV.sl (y.kl.length) (List.flatMap eS y.kl), i64 ((↑y.ln.most : Int)), AV.sl (y.ln.way.length) (List.flatMap pcE y.ln.way), i64 ((↑y.ln.next : Int)), st (y.ln.rest), i64 ((↑y.ln.exp : Int)), st (y.ln.asd (0 : Nat)), st (y.ln.asd (1 : Nat)), st (y.ln.asd (2 : Nat)), st (y.ln.asd (3 : Nat)), st (y.ln.asd (4 : Nat)), st (y.ln.asd (5 : Nat)), st (y.ln.asd (6 : Nat)), st (y.ln.asd (7 : Nat)), st (y.ln.asd (8 : Nat)), st (y.ln.asd (9 : Nat)), st (y.ln.asd (10 : Nat)), st (y.ln.asd (11 : Nat)), st (y.ln.asd (12 : Nat)), st (y.ln.asd (13 : Nat)), st (y.ln.asd (14 : Nat)), st (y.ln.asd (15 : Nat)), st (y.ln.read), bl (y.ln.ack), st (y.rest), AV.sl (g') (List.take (g' * (1 : Nat)) (List.drop (0 : Nat) (List.flatMap eS y.got)))], bl (true)]) (ps := [_, decide (x.rest.size + r.size ≤ (9223372036854775807 : Nat)) = true, rdF { m := x.m, kl := x.kl, ln := ln', rest := x.rest ++ r, got := x.got : Le } g = rdF { m := x.m, kl := x.kl, ln := ln', rest := x.rest ++ r, got := x.got : Le } g, _, true = true, true = true, true = true, ([(2 : Nat)].all fun (i : Nat) => (Option.map pureB [Bk.arr (27 : Nat) [AV.s (Value.int IntKind.i64 (↑y.m : Int)), AV.sl y.kl.length (List.flatMap eS y.kl), AV.s (Value.int IntKind.i64 (↑y.ln.most : Int)), AV.sl y.ln.way.length (List.flatMap pcE y.ln.way), AV.s (Value.int IntKind.i64 (↑y.ln.next : Int)), AV.s (Value.string y.ln.rest), AV.s (Value.int IntKind.i64 (↑y.ln.exp : Int)), AV.s (Value.string (y.ln.asd (0 : Nat))), AV.s (Value.string (y.ln.asd (1 : Nat))), AV.s (Value.string (y.ln.asd (2 : Nat))), AV.s (Value.string (y.ln.asd (3 : Nat))), AV.s (Value.string (y.ln.asd (4 : Nat))), AV.s (Value.string (y.ln.asd (5 : Nat))), AV.s (Value.string (y.ln.asd (6 : Nat))), AV.s (Value.string (y.ln.asd (7 : Nat))), AV.s (Value.string (y.ln.asd (8 : Nat))), AV.s (Value.string (y.ln.asd (9 : Nat))), AV.s (Value.string (y.ln.asd (10 : Nat))), AV.s (Value.string (y.ln.asd (11 : Nat))), AV.s (Value.string (y.ln.asd (12 : Nat))), AV.s (Value.string (y.ln.asd (13 : Nat))), AV.s (Value.string (y.ln.asd (14 : Nat))), AV.s (Value.string (y.ln.asd (15 : Nat))), AV.s (Value.string y.ln.read), AV.s (Value.bool y.ln.ack), AV.s (Value.string y.rest), AV.osl (2 : Nat) (0 : Nat) g' (1 : Nat)] (0 : Fz), Bk.arr (27 : Nat) [AV.s (Value.int IntKind.i64 (↑y.m : Int)), AV.sl y.kl.length (List.flatMap eS y.kl), AV.s (Value.int IntKind.i64 (↑y.ln.most : Int)), AV.sl y.ln.way.length (List.flatMap pcE y.ln.way), AV.s (Value.int IntKind.i64 (↑y.ln.next : Int)), AV.s (Value.string y.ln.rest), AV.s (Value.int IntKind.i64 (↑y.ln.exp : Int)), AV.s (Value.string (y.ln.asd (0 : Nat))), AV.s (Value.string (y.ln.asd (1 : Nat))), AV.s (Value.string (y.ln.asd (2 : Nat))), AV.s (Value.string (y.ln.asd (3 : Nat))), AV.s (Value.string (y.ln.asd (4 : Nat))), AV.s (Value.string (y.ln.asd (5 : Nat))), AV.s (Value.string (y.ln.asd (6 : Nat))), AV.s (Value.string (y.ln.asd (7 : Nat))), AV.s (Value.string (y.ln.asd (8 : Nat))), AV.s (Value.string (y.ln.asd (9 : Nat))), AV.s (Value.string (y.ln.asd (10 : Nat))), AV.s (Value.string (y.ln.asd (11 : Nat))), AV.s (Value.string (y.ln.asd (12 : Nat))), AV.s (Value.string (y.ln.asd (13 : Nat))), AV.s (Value.string (y.ln.asd (14 : Nat))), AV.s (Value.string (y.ln.asd (15 : Nat))), AV.s (Value.string y.ln.read), AV.s (Value.bool y.ln.ack), AV.s (Value.string y.rest), AV.osl (2 : Nat) (0 : Nat) g' (1 : Nat)] (0 : Fz), Bk.arr (g' * (1 : Nat)) (List.flatMap eS y.got) (0 : Fz)][i]?).getD false) = true, true = true]) (by kernel_rfl) ⟨(hR), (by exact decide_t (by omega)), rfl, h, rfl, rfl, rfl, (by exact row_ids (fun _ => rfl) _ _ _ _ _ rfl), rfl, trivial⟩) (by assumption)
/-- a message is read -/
structure RdStep (x x' : Le) (kl' : List ByteArray) (z : Nat) (msg : ByteArray) : Prop where
  g : x.got.length ≤ 900
  h4 : 4 ≤ x.rest.size
  hs : x.rest.size ≤ 1000000
  hz : 4 + z ≤ x.rest.size
  hO : Pu 24 [i64 1, i64 4, st (x.rest.extract 0 4)] (.tup [i64 (z : Nat), i64 0])
  hC : Pu 25 [cacheA x.m x.kl, st (x.rest.extract 4 (4 + z))] (outP x.m kl' msg 0)
  eq : x' = rdX x kl' z msg
/-- no message is there whole -/
def RdEnd (x : Le) : Prop := x.rest.size < 4 ∨ ∃ z : Nat, 4 ≤ x.rest.size ∧ x.rest.size ≤ 1000000 ∧ ¬ 4 + z ≤ x.rest.size ∧ z ≤ 1000000 ∧ Pu 24 [i64 1, i64 4, st (x.rest.extract 0 4)] (.tup [i64 (z : Nat), i64 0])
theorem rd_endN {x : Le} (h : RdEnd x) (g : Nat) : LoopT C1 rdB (rdN x g) (.exit 0) (rdN x g) := by
  rcases h with h | ⟨z, h1, h2, h3, h4, h5⟩
  · exact rd_endN4 x g h
  · exact rd_endNz x g z h1 h2 h3 h4 h5
theorem rd_endF {x : Le} (h : RdEnd x) (g : Nat) : LoopT C1 rdB (rdF x g) (.exit 0) (rdF x g) := by
  rcases h with h | ⟨z, h1, h2, h3, h4, h5⟩
  · exact rd_endF4 x g h
  · exact rd_endFz x g z h1 h2 h3 h4 h5
theorem rdX_len (x : Le) (kl' : List ByteArray) (z : Nat) (msg : ByteArray) : (rdX x kl' z msg).got.length = x.got.length + 1 := by show (x.got ++ [msg]).length = _; rw [List.length_append]; rfl
theorem rd_loop (f : Nat → Le) (n : Nat) (hs : ∀ i, i < n → ∃ kl' z msg, RdStep (f i) (f (i + 1)) kl' z msg) (he : RdEnd (f n)) : (n = 0 ∧ LoopT C1 rdB (rdF (f 0) (f 0).got.length) (.exit 0) (rdF (f 0) (f 0).got.length)) ∨ LoopT C1 rdB (rdF (f 0) (f 0).got.length) (.exit 0) (rdN (f n) (f n).got.length) := by
  cases n with
  | zero => exact .inl ⟨rfl, rd_endF he _⟩
  | succ n =>
    right
    obtain ⟨kl', z, msg, h⟩ := hs 0 (by omega)
    have h1 := rd_first (f 0) kl' z _ msg rfl (by have := h.g; omega) h.h4 h.hs h.hz h.hO h.hC
    have e1 : 0 + (f 0).got.length + 1 = (f (0 + 1)).got.length := by rw [h.eq, rdX_len]; omega
    rw [e1, ← h.eq] at h1
    refine LoopT.next h1 ?_
    have h2 := LoopT.count (fun i => rdN (f (i + 1)) (f (i + 1)).got.length) n (fun i hi => by
      obtain ⟨kl', z, msg, h⟩ := hs (i + 1) (by omega)
      have h1 := rd_next (f (i + 1)) kl' z _ msg rfl (by have := h.g; omega) h.h4 h.hs h.hz h.hO h.hC
      have e1 : 0 + (f (i + 1)).got.length + 1 = (f (i + 1 + 1)).got.length := by rw [h.eq, rdX_len]; omega
      rw [e1, ← h.eq] at h1
      exact h1) (rd_endN he _) 0 (Nat.zero_le _)
    exact h2
theorem read12 (x : Le) (ln' : En) (r : ByteArray) (f : Nat → Le) (n : Nat) (hr : x.rest.size + r.size ≤ 1000000) (hR : Pu 23 [enA x.ln] (.tup [enA ln', st r])) (h0 : f 0 = { x with ln := ln', rest := x.rest ++ r }) (hs : ∀ i, i < n → ∃ kl' z msg, RdStep (f i) (f (i + 1)) kl' z msg) (he : RdEnd (f n)) : Pu 12 [leA x] (.tup [leA (f n), bl true]) := by
  have hg : (f 0).got.length = x.got.length := by rw [h0]
  rcases rd_loop f n hs he with ⟨rfl, h⟩ | h
  · rw [hg, h0] at h
    rw [h0]
    exact read12_F x ln' r _ hr rfl hR h
  · rw [hg, h0] at h
    exact read12_N x (f n) ln' r _ _ hr rfl hR h
end Go.Proofs.YtdcoomeagbjhlaaDoor.Lk
