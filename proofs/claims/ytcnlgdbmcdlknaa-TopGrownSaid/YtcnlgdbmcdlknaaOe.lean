/- Any rectangles made one list: the whole, from its loops. By the prover of this seat. -/
import Derived.Test.YtcnlgdbmcdlknaaOd
set_option linter.unusedVariables false
set_option linter.unusedSimpArgs false
set_option maxRecDepth 100000
set_option maxHeartbeats 4000000
namespace Go.Proofs.Ytcnlgdbmcdlknaa.Bn
open Go.RowKit Go.Pm
theorem pr4 (A B C : Bk) (o : List Rc) (n : Nat) : ([2].all fun i => (Option.map pureB [A, B, Bk.arr n (o.flatMap eR) 0, C][i]?).getD false) = true := by
  have h : ([2].all fun i => (Option.map pureB [A, B, Bk.arr n (o.flatMap eR) 0, C][i]?).getD false) = (pureB (Bk.arr n (o.flatMap eR) 0) && true) := rfl
  rw [h, pr]
  rfl
theorem clip_ok (m : Nat) (o : List Rc) : CallH Try.prog G0 28 [.osl 0 0 m 4] [.arr (m * 4) (o.flatMap eR) 0] (.osl 0 0 m 4) [.arr (m * 4) (o.flatMap eR) 0] := by
  exact callH_cast (fnRun_ok (hs := hint [((1,5), {sym := true})]) (r := (AV.osl 0 0 ((↑m : Int) - (0 : Int)).toNat 4)) (H' := [Bk.arr (m * 4) (List.flatMap eR o) 0]) (ps := [(decide ((0 : Int) ≤ (0 : Int) ∧ (0 : Int) ≤ (↑m : Int) ∧ (↑m : Int) ≤ (↑m : Int) ∧ (↑m : Int) ≤ (↑m : Int)) && true) = true]) (by kernel_rfl) ⟨(by (simp; done)), trivial⟩).1 (by rfl) rfl
def mn0 (v : AV) (ys : List Int) : St := ⟨mkT 134 [(2, .ptr 0 0), (3, v), (6, slI ys), (7, .ptr 1 0), (8, .osl 2 0 0 4), (9, i64 0), (10, i64 0), (11, i64 0)], [.arr 1 [.sl 0 []] 0, .arr 1 [.osl 3 0 0 4] 0, .arr 0 [] 0, .arr 0 [] 0]⟩
theorem mn_start (L : List Rc) (ys : List Int) {st' : St} {e : Ex} (h : LoopT C0 mnB (mnS L ys 0 0 0 [] 0 0 [] 0) e st') : LoopT C0 mnB (mn0 (slR L) ys) e st' :=
  LoopT.forget (f := { ks := [2, 3, 6, 7, 8, 9, 10, 11], l := [0, 1, 3, 2], mx := [1] }) h ⟨by kernel_rfl, rfl, rfl, rfl, trivial⟩
theorem of_0 (l ks L : List Rc) (ys : List Int) (i ab nx : Nat) (o : List Rc) (m : Nat) (row : List Rc) (n : Nat)
    (hLg : LoopT C0 ofB (ofS l 0 0 []) (.exit 0) (ofS l l.length ks.length ks))
    (hS : CallH Try.prog G0 18 [.osl 0 0 ks.length 4, .fn (.func 19) [] []] [.arr (ks.length * 4) (ks.flatMap eR) 0] (.tup []) [.arr (ks.length * 4) (L.flatMap eR) 0])
    (hE : PT 22 [(.sl ks.length ((((L.flatMap eR).drop 0)).take (ks.length * 4)))] (slI ys)) (hLm : LoopT C0 mnB (mn0 (.sl ks.length ((((L.flatMap eR).drop 0)).take (ks.length * 4))) ys) (.exit 2) (mnS L ys i ab nx o m m row n)) : PT 5 [slR l] (A [.sl m ((((o.flatMap eR).drop 0)).take (m * 4))]) := by
  have hc := clip_ok m o
  exact pure_said (hs := hint [((3,1000), {loop := some ({ ks := [2, 18, 19, 20], l := [0], mx := [0], gh := [(3, 4)] }, ofS l 0 0 [], Ex.exit 0, ofS l l.length ks.length ks)}), ((8,1), {sub := some ([1], [true], [true], AV.tup [], [Bk.arr (ks.length * 4) (List.flatMap eR L) 0])}), ((9,2000), { frz := [1] }), ((9,1), {call := some ((slI ys))}), ((14,1000), {loop := some ({ ks := [2, 3, 6, 7, 9, 10, 11], l := [0, 2], mx := [2], gh := [(8, 4)], gc := [(2, (0, 4))] }, mn0 (AV.sl ks.length (List.take (ks.length * 4) (List.drop 0 (List.flatMap eR L)))) ys, Ex.exit 2, mnS L ys i ab nx o m m row n)}), ((35,1), {sub := some ([2], [true], [true], (AV.osl 0 0 m 4), [Bk.arr (m * 4) (List.flatMap eR o) 0])})]) (ps := [ofS l 0 0 [] = ofS l 0 0 [], _, true = true, _, pureB (Bk.arr (ks.length * 4) (List.flatMap eR ks) 0) = true, pureB (Bk.arr (ks.length * 4) (List.flatMap eR L) 0) = true, pureB (Bk.arr (ks.length * 4) (List.flatMap eR L) 0) = true, _, mn0 (AV.sl ks.length (List.take (ks.length * 4) (List.drop 0 (List.flatMap eR L)))) ys = mn0 (AV.sl ks.length (List.take (ks.length * 4) (List.drop 0 (List.flatMap eR L)))) ys, _, true = true, true = true, _, pureB (Bk.arr (m * 4) (List.flatMap eR o) 0) = true, pureB (Bk.arr (m * 4) (List.flatMap eR o) 0) = true, ([2].all fun (i : Nat) => (Option.map pureB [Bk.arr 1 [AV.osl 2 0 m 4] 0, Bk.arr 1 [AV.osl 2 0 m 4] 0, Bk.arr (m * 4) (List.flatMap eR o) 0, Bk.arr (n * 4) (List.flatMap eR row) 0][i]?).getD false) = true, true = true]) (by kernel_rfl) ⟨rfl, hLg, rfl, (hS), (by exact pr _ _ _), (by exact pr _ _ _), (by exact pr _ _ _), (hE), rfl, hLm, rfl, rfl, (hc), (by exact pr _ _ _), (by exact pr _ _ _), (by exact pr4 _ _ _ _ _), rfl, trivial⟩
end Go.Proofs.Ytcnlgdbmcdlknaa.Bn
