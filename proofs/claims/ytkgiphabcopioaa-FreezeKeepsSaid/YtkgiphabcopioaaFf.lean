/- The law's own wakefulness. By the prover of this seat. -/
import Derived.Test.YtkgiphabcopioaaFe
import Derived.Test.YtkgiphabcopioaaPm31
set_option linter.unusedVariables false
set_option maxRecDepth 100000
namespace Go.Proofs.Ytkgiphabcopioaa
open Go.RowKit Go.Pm
noncomputable def C0 : Cx := ⟨Try.prog, G0, 0⟩
noncomputable def aBody : Code := loopOf Try.prog 8 3
def aIn : List Inp := [⟨5, 0, 0, 0, 0, 1⟩, ⟨3, 1, 0, 0, 0, 2⟩, ⟨3, 1, 0, 0, 0, 3⟩]
def aDev (ws : List Inp) : Dev := { Dev.zero with act := { Grab.zero with client := 1 }, grabbed := true, frozen := true, waits := ws }
def aFg : Fg := { ks := [1, 17, 18, 19], l := [0, 1] }
def aSt (k : Int) (ws : List Inp) : St := ⟨mkT 78 [(1, .ptr 0 0), (17, .osl 1 0 3 6), (18, i64 3), (19, i64 k)], [.arr 19 (devL (aDev ws)) 0, .arr 18 (inpsL aIn) 0]⟩
def aEnd (ws : List Inp) : St := ⟨mkT 78 [(1, .ptr 0 0), (17, .osl 1 0 3 6), (18, i64 3), (19, i64 3)], [.arr 19 (devL (aDev ws)) 0, .arr 18 (inpsL aIn) 0]⟩
def aStep (ws : List Inp) (i : Inp) : Nat → Nat → Hint := hint [((5, 2), { call := some (.tup [A (devL (aDev (ws ++ [i]))), i64 0]) })]
theorem aFeed (ws : List Inp) (i : Inp) (h : ws.length < 256) : Pu 10 [A (devL (aDev ws)), A (inpL i)] (.tup [A (devL (aDev (ws ++ [i]))), i64 0]) := feed_ok (aDev ws) i h
theorem aLoop : LoopT C0 aBody (aSt 0 []) (.exit 0) (aEnd aIn) := by
  refine LoopT.go (hs := aStep [] ⟨5, 0, 0, 0, 0, 1⟩) (f := aFg) (st2 := aSt 1 [⟨5, 0, 0, 0, 0, 1⟩]) (ps := [Pu 10 [A (devL (aDev [])), A (inpL ⟨5, 0, 0, 0, 0, 1⟩)] (.tup [A (devL (aDev [⟨5, 0, 0, 0, 0, 1⟩])), i64 0]), true = true, true = true, true = true]) (by kernel_rfl) ⟨aFeed [] _ (by decide), rfl, rfl, rfl, trivial⟩ ?_
  refine LoopT.go (hs := aStep [⟨5, 0, 0, 0, 0, 1⟩] ⟨3, 1, 0, 0, 0, 2⟩) (f := aFg) (st2 := aSt 2 [⟨5, 0, 0, 0, 0, 1⟩, ⟨3, 1, 0, 0, 0, 2⟩]) (ps := [Pu 10 [A (devL (aDev [⟨5, 0, 0, 0, 0, 1⟩])), A (inpL ⟨3, 1, 0, 0, 0, 2⟩)] (.tup [A (devL (aDev [⟨5, 0, 0, 0, 0, 1⟩, ⟨3, 1, 0, 0, 0, 2⟩])), i64 0]), true = true, true = true, true = true]) (by kernel_rfl) ⟨aFeed [⟨5, 0, 0, 0, 0, 1⟩] _ (by decide), rfl, rfl, rfl, trivial⟩ ?_
  refine LoopT.go (hs := aStep [⟨5, 0, 0, 0, 0, 1⟩, ⟨3, 1, 0, 0, 0, 2⟩] ⟨3, 1, 0, 0, 0, 3⟩) (f := aFg) (st2 := aSt 3 aIn) (ps := [Pu 10 [A (devL (aDev [⟨5, 0, 0, 0, 0, 1⟩, ⟨3, 1, 0, 0, 0, 2⟩])), A (inpL ⟨3, 1, 0, 0, 0, 3⟩)] (.tup [A (devL (aDev aIn)), i64 0]), true = true, true = true, true = true]) (by kernel_rfl) ⟨aFeed [⟨5, 0, 0, 0, 0, 1⟩, ⟨3, 1, 0, 0, 0, 2⟩] _ (by decide), rfl, rfl, rfl, trivial⟩ ?_
  exact LoopT.fin (hs := hint []) (f := aFg) (ps := [true = true, true = true, true = true]) (by kernel_rfl) ⟨rfl, rfl, rfl, trivial⟩ (by decide)
def aD1 : Dev := (aDev aIn).stepD
def aD2 : Dev := { aD1 with waits := aIn.drop 1 }
def aD3 : Dev := { aD1 with frozen := true, steps := false, waits := aIn.drop 2 }
theorem awake_ok : Pu 8 [] (bl true) :=
  pure_of (hs := hint [((1, 2), {call := some (A (devL (aDev [])))}), ((2, 0), {call := some (A (inpL ⟨5, 0, 0, 0, 0, 1⟩))}), ((2, 1), {call := some (A (inpL ⟨3, 1, 0, 0, 0, 2⟩))}), ((2, 2), {call := some (A (inpL ⟨3, 1, 0, 0, 0, 3⟩))}),
      ((3, 1000), {loop := some (aFg, aSt 0 [], .exit 0, aEnd aIn)}),
      ((7, 1), {call := some (res3 (aD1, Inp.zero, false))}), ((8, 1), {call := some (res3 (aD2, ⟨5, 0, 0, 0, 0, 1⟩, true))}), ((9, 1), {call := some (res3 (aD3, ⟨3, 1, 0, 0, 0, 2⟩, true))}), ((10, 1), {call := some (res3 (aD3, Inp.zero, false))}), ((11, 20), {call := some (slI (aIn.drop 2))})])
    (ps := [Pu 9 [A (devL Dev.zero), A (actL { Grab.zero with client := 1 }), bl true] (A (devL (aDev []))), Pu 16 [i64 1] (A (inpL ⟨5, 0, 0, 0, 0, 1⟩)), Pu 22 [i64 2] (A (inpL ⟨3, 1, 0, 0, 0, 2⟩)), Pu 22 [i64 3] (A (inpL ⟨3, 1, 0, 0, 0, 3⟩)),
      aSt 0 [] = aSt 0 [], LoopT C0 aBody (aSt 0 []) (.exit 0) (aEnd aIn), true = true, true = true, true = true,
      Pu 11 [A (devL (aDev aIn)), i64 1] (res3 (aD1, Inp.zero, false)), Pu 12 [A (devL aD1)] (res3 (aD2, ⟨5, 0, 0, 0, 0, 1⟩, true)), Pu 12 [A (devL aD2)] (res3 (aD3, ⟨3, 1, 0, 0, 0, 2⟩, true)), Pu 12 [A (devL aD3)] (res3 (aD3, Inp.zero, false)), Pu 14 [A (devL aD3)] (slI (aIn.drop 2))])
    (by kernel_rfl) ⟨begin_ok _ _ _, move_ok _, press_ok _, press_ok _, rfl, aLoop, rfl, rfl, rfl, allow_ok (aDev aIn) 1, next_ok aD1 (by decide), next_ok aD2 (by decide), next_ok aD3 (by decide), waiting_ok aD3 (by decide), trivial⟩
end Go.Proofs.Ytkgiphabcopioaa
