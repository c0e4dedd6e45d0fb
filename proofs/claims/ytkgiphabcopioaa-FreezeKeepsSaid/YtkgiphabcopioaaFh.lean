/- The law of replays upon plain values. By the prover of this seat. -/
import Derived.Test.YtkgiphabcopioaaFg
set_option linter.unusedVariables false
set_option maxRecDepth 100000
namespace Go.Proofs.Ytkgiphabcopioaa
open Go.RowKit Go.Pm
theorem act_same (a : Grab) : (a.client == a.client && (a.window == a.window && (a.owner == a.owner && (a.mask == a.mask && (a.auto == a.auto && (a.passive == a.passive && (a.code == a.code && (a.time == a.time && true)))))))) = true := by simp
theorem inp_same (i : Inp) : (i.kind == i.kind && (i.code == i.code && (i.x == i.x && (i.y == i.y && (i.time == i.time && (i.count == i.count && true)))))) = true := by simp
def rFrz (a : Grab) (i : Inp) (ws : List Inp) : Dev := { (rDev a i ws).stepD with frozen := true, steps := false }
theorem replays_ok (a : Grab) (i : Inp) (ws : List Inp) : Pu 6 [A (actL a), A (inpL i), slI ws] (bl true) := by
  by_cases hw : ws.length ≤ 60
  · exact pure_of (hs := hint [((1,2), {val := some (bl false)}), ((3,2), {call := some (A (devL { Dev.zero with act := a, grabbed := true, frozen := true }))}), ((3,4), {call := some (A (devL (rDev a i [])))}),
        ((5, 1000), {loop := some (rFg, rSt a i ws 0 [], .exit 0, rSt a i ws (ws.length : Nat) ws)}), ((9,1), {call := some (.tup [A (actL a), bl true])}), ((10,5), {val := some (bl false)}),
        ((12,1), {call := some (res3 ((rDev a i ws).endD, i, true))}), ((13,1), {call := some (res3 ((rDev a i ws).endD, Inp.zero, false))}), ((14,1), {call := some (.tup [A (actL Grab.zero), bl false])}),
        ((15,1), {call := some (res3 ((rDev a i ws).stepD, Inp.zero, false))}), ((16,1), {call := some (A (devL (rFrz a i ws)))}), ((16,2), {call := some (res3 (rFrz a i ws, Inp.zero, false))}),
        ((17,4), {val := some (bl true)}), ((17,21), {call := some (bl false)}), ((17,26), {call := some (slI ws)}), ((17,30), {val := some (bl true)}), ((17,41), {call := some (bl true)})])
      (ps := [bl (decide ((ws.length : Int) > 60)) = bl false,
        Pu 9 [A (devL Dev.zero), A (actL a), bl true] (A (devL { Dev.zero with act := a, grabbed := true, frozen := true })),
        Pu 18 [A (devL { Dev.zero with act := a, grabbed := true, frozen := true }), A (inpL i)] (A (devL (rDev a i []))),
        rSt a i ws 0 [] = rSt a i ws 0 [], LoopT C0 rBody (rSt a i ws 0 []) (.exit 0) (rSt a i ws (ws.length : Nat) ws), true = true, true = true, true = true, true = true,
        Pu 19 [A (devL (rDev a i ws))] (.tup [A (actL a), bl true]),
        bl (!(a.client == a.client && (a.window == a.window && (a.owner == a.owner && (a.mask == a.mask && (a.auto == a.auto && (a.passive == a.passive && (a.code == a.code && (a.time == a.time && true))))))))) = bl false,
        Pu 11 [A (devL (rDev a i ws)), i64 2] (res3 ((rDev a i ws).endD, i, true)), Pu 11 [A (devL (rDev a i ws).endD), i64 2] (res3 ((rDev a i ws).endD, Inp.zero, false)),
        Pu 19 [A (devL (rDev a i ws).endD)] (.tup [A (actL Grab.zero), bl false]), Pu 11 [A (devL (rDev a i ws)), i64 1] (res3 ((rDev a i ws).stepD, Inp.zero, false)),
        Pu 15 [A (devL (rDev a i ws).stepD)] (A (devL (rFrz a i ws))), Pu 11 [A (devL (rFrz a i ws)), i64 2] (res3 (rFrz a i ws, Inp.zero, false)),
        bl (i.kind == i.kind && (i.code == i.code && (i.x == i.x && (i.y == i.y && (i.time == i.time && (i.count == i.count && true)))))) = bl true,
        Pu 13 [A (devL (rDev a i ws).endD)] (bl false), Pu 14 [A (devL (rDev a i ws).endD)] (slI ws), bl ((ws.length : Int) == (ws.length : Int)) = bl true, Pu 8 [] (bl true)])
      (by kernel_rfl) ⟨by rw [decide_eq_false (by omega)], begin_ok _ _ _, hold_ok _ _, rfl, rLoop a i ws hw ws [] rfl, rfl, rfl, rfl, rfl, active_ok _, by rw [act_same]; rfl, allow_ok _ _, allow_ok _ _, active_ok _, allow_ok _ _, freeze_ok _, allow_ok _ _, by rw [inp_same], frozen_ok _, waiting_ok (rDev a i ws).endD (by show ws.length ≤ 2000000; omega), by rw [beq_self_eq_true], awake_ok, trivial⟩
  · exact pure_of (hs := hint [((1,2), {val := some (bl true)}), ((2,0), {call := some (bl true)})]) (ps := [bl (decide ((ws.length : Int) > 60)) = bl true, Pu 8 [] (bl true)]) (by kernel_rfl) ⟨by rw [decide_t (by omega)], awake_ok, trivial⟩
/-! What comes in -/
def shInp : Sh := .seq (.int .i64) (.seq (.int .i64) (.seq (.int .i64) (.seq (.int .i64) (.seq (.int .u32) (.seq (.int .i64) .unit)))))
def shAct : Sh := .seq (.int .i64) (.seq (.int .u32) (.seq .bool (.seq (.int .i64) (.seq .bool (.seq .bool (.seq (.int .i64) (.seq (.int .u32) .unit)))))))
theorem fits_inp {cs : List AV} (h : Fits shInp cs) : ∃ i : Inp, cs = inpL i := by
  obtain ⟨_, _, rfl, ⟨a, rfl, _⟩, _, _, rfl, ⟨b, rfl, _⟩, _, _, rfl, ⟨c, rfl, _⟩, _, _, rfl, ⟨d, rfl, _⟩, _, _, rfl, ⟨e, rfl, _⟩, _, _, rfl, ⟨f, rfl, _⟩, rfl⟩ := h
  exact ⟨⟨a, b, c, d, e, f⟩, rfl⟩
theorem fits_act {cs : List AV} (h : Fits shAct cs) : ∃ i : Grab, cs = actL i := by
  obtain ⟨_, _, rfl, ⟨a, rfl, _⟩, _, _, rfl, ⟨b, rfl, _⟩, _, _, rfl, ⟨c, rfl⟩, _, _, rfl, ⟨d, rfl, _⟩, _, _, rfl, ⟨e, rfl⟩, _, _, rfl, ⟨f, rfl⟩, _, _, rfl, ⟨g, rfl, _⟩, _, _, rfl, ⟨k, rfl, _⟩, rfl⟩ := h
  exact ⟨⟨a, b, c, d, e, f, g, k⟩, rfl⟩
theorem fits_els {α : Type} {s : Sh} {enc : α → List AV} (hs : ∀ cs, Fits s cs → ∃ i, cs = enc i) (els : List (List AV)) (h : ∀ x ∈ els, Fits s x) : ∃ l : List α, els = l.map enc := by
  induction els with
  | nil => exact ⟨[], rfl⟩
  | cons x els ih =>
    obtain ⟨i, rfl⟩ := hs x (h x (List.mem_cons_self ..))
    obtain ⟨l, rfl⟩ := ih fun y hy => h y (List.mem_cons_of_mem _ hy)
    exact ⟨i :: l, rfl⟩
theorem fits_inps {a : AV} (h : Fits (.sl shInp) [a]) : ∃ l : List Inp, a = slI l ∧ l.length ≤ maxLen := by
  obtain ⟨els, he, hm, hf⟩ := h
  obtain ⟨l, rfl⟩ := fits_els (fun cs => fits_inp) els hf
  simp only [List.cons.injEq, and_true] at he
  subst he
  exact ⟨l, by simp [slI, inpsL, List.flatMap_def], by simpa using hm⟩
end Go.Proofs.Ytkgiphabcopioaa
