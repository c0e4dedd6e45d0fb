/- The law of a full store upon plain values. By the prover of this seat. -/
import Derived.Test.YtkgiphabcopioaaFh
set_option linter.unusedVariables false
set_option maxRecDepth 100000
namespace Go.Proofs.Ytkgiphabcopioaa
open Go.RowKit Go.Pm
noncomputable def fBody : Code := loopOf Try.prog 4 3
def fDev (ws : List Inp) : Dev := { Dev.zero with frozen := true, waits := ws }
def fFg : Fg := { ks := [1, 9], l := [0] }
def fSt (k : Int) (ws : List Inp) : St := ⟨mkT 44 [(1, .ptr 0 0), (9, i64 k)], [.arr 19 (devL (fDev ws)) 0]⟩
def mv (n : Int) : Inp := ⟨5, 0, 0, 0, 0, n⟩
theorem fLoop : ∀ (n k : Nat) (pre : List Inp), pre.length = k → k + n = 256 → ∃ pre', pre'.length = 256 ∧ LoopT C0 fBody (fSt k pre) (.exit 0) (fSt 256 pre') := by
  intro n
  induction n with
  | zero =>
    intro k pre hl hk
    have hk' : k = 256 := by omega
    subst hk'
    exact ⟨pre, hl, LoopT.fin (hs := hint []) (f := fFg) (ps := [true = true, true = true]) (by kernel_rfl) ⟨rfl, rfl, trivial⟩ (by decide)⟩
  | succ n ih =>
    intro k pre hl hk
    obtain ⟨pre', h1, h2⟩ := ih (k + 1) (pre ++ [mv k]) (by simp [hl]) (by omega)
    refine ⟨pre', h1, LoopT.go (hs := hint [((3,0), {val := some (bl true)}), ((5,2), {call := some (A (inpL (mv k)))}), ((5, 3), {call := some (.tup [A (devL (fDev (pre ++ [mv k]))), i64 0])}), ((9,0), {val := some (i64 ((k + 1 : Nat) : Int))})]) (f := fFg)
      (ps := [bl (decide ((k : Int) < 256)) = bl true, Pu 16 [i64 k] (A (inpL (mv k))), Pu 10 [A (devL (fDev pre)), A (inpL (mv k))] (.tup [A (devL (fDev (pre ++ [mv k]))), i64 0]), i64 (IntKind.i64.wrap ((k : Int) + 1)) = i64 ((k + 1 : Nat) : Int), true = true, true = true])
      (by kernel_rfl) ⟨by rw [decide_t (by omega)], move_ok _, feed_ok (fDev pre) _ (by show pre.length < 256; omega), i64_wrap (by omega) (by omega), rfl, rfl, trivial⟩ h2⟩
theorem full_ok : Pu 4 [] (bl true) := by
  obtain ⟨pre, hp, hl⟩ := fLoop 256 0 [] rfl rfl
  exact pure_of (hs := hint [((1,1), {call := some (A (devL (fDev [])))}), ((3,1000), {loop := some (fFg, fSt 0 [], .exit 0, fSt 256 pre)}), ((10,1), {call := some (A (inpL (mv 256)))}), ((10,2), {call := some (.tup [A (devL (fDev pre)), i64 12])}),
      ((11,4), {call := some (slI pre)}), ((11,6), {val := some (bl true)}), ((11,10), {call := some (bl true)}), ((11,13), {call := some (bl true)})])
    (ps := [Pu 15 [A (devL Dev.zero)] (A (devL (fDev []))), fSt 0 [] = fSt 0 [], LoopT C0 fBody (fSt 0 []) (.exit 0) (fSt 256 pre), true = true, true = true, Pu 16 [i64 256] (A (inpL (mv 256))), Pu 10 [A (devL (fDev pre)), A (inpL (mv 256))] (.tup [A (devL (fDev pre)), i64 12]),
      Pu 14 [A (devL (fDev pre))] (slI pre), bl ((pre.length : Int) == 256) = bl true, Pu 13 [A (devL (fDev pre))] (bl true), Pu 8 [] (bl true)])
    (by kernel_rfl) ⟨freeze_ok _, rfl, hl, rfl, rfl, move_ok _, feed_full (fDev pre) _ (by show 256 ≤ pre.length; omega), waiting_ok (fDev pre) (by show pre.length ≤ 2000000; omega), by rw [hp]; rfl, frozen_ok _, awake_ok, trivial⟩
end Go.Proofs.Ytkgiphabcopioaa
