/- requests, the iterator: the walk. By the prover of this seat. -/
import Derived.RangeFuncNested
import Derived.RangeFuncBound
import Derived.RangeFuncCalls
import Derived.RangeFuncLeaves
import Derived.Shelf.Abstract
import Derived.Shelf.RegionOpen
import Derived.WalkKit
import Derived.OwnWalkIn
import Derived.TacticsInMore
import Derived.LoopNIn
import Derived.LoopIn
import Derived.Test.YtcnlgdbmcdlknaaDoorYi
import Derived.Test.YtcnlgdbmcdlknaaDoorZb
set_option linter.unusedVariables false
set_option linter.unusedSimpArgs false
set_option maxRecDepth 100000
set_option maxHeartbeats 4000000
namespace Go.Proofs.YtcnlgdbmcdlknaaDoor.Fo
open Go.RowKit Go.Shelf Go.Pm
def regOf : Code → Code
  | .seq a b => match regOf a with
    | .skip => regOf b
    | c => c
  | .block _ b => regOf b
  | .loop b => regOf b
  | .region 2 ops d => .region 2 ops d
  | _ => .skip
def regA : Code → Array Oper
  | .region _ ops _ => ops
  | _ => #[]
noncomputable def itC2 : Code := regOf (match Tryd.prog.funcs[51]? with | some fn => fn.body.getD .skip | none => .skip)
noncomputable def itOps : Array Oper := regA itC2
theorem it_code : itC2 = .region 2 itOps true := by kernel_rfl
def itT (b : ByteArray) (o p : Int) : St := ⟨mkT 32 [(1, .fptr [st b]), (2, .fptr [i64 o]), (4, i64 p)], []⟩
def itU (n : Int) : St := ⟨mkT 32 [(5, i64 n)], []⟩
def itD (i : Tmp) : Bool := decide (i = 5 ∨ i = 6 ∨ (12 ≤ i ∧ i ≤ 19))
theorem nd_p {x : Value} {W w' : World} {d : Deferred} : (pure (Next.value x) : Sem Next).run Tryd.prog W ≠ .ok (.defer d) w' := by
  rw [Sem.run_pure]
  intro h
  cases h
theorem it_size : itOps.size = 10 := by kernel_rfl
theorem it_nd (i : Nat) (op : Oper) (h : itOps[i]? = some op) : NDf Tryd.prog op := by
  match i, h with
  | 0, h => cases h; exact fun ev W d w' => nd_v
  | 1, h => cases h; exact fun ev W d w' => nd_v
  | 2, h => cases h; exact fun ev W d w' => nd_p
  | 3, h => cases h; exact fun ev W d w' => nd_v
  | 4, h =>
    cases h
    intro ev W d w' q
    have he : ∀ args w, (callFunc 36 args).run Tryd.prog w = .ok (.enter 36 args) w := fun args w => enters_of Tryd.func36 (by kernel_rfl) rfl args w
    change Sem.run Tryd.prog (do let d ← resolve ev.eval _ _; invoke d.target d.args) W = _ at q
    simp [resolve, Deferred.ofValue, invoke, go_sem, he] at q
  | 5, h => cases h; exact fun ev W d w' => nd_p
  | 6, h => cases h; exact fun ev W d w' => nd_v
  | 7, h => cases h; exact fun ev W d w' => nd_v
  | 8, h => cases h; exact fun ev W d w' => nd_p
  | 9, h => cases h; exact fun ev W d w' => nd_p
  | i + 10, h =>
    have := (Array.getElem?_eq_some_iff.1 h).1
    rw [it_size] at this
    omega
theorem it_keep (o n : Int) (b : ByteArray) (k : Nat) (hk : k ≤ b.size) (hs : b.size ≤ 1000000) (hl : Pu 36 [i64 o, st (b.extract k b.size)] (.tup [i64 n, i64 0])) :
    ∀ w0 ρ M a W, Rel C1 w0 ρ M (itT b o k) a W → (Code.region 2 itOps true).wp Tryd.prog (fun x a' W' => After C1 w0 ρ M .normal (itU n) x a' W' ∧ Kp itD a a') a W :=
  regK_ok (C := C1) (hs := hint [((2,3), {sym := true}), ((2,4), {call := some (AV.tup [(i64 n), (i64 (0 : Int))])})]) (f := { ks := [5] }) (ps := [(decide ((0 : Int) ≤ (↑k : Int) ∧ (↑k : Int) ≤ (↑b.size : Int) ∧ (↑b.size : Int) ≤ (↑b.size : Int) ∧ (↑b.size : Int) ≤ (↑b.size : Int)) && true) = true, _, true = true]) (by kernel_rfl) ⟨(by (simp; omega)), (hl), rfl, trivial⟩ itD (by kernel_rfl) it_nd
end Go.Proofs.YtcnlgdbmcdlknaaDoor.Fo
