/- The stretches of a row, as an iterator: what is handed out. By the prover of this seat. -/
import Derived.RangeFuncNested
import Derived.RangeFuncBound
import Derived.RangeFuncCalls
import Derived.RangeFuncLeaves
import Derived.Shelf.Abstract
import Derived.Shelf.RegionOpen
import Derived.WalkKit
import Derived.OwnWalkIn
import Derived.TacticsInMore
import Derived.LoopNIn
import Derived.LoopIn
import Derived.Test.YtcnlgdbmcdlknaaIe
set_option linter.unusedVariables false
set_option linter.unusedSimpArgs false
set_option maxRecDepth 100000
set_option maxHeartbeats 4000000
namespace Go.Proofs.Ytcnlgdbmcdlknaa.Bn
open Go.RowKit Go.Shelf Go.Pm
attribute [local go_sem] Oper.semAt_some
noncomputable def spY : Code := seq2 (seq2 (inn (seq2 spL)))
noncomputable def o7 : Array Oper := regA (seq1 spY)
def posA (o : Array Oper) (i : Nat) : String := match o[i]? with
  | some x => x.pos
  | none => ""
theorem spY_eq : spY = .seq (.region 7 #[⟨some 59, .move (.tmp 0), 81, posA o7 0, #[], none⟩, ⟨some 60, .load 57 (.tmp 4), 57, posA o7 1, #[], none⟩, ⟨some 61, .call ⟨.value (.tmp 59), #[.tmp 60], #[57]⟩, 4, posA o7 2, #[⟨0, .data⟩, ⟨1, .data⟩], none⟩, ⟨some 62, .unOp .not 4 (.tmp 61), 4, posA o7 3, #[⟨2, .data⟩], none⟩] false) (.cond (.tmp 62) .ret .skip) := by kernel_rfl
theorem kp3 {t t' : Array Value} (h0 : t'[0]? = t[0]?) (h1 : t'[1]? = t[1]?) (h2 : t'[2]? = t[2]?) (i : Tmp) (hi : spK i = false) : t'[i]? = t[i]? := by
  match i, hi with
  | 0, _ => exact h0
  | 1, _ => exact h1
  | 2, _ => exact h2
  | n + 3, hi =>
    have : decide (3 ≤ n + 3) = false := hi
    rw [decide_eq_false_iff_not] at this
    exact absurd (Nat.le_add_left 3 n) this
theorem sp_yield (l : Nat) (a : Act) (W : World) (hsz : a.tmps.size = 63) (hd : a.defers = []) (h0 : a.tmps[0]? = some (.func (.yield l) #[] #[])) (b4 p4 : Nat) (h4 : a.tmps[4]? = some (.pointer (some ⟨b4, p4, none⟩))) (x y : Int) (c0 : W.cell? ⟨b4, p4, none⟩ = some (.int .i64 x)) (c1 : W.cell? ⟨b4, p4 + 1, none⟩ = some (.int .i64 y))
    (R : Ending → World → Prop) (hY : YieldAt Fence.wide 0 Try.prog l #[.agg #[.int .i64 x, .int .i64 y]] W R) (hR : ∀ e W', R e W' → e = .returned (.bool true) ∨ e = .returned (.bool false)) (Q : Exit → Act → World → Prop)
    (hT : ∀ a' W', R (.returned (.bool true)) W' → Kp spK a a' → a'.tmps[3]? = a.tmps[3]? → Q .normal a' W') (hF : ∀ a' W', R (.returned (.bool false)) W' → Kp spK a a' → Q .ret a' W') : Code.wpIn Fence.wide 0 Try.prog spY Q a W := by
  rw [spY_eq]
  obtain ⟨t, d⟩ := a
  obtain rfl : d = [] := hd
  obtain ⟨L, rfl⟩ : ∃ L : List Value, t = L.toArray := ⟨t.toList, by simp⟩
  have hL : L.length = 63 := by simpa using hsz
  match L, hL with
  | x0 :: x1 :: x2 :: x3 :: x4 :: x5 :: x6 :: x7 :: x8 :: x9 :: x10 :: x11 :: x12 :: x13 :: x14 :: x15 :: x16 :: x17 :: x18 :: x19 :: x20 :: x21 :: x22 :: x23 :: x24 :: x25 :: x26 :: x27 :: x28 :: x29 :: x30 :: x31 :: x32 :: x33 :: x34 :: x35 :: x36 :: x37 :: x38 :: x39 :: x40 :: x41 :: x42 :: x43 :: x44 :: x45 :: x46 :: x47 :: x48 :: x49 :: x50 :: x51 :: x52 :: x53 :: x54 :: x55 :: x56 :: x57 :: x58 :: x59 :: x60 :: x61 :: x62 :: [], _ =>
    obtain rfl := Option.some.inj h0
    obtain rfl := Option.some.inj h4
    clear h0 h4 hsz
    gi_wp2
    obtain ⟨fn, tmps, assign, body, hy, hR2⟩ := hY
    rw [hy]
    refine ⟨fun h => (by simp [Fence.wide] at h), hR2.mono ?_⟩
    intro e V' hr
    rcases hR e V' hr with rfl | rfl
    · gi_wp2
      exact hT _ _ hr ⟨kp3 rfl rfl rfl, rfl, rfl⟩ rfl
    · gi_wp2
      exact hF _ _ hr ⟨kp3 rfl rfl rfl, rfl, rfl⟩
end Go.Proofs.Ytcnlgdbmcdlknaa.Bn
