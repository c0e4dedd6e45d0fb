/- Devices, inputs, grabs as plain values; what the functions of the chapter make of them. By the prover of this seat. -/
import Derived.Test.YtkgiphabcopioaaRows
import Derived.Test.YtkgiphabcopioaaPm29
set_option linter.unusedVariables false
set_option maxRecDepth 100000
namespace Go.Proofs.Ytkgiphabcopioaa
open Go.RowKit Go.Pm
def G0 : Nat → Option (List AV) := fun _ => none
def i64 (n : Int) : AV := .s (.int .i64 n)
def u32 (n : Int) : AV := .s (.int .u32 n)
def u8 (n : Int) : AV := .s (.int .u8 n)
def bl (b : Bool) : AV := .s (.bool b)
structure Grab where
  client : Int
  window : Int
  owner : Bool
  mask : Int
  auto : Bool
  passive : Bool
  code : Int
  time : Int
  deriving DecidableEq
structure Inp where
  kind : Int
  code : Int
  x : Int
  y : Int
  time : Int
  count : Int
  deriving DecidableEq
structure Dev where
  act : Grab
  grabbed : Bool
  frozen : Bool
  steps : Bool
  held : Inp
  holds : Bool
  waits : List Inp
  deriving DecidableEq
def Inp.zero : Inp := ⟨0, 0, 0, 0, 0, 0⟩
def Grab.zero : Grab := ⟨0, 0, false, 0, false, false, 0, 0⟩
def Dev.zero : Dev := ⟨Grab.zero, false, false, false, Inp.zero, false, []⟩
def actL (a : Grab) : List AV := [i64 a.client, u32 a.window, bl a.owner, i64 a.mask, bl a.auto, bl a.passive, i64 a.code, u32 a.time]
def inpL (i : Inp) : List AV := [i64 i.kind, i64 i.code, i64 i.x, i64 i.y, u32 i.time, i64 i.count]
def inpsL (l : List Inp) : List AV := l.flatMap inpL
def devR (d : Dev) (s : AV) : List AV := actL d.act ++ [bl d.grabbed, bl d.frozen, bl d.steps] ++ inpL d.held ++ [bl d.holds, s]
def slI (l : List Inp) : AV := .sl l.length (inpsL l)
def devL (d : Dev) : List AV := devR d (slI d.waits)
def A (cs : List AV) : AV := .agg cs
theorem len_inps (l : List Inp) : (inpsL l).length = l.length * 6 := by
  induction l with
  | nil => rfl
  | cons i l ih => simp [inpsL, inpL] at ih ⊢; omega
theorem take_inps (l : List Inp) : (inpsL l).take (l.length * 6) = inpsL l := List.take_of_length_le (by rw [len_inps]; exact Nat.le_refl _)
theorem pure_inps (l : List Inp) : (inpsL l).all pureC = true := by
  simp only [inpsL, List.all_flatMap]
  simp [inpL, i64, u32, pureC]
theorem inps_append (l m : List Inp) : inpsL (l ++ m) = inpsL l ++ inpsL m := by simp [inpsL]
theorem inps_drop (l : List Inp) (n : Nat) : (inpsL l).drop (n * 6) = inpsL (l.drop n) := by
  induction n generalizing l with
  | zero => simp
  | succ n ih =>
    cases l with
    | nil => simp [inpsL]
    | cons i l =>
      rw [show (n + 1) * 6 = 6 + n * 6 by omega, ← List.drop_drop]
      exact ih l
abbrev Pu (f : FuncId) (args : List AV) (r : AV) : Prop := Pure Try.prog G0 f args r []
theorem begin_ok (d : Dev) (a : Grab) (fr : Bool) : Pu 9 [A (devL d), A (actL a), bl fr] (A (devL { Dev.zero with act := a, grabbed := true, frozen := fr, waits := d.waits })) := pure_of (hs := hint []) (ps := []) (by kernel_rfl) trivial
theorem active_ok (d : Dev) : Pu 19 [A (devL d)] (.tup [A (actL d.act), bl d.grabbed]) := pure_of (hs := hint []) (ps := []) (by kernel_rfl) trivial
theorem end_ok (d : Dev) : Pu 17 [A (devL d)] (A (devL { Dev.zero with waits := d.waits })) := pure_of (hs := hint []) (ps := []) (by kernel_rfl) trivial
theorem frozen_ok (d : Dev) : Pu 13 [A (devL d)] (bl d.frozen) := pure_of (hs := hint []) (ps := []) (by kernel_rfl) trivial
theorem stepping_ok (d : Dev) : Pu 32 [A (devL d)] (bl d.steps) := pure_of (hs := hint []) (ps := []) (by kernel_rfl) trivial
theorem freeze_ok (d : Dev) : Pu 15 [A (devL d)] (A (devL { d with frozen := true, steps := false })) := pure_of (hs := hint []) (ps := []) (by kernel_rfl) trivial
theorem hold_ok (d : Dev) (i : Inp) : Pu 18 [A (devL d), A (inpL i)] (A (devL { d with held := i, holds := true })) := pure_of (hs := hint []) (ps := []) (by kernel_rfl) trivial
theorem move_ok (n : Int) : Pu 16 [i64 n] (A (inpL ⟨5, 0, 0, 0, 0, n⟩)) := pure_of (hs := hint []) (ps := []) (by kernel_rfl) trivial
theorem press_ok (n : Int) : Pu 22 [i64 n] (A (inpL ⟨3, 1, 0, 0, 0, n⟩)) := pure_of (hs := hint []) (ps := []) (by kernel_rfl) trivial
theorem thaw_ok (d : Dev) : Pu 23 [A (devL d)] (.tup [A (devL { d with frozen := false, steps := false, held := Inp.zero, holds := false }), A (inpL Inp.zero), bl false]) := pure_of (hs := hint []) (ps := []) (by kernel_rfl) trivial
end Go.Proofs.Ytkgiphabcopioaa
