/-
  No cell of these rows narrows 'for every input' (looked for: loops, veiled, ifaces, maps, wideKeys, modest, calm, conditions, laid).
  DERIVED. THE GIVEN ROWS OF THIS SEAT. 5 by the template 'for every input the law returns true; each argument reads behind the call as it read before'; 0 by the template 'total and deterministic' (their statements: YtkgiphabcopioaaTotals.lean).
  GIVEN WITH THE SEED: the statements are not yours to turn. If you find one false, say at which input.
  Laid BY PROGRAM, IN A SANDBOX (cutbox-rows.mjs): the forced cells as the released guide's own fill.sh prints them over the translation 114370e39bf7edf0… (all of the seat's roots in one cut). By AI agents, Wed Nov 11 2026. No macro, syntax, notation, axiom, sorry.
-/
import Derived.Test.YtkgiphabcopioaaChecked
import GoSem.Claim
import GoSem.ClaimJoined
import GoSem.ClaimMapViews
import Derived.JoinedTies
import Derived.KernelRfl
namespace Go.Proofs.Ytkgiphabcopioaa
/- THE CELL 'sum', in the pinned program and in every row, IS THE sha256 OF THE DUMP (.gsa) THAT YtkgiphabcopioaaProg.lean LOADS. Nothing in Lean hashes anything: it is a label: what it is worth is what the hold of that sum in a sandbox is worth. -/
noncomputable def Try.pinned : Pinned := { name := "ytkgiphabcopioaa", sum := "114370e39bf7edf0783b7cee08d6ff5d81c0f651cc4e059481c319f46efd347b", checked := Try.checked }
namespace Rows
def none {H : Type} : Left H := { results := [], args := [] }

/-- 'glazierlaw39.FreezeSteps': WHATEVER THE INPUT: true; the input reads as it did. -/
def freezeStepsSpec : ChangeSpec := { name := "freezeSteps", fn := fun _ => fun
  | [d1, d2] => { results := [.lit (.bool true)], args := [d1, d2] }
  | _ => none }
def freezeStepsRow : OpenClaim := { program := "ytkgiphabcopioaa", sum := "114370e39bf7edf0783b7cee08d6ff5d81c0f651cc4e059481c319f46efd347b", func := "glazier/glazierlaw39.FreezeSteps", spec := "freezeSteps", unfollowed := true, recurses := true, apart := false }
def FreezeStepsSaid : Prop := freezeStepsRow.holds Try.pinned (OpenSpec.ofChange freezeStepsSpec)

/-- ITS FALSE NEIGHBOUR: 'it returns false'. Refute it at one input. -/
def freezeStepsWrong : ChangeSpec := { name := "freezeSteps", fn := fun _ => fun
  | [d1, d2] => { results := [.lit (.bool false)], args := [d1, d2] }
  | _ => none }
def FreezeStepsWrongFalsely : Prop := freezeStepsRow.holds Try.pinned (OpenSpec.ofChange freezeStepsWrong)

/-- 'glazierlaw39.FreezeFull': WHATEVER THE INPUT: true; the input reads as it did. -/
def freezeFullSpec : ChangeSpec := { name := "freezeFull", fn := fun _ => fun
  | [] => { results := [.lit (.bool true)], args := [] }
  | _ => none }
def freezeFullRow : OpenClaim := { program := "ytkgiphabcopioaa", sum := "114370e39bf7edf0783b7cee08d6ff5d81c0f651cc4e059481c319f46efd347b", func := "glazier/glazierlaw39.FreezeFull", spec := "freezeFull", unfollowed := true, recurses := true, apart := false }
def FreezeFullSaid : Prop := freezeFullRow.holds Try.pinned (OpenSpec.ofChange freezeFullSpec)

/-- ITS FALSE NEIGHBOUR: 'it returns false'. Refute it at one input. -/
def freezeFullWrong : ChangeSpec := { name := "freezeFull", fn := fun _ => fun
  | [] => { results := [.lit (.bool false)], args := [] }
  | _ => none }
def FreezeFullWrongFalsely : Prop := freezeFullRow.holds Try.pinned (OpenSpec.ofChange freezeFullWrong)

/-- 'glazierlaw39.FreezeKeeps': WHATEVER THE INPUT: true; the input reads as it did. -/
def freezeKeepsSpec : ChangeSpec := { name := "freezeKeeps", fn := fun _ => fun
  | [d] => { results := [.lit (.bool true)], args := [d] }
  | _ => none }
def freezeKeepsRow : OpenClaim := { program := "ytkgiphabcopioaa", sum := "114370e39bf7edf0783b7cee08d6ff5d81c0f651cc4e059481c319f46efd347b", func := "glazier/glazierlaw39.FreezeKeeps", spec := "freezeKeeps", unfollowed := true, recurses := true, apart := false }
def FreezeKeepsSaid : Prop := freezeKeepsRow.holds Try.pinned (OpenSpec.ofChange freezeKeepsSpec)

/-- ITS FALSE NEIGHBOUR: 'it returns false'. Refute it at one input. -/
def freezeKeepsWrong : ChangeSpec := { name := "freezeKeeps", fn := fun _ => fun
  | [d] => { results := [.lit (.bool false)], args := [d] }
  | _ => none }
def FreezeKeepsWrongFalsely : Prop := freezeKeepsRow.holds Try.pinned (OpenSpec.ofChange freezeKeepsWrong)

/-- 'glazierlaw39.FreezeReplays': WHATEVER THE INPUT: true; the input reads as it did. -/
def freezeReplaysSpec : ChangeSpec := { name := "freezeReplays", fn := fun _ => fun
  | [d1, d2, d3] => { results := [.lit (.bool true)], args := [d1, d2, d3] }
  | _ => none }
def freezeReplaysRow : OpenClaim := { program := "ytkgiphabcopioaa", sum := "114370e39bf7edf0783b7cee08d6ff5d81c0f651cc4e059481c319f46efd347b", func := "glazier/glazierlaw39.FreezeReplays", spec := "freezeReplays", unfollowed := true, recurses := true, apart := false }
def FreezeReplaysSaid : Prop := freezeReplaysRow.holds Try.pinned (OpenSpec.ofChange freezeReplaysSpec)

/-- ITS FALSE NEIGHBOUR: 'it returns false'. Refute it at one input. -/
def freezeReplaysWrong : ChangeSpec := { name := "freezeReplays", fn := fun _ => fun
  | [d1, d2, d3] => { results := [.lit (.bool false)], args := [d1, d2, d3] }
  | _ => none }
def FreezeReplaysWrongFalsely : Prop := freezeReplaysRow.holds Try.pinned (OpenSpec.ofChange freezeReplaysWrong)

/-- 'glazierlaw39.FreezePlays': WHATEVER THE INPUT: true; the input reads as it did. -/
def freezePlaysSpec : ChangeSpec := { name := "freezePlays", fn := fun _ => fun
  | [d] => { results := [.lit (.bool true)], args := [d] }
  | _ => none }
def freezePlaysRow : OpenClaim := { program := "ytkgiphabcopioaa", sum := "114370e39bf7edf0783b7cee08d6ff5d81c0f651cc4e059481c319f46efd347b", func := "glazier/glazierlaw39.FreezePlays", spec := "freezePlays", unfollowed := true, recurses := true, apart := false }
def FreezePlaysSaid : Prop := freezePlaysRow.holds Try.pinned (OpenSpec.ofChange freezePlaysSpec)

/-- ITS FALSE NEIGHBOUR: 'it returns false'. Refute it at one input. -/
def freezePlaysWrong : ChangeSpec := { name := "freezePlays", fn := fun _ => fun
  | [d] => { results := [.lit (.bool false)], args := [d] }
  | _ => none }
def FreezePlaysWrongFalsely : Prop := freezePlaysRow.holds Try.pinned (OpenSpec.ofChange freezePlaysWrong)

/- THE SECOND FORM. 'bulk': how many values and letters a reading holds, each counted each time it is reached (what is shared counts as often as it is met; a slice's spare places count too). A statement '..UptoSaid' is the law's where the arguments, and the package variables that the reading takes, are together of bulk at most 1048576: NARROWER than '..Said'. Prove '..Said' where nothing that the law and all that it calls make is longer than what came in: it says more and counts as full. Else prove '..UptoSaid'. A law counts once. -/
mutual
def uptoBulk {H : Type} : DataW H → Nat
  | .lit (.string bytes) => bytes.length + 1
  | .lit _ => 1
  | .nil => 1
  | .ptr d => uptoBulk d + 1
  | .slice elems spare => uptoBulkAll elems + uptoBulkAll spare + 1
  | .agg parts => uptoBulkAll parts + 1
  | .iface _ d => uptoBulk d + 1
  | .map entries => uptoBulkEntries entries + 1
  | .held _ => 1
def uptoBulkAll {H : Type} : List (DataW H) → Nat
  | [] => 0
  | d :: r => uptoBulk d + uptoBulkAll r
def uptoBulkEntries {H : Type} : List (Lit × DataW H) → Nat
  | [] => 0
  | x :: r => uptoBulkEntry x + uptoBulkEntries r
def uptoBulkEntry {H : Type} : Lit × DataW H → Nat
  | (.string bytes, d) => bytes.length + uptoBulk d + 1
  | (_, d) => uptoBulk d + 1
 end
def uptoSmall : (H : Type) → List (DataW H) → Bool := fun _ ds => decide (uptoBulkAll ds ≤ 1048576)
def OpenSpec.upto (s : _root_.Go.ChangeSpec) : _root_.Go.OpenSpec := { _root_.Go.OpenSpec.ofChange s with cond := some uptoSmall }

/-- 'glazierlaw39.FreezeSteps', WHERE WHAT IT READS IS OF BULK AT MOST 1048576: true; the input reads as it did. -/
def freezeStepsUptoRow : OpenClaim := { program := "ytkgiphabcopioaa", sum := "114370e39bf7edf0783b7cee08d6ff5d81c0f651cc4e059481c319f46efd347b", func := "glazier/glazierlaw39.FreezeSteps", spec := "freezeSteps", unfollowed := true, recurses := true, apart := false, narrowed := true }
def FreezeStepsUptoSaid : Prop := freezeStepsUptoRow.holds Try.pinned (OpenSpec.upto freezeStepsSpec)

/-- 'glazierlaw39.FreezeFull', WHERE WHAT IT READS IS OF BULK AT MOST 1048576: true; the input reads as it did. -/
def freezeFullUptoRow : OpenClaim := { program := "ytkgiphabcopioaa", sum := "114370e39bf7edf0783b7cee08d6ff5d81c0f651cc4e059481c319f46efd347b", func := "glazier/glazierlaw39.FreezeFull", spec := "freezeFull", unfollowed := true, recurses := true, apart := false, narrowed := true }
def FreezeFullUptoSaid : Prop := freezeFullUptoRow.holds Try.pinned (OpenSpec.upto freezeFullSpec)

/-- 'glazierlaw39.FreezeKeeps', WHERE WHAT IT READS IS OF BULK AT MOST 1048576: true; the input reads as it did. -/
def freezeKeepsUptoRow : OpenClaim := { program := "ytkgiphabcopioaa", sum := "114370e39bf7edf0783b7cee08d6ff5d81c0f651cc4e059481c319f46efd347b", func := "glazier/glazierlaw39.FreezeKeeps", spec := "freezeKeeps", unfollowed := true, recurses := true, apart := false, narrowed := true }
def FreezeKeepsUptoSaid : Prop := freezeKeepsUptoRow.holds Try.pinned (OpenSpec.upto freezeKeepsSpec)

/-- 'glazierlaw39.FreezeReplays', WHERE WHAT IT READS IS OF BULK AT MOST 1048576: true; the input reads as it did. -/
def freezeReplaysUptoRow : OpenClaim := { program := "ytkgiphabcopioaa", sum := "114370e39bf7edf0783b7cee08d6ff5d81c0f651cc4e059481c319f46efd347b", func := "glazier/glazierlaw39.FreezeReplays", spec := "freezeReplays", unfollowed := true, recurses := true, apart := false, narrowed := true }
def FreezeReplaysUptoSaid : Prop := freezeReplaysUptoRow.holds Try.pinned (OpenSpec.upto freezeReplaysSpec)

/-- 'glazierlaw39.FreezePlays', WHERE WHAT IT READS IS OF BULK AT MOST 1048576: true; the input reads as it did. -/
def freezePlaysUptoRow : OpenClaim := { program := "ytkgiphabcopioaa", sum := "114370e39bf7edf0783b7cee08d6ff5d81c0f651cc4e059481c319f46efd347b", func := "glazier/glazierlaw39.FreezePlays", spec := "freezePlays", unfollowed := true, recurses := true, apart := false, narrowed := true }
def FreezePlaysUptoSaid : Prop := freezePlaysUptoRow.holds Try.pinned (OpenSpec.upto freezePlaysSpec)

end Rows
end Go.Proofs.Ytkgiphabcopioaa
