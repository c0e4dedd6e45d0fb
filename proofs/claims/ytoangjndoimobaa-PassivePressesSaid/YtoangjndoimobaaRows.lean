/-
  No cell of these rows narrows 'for every input' (looked for: loops, veiled, ifaces, maps, wideKeys, modest, calm, conditions, laid).
  DERIVED. THE GIVEN ROWS OF THIS SEAT. 7 by the template 'for every input the law returns true; each argument reads behind the call as it read before'; 0 by the template 'total and deterministic' (their statements: YtoangjndoimobaaTotals.lean).
  GIVEN WITH THE SEED: the statements are not yours to turn. If you find one false, say at which input.
  Laid BY PROGRAM, IN A SANDBOX (cutbox-rows.mjs): the forced cells as the released guide's own fill.sh prints them over the translation 430f2841ca07924f… (all of the seat's roots in one cut). By AI agents, Wed Nov 11 2026. No macro, syntax, notation, axiom, sorry.
-/
import Derived.Test.YtoangjndoimobaaChecked
import GoSem.Claim
import GoSem.ClaimJoined
import GoSem.ClaimMapViews
import Derived.JoinedTies
import Derived.KernelRfl
namespace Go.Proofs.Ytoangjndoimobaa
/- THE CELL 'sum', in the pinned program and in every row, IS THE sha256 OF THE DUMP (.gsa) THAT YtoangjndoimobaaProg.lean LOADS. Nothing in Lean hashes anything: it is a label: what it is worth is what the hold of that sum in a sandbox is worth. -/
noncomputable def Try.pinned : Pinned := { name := "ytoangjndoimobaa", sum := "430f2841ca07924fb328a242a6a8c4e8907873dfef1af65a4e20c11e928d1cc3", checked := Try.checked }
namespace Rows
def none {H : Type} : Left H := { results := [], args := [] }

/-- 'glazierlaw38.PassiveMeets': WHATEVER THE INPUT: true; the input reads as it did. -/
def passiveMeetsSpec : ChangeSpec := { name := "passiveMeets", fn := fun _ => fun
  | [d1, d2] => { results := [.lit (.bool true)], args := [d1, d2] }
  | _ => none }
def passiveMeetsRow : OpenClaim := { program := "ytoangjndoimobaa", sum := "430f2841ca07924fb328a242a6a8c4e8907873dfef1af65a4e20c11e928d1cc3", func := "glazier/glazierlaw38.PassiveMeets", spec := "passiveMeets", unfollowed := true, recurses := true, apart := false }
def PassiveMeetsSaid : Prop := passiveMeetsRow.holds Try.pinned (OpenSpec.ofChange passiveMeetsSpec)

/-- ITS FALSE NEIGHBOUR: 'it returns false'. Refute it at one input. -/
def passiveMeetsWrong : ChangeSpec := { name := "passiveMeets", fn := fun _ => fun
  | [d1, d2] => { results := [.lit (.bool false)], args := [d1, d2] }
  | _ => none }
def PassiveMeetsWrongFalsely : Prop := passiveMeetsRow.holds Try.pinned (OpenSpec.ofChange passiveMeetsWrong)

/-- 'glazierlaw38.PassivePresses': WHATEVER THE INPUT: true; the input reads as it did. -/
def passivePressesSpec : ChangeSpec := { name := "passivePresses", fn := fun _ => fun
  | [d1, d2] => { results := [.lit (.bool true)], args := [d1, d2] }
  | _ => none }
def passivePressesRow : OpenClaim := { program := "ytoangjndoimobaa", sum := "430f2841ca07924fb328a242a6a8c4e8907873dfef1af65a4e20c11e928d1cc3", func := "glazier/glazierlaw38.PassivePresses", spec := "passivePresses", unfollowed := true, recurses := true, apart := false }
def PassivePressesSaid : Prop := passivePressesRow.holds Try.pinned (OpenSpec.ofChange passivePressesSpec)

/-- ITS FALSE NEIGHBOUR: 'it returns false'. Refute it at one input. -/
def passivePressesWrong : ChangeSpec := { name := "passivePresses", fn := fun _ => fun
  | [d1, d2] => { results := [.lit (.bool false)], args := [d1, d2] }
  | _ => none }
def PassivePressesWrongFalsely : Prop := passivePressesRow.holds Try.pinned (OpenSpec.ofChange passivePressesWrong)

/-- 'glazierlaw38.PassiveOwns': WHATEVER THE INPUT: true; the input reads as it did. -/
def passiveOwnsSpec : ChangeSpec := { name := "passiveOwns", fn := fun _ => fun
  | [d1, d2, d3] => { results := [.lit (.bool true)], args := [d1, d2, d3] }
  | _ => none }
def passiveOwnsRow : OpenClaim := { program := "ytoangjndoimobaa", sum := "430f2841ca07924fb328a242a6a8c4e8907873dfef1af65a4e20c11e928d1cc3", func := "glazier/glazierlaw38.PassiveOwns", spec := "passiveOwns", unfollowed := true, recurses := true, apart := false }
def PassiveOwnsSaid : Prop := passiveOwnsRow.holds Try.pinned (OpenSpec.ofChange passiveOwnsSpec)

/-- ITS FALSE NEIGHBOUR: 'it returns false'. Refute it at one input. -/
def passiveOwnsWrong : ChangeSpec := { name := "passiveOwns", fn := fun _ => fun
  | [d1, d2, d3] => { results := [.lit (.bool false)], args := [d1, d2, d3] }
  | _ => none }
def PassiveOwnsWrongFalsely : Prop := passiveOwnsRow.holds Try.pinned (OpenSpec.ofChange passiveOwnsWrong)

/-- 'glazierlaw38.PassiveFull': WHATEVER THE INPUT: true; the input reads as it did. -/
def passiveFullSpec : ChangeSpec := { name := "passiveFull", fn := fun _ => fun
  | [d] => { results := [.lit (.bool true)], args := [d] }
  | _ => none }
def passiveFullRow : OpenClaim := { program := "ytoangjndoimobaa", sum := "430f2841ca07924fb328a242a6a8c4e8907873dfef1af65a4e20c11e928d1cc3", func := "glazier/glazierlaw38.PassiveFull", spec := "passiveFull", unfollowed := true, recurses := true, apart := false }
def PassiveFullSaid : Prop := passiveFullRow.holds Try.pinned (OpenSpec.ofChange passiveFullSpec)

/-- ITS FALSE NEIGHBOUR: 'it returns false'. Refute it at one input. -/
def passiveFullWrong : ChangeSpec := { name := "passiveFull", fn := fun _ => fun
  | [d] => { results := [.lit (.bool false)], args := [d] }
  | _ => none }
def PassiveFullWrongFalsely : Prop := passiveFullRow.holds Try.pinned (OpenSpec.ofChange passiveFullWrong)

/-- 'glazierlaw38.PassivePlays': WHATEVER THE INPUT: true; the input reads as it did. -/
def passivePlaysSpec : ChangeSpec := { name := "passivePlays", fn := fun _ => fun
  | [d] => { results := [.lit (.bool true)], args := [d] }
  | _ => none }
def passivePlaysRow : OpenClaim := { program := "ytoangjndoimobaa", sum := "430f2841ca07924fb328a242a6a8c4e8907873dfef1af65a4e20c11e928d1cc3", func := "glazier/glazierlaw38.PassivePlays", spec := "passivePlays", unfollowed := true, recurses := true, apart := false }
def PassivePlaysSaid : Prop := passivePlaysRow.holds Try.pinned (OpenSpec.ofChange passivePlaysSpec)

/-- ITS FALSE NEIGHBOUR: 'it returns false'. Refute it at one input. -/
def passivePlaysWrong : ChangeSpec := { name := "passivePlays", fn := fun _ => fun
  | [d] => { results := [.lit (.bool false)], args := [d] }
  | _ => none }
def PassivePlaysWrongFalsely : Prop := passivePlaysRow.holds Try.pinned (OpenSpec.ofChange passivePlaysWrong)

/-- 'glazierlaw38.PassiveFinds': WHATEVER THE INPUT: true; the input reads as it did. -/
def passiveFindsSpec : ChangeSpec := { name := "passiveFinds", fn := fun _ => fun
  | [d1, d2, d3] => { results := [.lit (.bool true)], args := [d1, d2, d3] }
  | _ => none }
def passiveFindsRow : OpenClaim := { program := "ytoangjndoimobaa", sum := "430f2841ca07924fb328a242a6a8c4e8907873dfef1af65a4e20c11e928d1cc3", func := "glazier/glazierlaw38.PassiveFinds", spec := "passiveFinds", unfollowed := true, recurses := true, apart := false }
def PassiveFindsSaid : Prop := passiveFindsRow.holds Try.pinned (OpenSpec.ofChange passiveFindsSpec)

/-- ITS FALSE NEIGHBOUR: 'it returns false'. Refute it at one input. -/
def passiveFindsWrong : ChangeSpec := { name := "passiveFinds", fn := fun _ => fun
  | [d1, d2, d3] => { results := [.lit (.bool false)], args := [d1, d2, d3] }
  | _ => none }
def PassiveFindsWrongFalsely : Prop := passiveFindsRow.holds Try.pinned (OpenSpec.ofChange passiveFindsWrong)

/-- 'glazierlaw38.PassiveGone': WHATEVER THE INPUT: true; the input reads as it did. -/
def passiveGoneSpec : ChangeSpec := { name := "passiveGone", fn := fun _ => fun
  | [d1, d2, d3] => { results := [.lit (.bool true)], args := [d1, d2, d3] }
  | _ => none }
def passiveGoneRow : OpenClaim := { program := "ytoangjndoimobaa", sum := "430f2841ca07924fb328a242a6a8c4e8907873dfef1af65a4e20c11e928d1cc3", func := "glazier/glazierlaw38.PassiveGone", spec := "passiveGone", unfollowed := true, recurses := true, apart := false }
def PassiveGoneSaid : Prop := passiveGoneRow.holds Try.pinned (OpenSpec.ofChange passiveGoneSpec)

/-- ITS FALSE NEIGHBOUR: 'it returns false'. Refute it at one input. -/
def passiveGoneWrong : ChangeSpec := { name := "passiveGone", fn := fun _ => fun
  | [d1, d2, d3] => { results := [.lit (.bool false)], args := [d1, d2, d3] }
  | _ => none }
def PassiveGoneWrongFalsely : Prop := passiveGoneRow.holds Try.pinned (OpenSpec.ofChange passiveGoneWrong)

/- THE SECOND FORM. 'bulk': how many values and letters a reading holds, each counted each time it is reached (what is shared counts as often as it is met; a slice's spare places count too). A statement '..UptoSaid' is the law's where the arguments, and the package variables that the reading takes, are together of bulk at most 1048576: NARROWER than '..Said'. Prove '..Said' where nothing that the law and all that it calls make is longer than what came in: it says more and counts as full. Else prove '..UptoSaid'. A law counts once. -/
mutual
def uptoBulk {H : Type} : DataW H → Nat
  | .lit (.string bytes) => bytes.length + 1
  | .lit _ => 1
  | .nil => 1
  | .ptr d => uptoBulk d + 1
  | .slice elems spare => uptoBulkAll elems + uptoBulkAll spare + 1
  | .agg parts => uptoBulkAll parts + 1
  | .iface _ d => uptoBulk d + 1
  | .map entries => uptoBulkEntries entries + 1
  | .held _ => 1
def uptoBulkAll {H : Type} : List (DataW H) → Nat
  | [] => 0
  | d :: r => uptoBulk d + uptoBulkAll r
def uptoBulkEntries {H : Type} : List (Lit × DataW H) → Nat
  | [] => 0
  | x :: r => uptoBulkEntry x + uptoBulkEntries r
def uptoBulkEntry {H : Type} : Lit × DataW H → Nat
  | (.string bytes, d) => bytes.length + uptoBulk d + 1
  | (_, d) => uptoBulk d + 1
 end
def uptoSmall : (H : Type) → List (DataW H) → Bool := fun _ ds => decide (uptoBulkAll ds ≤ 1048576)
def OpenSpec.upto (s : _root_.Go.ChangeSpec) : _root_.Go.OpenSpec := { _root_.Go.OpenSpec.ofChange s with cond := some uptoSmall }

/-- 'glazierlaw38.PassiveMeets', WHERE WHAT IT READS IS OF BULK AT MOST 1048576: true; the input reads as it did. -/
def passiveMeetsUptoRow : OpenClaim := { program := "ytoangjndoimobaa", sum := "430f2841ca07924fb328a242a6a8c4e8907873dfef1af65a4e20c11e928d1cc3", func := "glazier/glazierlaw38.PassiveMeets", spec := "passiveMeets", unfollowed := true, recurses := true, apart := false, narrowed := true }
def PassiveMeetsUptoSaid : Prop := passiveMeetsUptoRow.holds Try.pinned (OpenSpec.upto passiveMeetsSpec)

/-- 'glazierlaw38.PassivePresses', WHERE WHAT IT READS IS OF BULK AT MOST 1048576: true; the input reads as it did. -/
def passivePressesUptoRow : OpenClaim := { program := "ytoangjndoimobaa", sum := "430f2841ca07924fb328a242a6a8c4e8907873dfef1af65a4e20c11e928d1cc3", func := "glazier/glazierlaw38.PassivePresses", spec := "passivePresses", unfollowed := true, recurses := true, apart := false, narrowed := true }
def PassivePressesUptoSaid : Prop := passivePressesUptoRow.holds Try.pinned (OpenSpec.upto passivePressesSpec)

/-- 'glazierlaw38.PassiveOwns', WHERE WHAT IT READS IS OF BULK AT MOST 1048576: true; the input reads as it did. -/
def passiveOwnsUptoRow : OpenClaim := { program := "ytoangjndoimobaa", sum := "430f2841ca07924fb328a242a6a8c4e8907873dfef1af65a4e20c11e928d1cc3", func := "glazier/glazierlaw38.PassiveOwns", spec := "passiveOwns", unfollowed := true, recurses := true, apart := false, narrowed := true }
def PassiveOwnsUptoSaid : Prop := passiveOwnsUptoRow.holds Try.pinned (OpenSpec.upto passiveOwnsSpec)

/-- 'glazierlaw38.PassiveFull', WHERE WHAT IT READS IS OF BULK AT MOST 1048576: true; the input reads as it did. -/
def passiveFullUptoRow : OpenClaim := { program := "ytoangjndoimobaa", sum := "430f2841ca07924fb328a242a6a8c4e8907873dfef1af65a4e20c11e928d1cc3", func := "glazier/glazierlaw38.PassiveFull", spec := "passiveFull", unfollowed := true, recurses := true, apart := false, narrowed := true }
def PassiveFullUptoSaid : Prop := passiveFullUptoRow.holds Try.pinned (OpenSpec.upto passiveFullSpec)

/-- 'glazierlaw38.PassivePlays', WHERE WHAT IT READS IS OF BULK AT MOST 1048576: true; the input reads as it did. -/
def passivePlaysUptoRow : OpenClaim := { program := "ytoangjndoimobaa", sum := "430f2841ca07924fb328a242a6a8c4e8907873dfef1af65a4e20c11e928d1cc3", func := "glazier/glazierlaw38.PassivePlays", spec := "passivePlays", unfollowed := true, recurses := true, apart := false, narrowed := true }
def PassivePlaysUptoSaid : Prop := passivePlaysUptoRow.holds Try.pinned (OpenSpec.upto passivePlaysSpec)

/-- 'glazierlaw38.PassiveFinds', WHERE WHAT IT READS IS OF BULK AT MOST 1048576: true; the input reads as it did. -/
def passiveFindsUptoRow : OpenClaim := { program := "ytoangjndoimobaa", sum := "430f2841ca07924fb328a242a6a8c4e8907873dfef1af65a4e20c11e928d1cc3", func := "glazier/glazierlaw38.PassiveFinds", spec := "passiveFinds", unfollowed := true, recurses := true, apart := false, narrowed := true }
def PassiveFindsUptoSaid : Prop := passiveFindsUptoRow.holds Try.pinned (OpenSpec.upto passiveFindsSpec)

/-- 'glazierlaw38.PassiveGone', WHERE WHAT IT READS IS OF BULK AT MOST 1048576: true; the input reads as it did. -/
def passiveGoneUptoRow : OpenClaim := { program := "ytoangjndoimobaa", sum := "430f2841ca07924fb328a242a6a8c4e8907873dfef1af65a4e20c11e928d1cc3", func := "glazier/glazierlaw38.PassiveGone", spec := "passiveGone", unfollowed := true, recurses := true, apart := false, narrowed := true }
def PassiveGoneUptoSaid : Prop := passiveGoneUptoRow.holds Try.pinned (OpenSpec.upto passiveGoneSpec)

end Rows
end Go.Proofs.Ytoangjndoimobaa
