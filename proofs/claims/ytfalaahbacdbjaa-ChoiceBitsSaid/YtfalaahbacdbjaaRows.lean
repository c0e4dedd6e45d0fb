/-
  No cell of these rows narrows 'for every input' (looked for: loops, veiled, ifaces, maps, wideKeys, modest, calm, conditions, laid).
  DERIVED. THE GIVEN ROWS OF THIS SEAT. 6 by the template 'for every input the law returns true; each argument reads behind the call as it read before'; 0 by the template 'total and deterministic' (their statements: YtfalaahbacdbjaaTotals.lean).
  GIVEN WITH THE SEED: the statements are not yours to turn. If you find one false, say at which input.
  Laid BY PROGRAM, IN A SANDBOX (cutbox-rows.mjs): the forced cells as the released guide's own fill.sh prints them over the translation 8d782e40e5d0be06… (all of the seat's roots in one cut). By AI agents, Wed Nov 11 2026. No macro, syntax, notation, axiom, sorry.
-/
import Derived.Test.YtfalaahbacdbjaaChecked
import GoSem.Claim
import GoSem.ClaimJoined
import GoSem.ClaimMapViews
import Derived.JoinedTies
import Derived.KernelRfl
namespace Go.Proofs.Ytfalaahbacdbjaa
/- THE CELL 'sum', in the pinned program and in every row, IS THE sha256 OF THE DUMP (.gsa) THAT YtfalaahbacdbjaaProg.lean LOADS. Nothing in Lean hashes anything: it is a label: what it is worth is what the hold of that sum in a sandbox is worth. -/
noncomputable def Try.pinned : Pinned := { name := "ytfalaahbacdbjaa", sum := "8d782e40e5d0be06099ad4342fb33641f5ea60e82bfa43fc146876c1f3d41b57", checked := Try.checked }
namespace Rows
def none {H : Type} : Left H := { results := [], args := [] }

/-- 'glazierlaw35.ChoiceFinds': WHATEVER THE INPUT: true; the input reads as it did. -/
def choiceFindsSpec : ChangeSpec := { name := "choiceFinds", fn := fun _ => fun
  | [d1, d2, d3] => { results := [.lit (.bool true)], args := [d1, d2, d3] }
  | _ => none }
def choiceFindsRow : OpenClaim := { program := "ytfalaahbacdbjaa", sum := "8d782e40e5d0be06099ad4342fb33641f5ea60e82bfa43fc146876c1f3d41b57", func := "glazier/glazierlaw35.ChoiceFinds", spec := "choiceFinds", unfollowed := true, recurses := true, plainKeys := false, apart := false }
def ChoiceFindsSaid : Prop := choiceFindsRow.holds Try.pinned (OpenSpec.ofChange choiceFindsSpec)

/-- ITS FALSE NEIGHBOUR: 'it returns false'. Refute it at one input. -/
def choiceFindsWrong : ChangeSpec := { name := "choiceFinds", fn := fun _ => fun
  | [d1, d2, d3] => { results := [.lit (.bool false)], args := [d1, d2, d3] }
  | _ => none }
def ChoiceFindsWrongFalsely : Prop := choiceFindsRow.holds Try.pinned (OpenSpec.ofChange choiceFindsWrong)

/-- 'glazierlaw35.ChoicePaths': WHATEVER THE INPUT: true; the input reads as it did. -/
def choicePathsSpec : ChangeSpec := { name := "choicePaths", fn := fun _ => fun
  | [d1, d2, d3, d4] => { results := [.lit (.bool true)], args := [d1, d2, d3, d4] }
  | _ => none }
def choicePathsRow : OpenClaim := { program := "ytfalaahbacdbjaa", sum := "8d782e40e5d0be06099ad4342fb33641f5ea60e82bfa43fc146876c1f3d41b57", func := "glazier/glazierlaw35.ChoicePaths", spec := "choicePaths", unfollowed := true, recurses := true, plainKeys := false, apart := false }
def ChoicePathsSaid : Prop := choicePathsRow.holds Try.pinned (OpenSpec.ofChange choicePathsSpec)

/-- ITS FALSE NEIGHBOUR: 'it returns false'. Refute it at one input. -/
def choicePathsWrong : ChangeSpec := { name := "choicePaths", fn := fun _ => fun
  | [d1, d2, d3, d4] => { results := [.lit (.bool false)], args := [d1, d2, d3, d4] }
  | _ => none }
def ChoicePathsWrongFalsely : Prop := choicePathsRow.holds Try.pinned (OpenSpec.ofChange choicePathsWrong)

/-- 'glazierlaw35.ChoiceBits': WHATEVER THE INPUT: true; the input reads as it did. -/
def choiceBitsSpec : ChangeSpec := { name := "choiceBits", fn := fun _ => fun
  | [d1, d2, d3, d4, d5, d6] => { results := [.lit (.bool true)], args := [d1, d2, d3, d4, d5, d6] }
  | _ => none }
def choiceBitsRow : OpenClaim := { program := "ytfalaahbacdbjaa", sum := "8d782e40e5d0be06099ad4342fb33641f5ea60e82bfa43fc146876c1f3d41b57", func := "glazier/glazierlaw35.ChoiceBits", spec := "choiceBits", unfollowed := true, recurses := true, plainKeys := false, apart := false }
def ChoiceBitsSaid : Prop := choiceBitsRow.holds Try.pinned (OpenSpec.ofChange choiceBitsSpec)

/-- ITS FALSE NEIGHBOUR: 'it returns false'. Refute it at one input. -/
def choiceBitsWrong : ChangeSpec := { name := "choiceBits", fn := fun _ => fun
  | [d1, d2, d3, d4, d5, d6] => { results := [.lit (.bool false)], args := [d1, d2, d3, d4, d5, d6] }
  | _ => none }
def ChoiceBitsWrongFalsely : Prop := choiceBitsRow.holds Try.pinned (OpenSpec.ofChange choiceBitsWrong)

/-- 'glazierlaw35.ChoicePlays': WHATEVER THE INPUT: true; the input reads as it did. -/
def choicePlaysSpec : ChangeSpec := { name := "choicePlays", fn := fun _ => fun
  | [d1, d2] => { results := [.lit (.bool true)], args := [d1, d2] }
  | _ => none }
def choicePlaysRow : OpenClaim := { program := "ytfalaahbacdbjaa", sum := "8d782e40e5d0be06099ad4342fb33641f5ea60e82bfa43fc146876c1f3d41b57", func := "glazier/glazierlaw35.ChoicePlays", spec := "choicePlays", unfollowed := true, recurses := true, plainKeys := false, apart := false }
def ChoicePlaysSaid : Prop := choicePlaysRow.holds Try.pinned (OpenSpec.ofChange choicePlaysSpec)

/-- ITS FALSE NEIGHBOUR: 'it returns false'. Refute it at one input. -/
def choicePlaysWrong : ChangeSpec := { name := "choicePlays", fn := fun _ => fun
  | [d1, d2] => { results := [.lit (.bool false)], args := [d1, d2] }
  | _ => none }
def ChoicePlaysWrongFalsely : Prop := choicePlaysRow.holds Try.pinned (OpenSpec.ofChange choicePlaysWrong)

/-- 'glazierlaw35.ChoiceDrops': WHATEVER THE INPUT: true; the input reads as it did. -/
def choiceDropsSpec : ChangeSpec := { name := "choiceDrops", fn := fun _ => fun
  | [d1, d2, d3, d4] => { results := [.lit (.bool true)], args := [d1, d2, d3, d4] }
  | _ => none }
def choiceDropsRow : OpenClaim := { program := "ytfalaahbacdbjaa", sum := "8d782e40e5d0be06099ad4342fb33641f5ea60e82bfa43fc146876c1f3d41b57", func := "glazier/glazierlaw35.ChoiceDrops", spec := "choiceDrops", unfollowed := true, recurses := true, plainKeys := false, apart := false }
def ChoiceDropsSaid : Prop := choiceDropsRow.holds Try.pinned (OpenSpec.ofChange choiceDropsSpec)

/-- ITS FALSE NEIGHBOUR: 'it returns false'. Refute it at one input. -/
def choiceDropsWrong : ChangeSpec := { name := "choiceDrops", fn := fun _ => fun
  | [d1, d2, d3, d4] => { results := [.lit (.bool false)], args := [d1, d2, d3, d4] }
  | _ => none }
def ChoiceDropsWrongFalsely : Prop := choiceDropsRow.holds Try.pinned (OpenSpec.ofChange choiceDropsWrong)

/-- 'glazierlaw35.ChoiceAlone': WHATEVER THE INPUT: true; the input reads as it did. -/
def choiceAloneSpec : ChangeSpec := { name := "choiceAlone", fn := fun _ => fun
  | [d1, d2, d3, d4] => { results := [.lit (.bool true)], args := [d1, d2, d3, d4] }
  | _ => none }
def choiceAloneRow : OpenClaim := { program := "ytfalaahbacdbjaa", sum := "8d782e40e5d0be06099ad4342fb33641f5ea60e82bfa43fc146876c1f3d41b57", func := "glazier/glazierlaw35.ChoiceAlone", spec := "choiceAlone", unfollowed := true, recurses := true, plainKeys := false, apart := false }
def ChoiceAloneSaid : Prop := choiceAloneRow.holds Try.pinned (OpenSpec.ofChange choiceAloneSpec)

/-- ITS FALSE NEIGHBOUR: 'it returns false'. Refute it at one input. -/
def choiceAloneWrong : ChangeSpec := { name := "choiceAlone", fn := fun _ => fun
  | [d1, d2, d3, d4] => { results := [.lit (.bool false)], args := [d1, d2, d3, d4] }
  | _ => none }
def ChoiceAloneWrongFalsely : Prop := choiceAloneRow.holds Try.pinned (OpenSpec.ofChange choiceAloneWrong)

/- THE SECOND FORM. 'bulk': how many values and letters a reading holds, each counted each time it is reached (what is shared counts as often as it is met; a slice's spare places count too). A statement '..UptoSaid' is the law's where the arguments, and the package variables that the reading takes, are together of bulk at most 1048576: NARROWER than '..Said'. Prove '..Said' where nothing that the law and all that it calls make is longer than what came in: it says more and counts as full. Else prove '..UptoSaid'. A law counts once. -/
mutual
def uptoBulk {H : Type} : DataW H → Nat
  | .lit (.string bytes) => bytes.length + 1
  | .lit _ => 1
  | .nil => 1
  | .ptr d => uptoBulk d + 1
  | .slice elems spare => uptoBulkAll elems + uptoBulkAll spare + 1
  | .agg parts => uptoBulkAll parts + 1
  | .iface _ d => uptoBulk d + 1
  | .map entries => uptoBulkEntries entries + 1
  | .held _ => 1
def uptoBulkAll {H : Type} : List (DataW H) → Nat
  | [] => 0
  | d :: r => uptoBulk d + uptoBulkAll r
def uptoBulkEntries {H : Type} : List (Lit × DataW H) → Nat
  | [] => 0
  | x :: r => uptoBulkEntry x + uptoBulkEntries r
def uptoBulkEntry {H : Type} : Lit × DataW H → Nat
  | (.string bytes, d) => bytes.length + uptoBulk d + 1
  | (_, d) => uptoBulk d + 1
 end
def uptoSmall : (H : Type) → List (DataW H) → Bool := fun _ ds => decide (uptoBulkAll ds ≤ 1048576)
def OpenSpec.upto (s : _root_.Go.ChangeSpec) : _root_.Go.OpenSpec := { _root_.Go.OpenSpec.ofChange s with cond := some uptoSmall }

/-- 'glazierlaw35.ChoiceFinds', WHERE WHAT IT READS IS OF BULK AT MOST 1048576: true; the input reads as it did. -/
def choiceFindsUptoRow : OpenClaim := { program := "ytfalaahbacdbjaa", sum := "8d782e40e5d0be06099ad4342fb33641f5ea60e82bfa43fc146876c1f3d41b57", func := "glazier/glazierlaw35.ChoiceFinds", spec := "choiceFinds", unfollowed := true, recurses := true, plainKeys := false, apart := false, narrowed := true }
def ChoiceFindsUptoSaid : Prop := choiceFindsUptoRow.holds Try.pinned (OpenSpec.upto choiceFindsSpec)

/-- 'glazierlaw35.ChoicePaths', WHERE WHAT IT READS IS OF BULK AT MOST 1048576: true; the input reads as it did. -/
def choicePathsUptoRow : OpenClaim := { program := "ytfalaahbacdbjaa", sum := "8d782e40e5d0be06099ad4342fb33641f5ea60e82bfa43fc146876c1f3d41b57", func := "glazier/glazierlaw35.ChoicePaths", spec := "choicePaths", unfollowed := true, recurses := true, plainKeys := false, apart := false, narrowed := true }
def ChoicePathsUptoSaid : Prop := choicePathsUptoRow.holds Try.pinned (OpenSpec.upto choicePathsSpec)

/-- 'glazierlaw35.ChoiceBits', WHERE WHAT IT READS IS OF BULK AT MOST 1048576: true; the input reads as it did. -/
def choiceBitsUptoRow : OpenClaim := { program := "ytfalaahbacdbjaa", sum := "8d782e40e5d0be06099ad4342fb33641f5ea60e82bfa43fc146876c1f3d41b57", func := "glazier/glazierlaw35.ChoiceBits", spec := "choiceBits", unfollowed := true, recurses := true, plainKeys := false, apart := false, narrowed := true }
def ChoiceBitsUptoSaid : Prop := choiceBitsUptoRow.holds Try.pinned (OpenSpec.upto choiceBitsSpec)

/-- 'glazierlaw35.ChoicePlays', WHERE WHAT IT READS IS OF BULK AT MOST 1048576: true; the input reads as it did. -/
def choicePlaysUptoRow : OpenClaim := { program := "ytfalaahbacdbjaa", sum := "8d782e40e5d0be06099ad4342fb33641f5ea60e82bfa43fc146876c1f3d41b57", func := "glazier/glazierlaw35.ChoicePlays", spec := "choicePlays", unfollowed := true, recurses := true, plainKeys := false, apart := false, narrowed := true }
def ChoicePlaysUptoSaid : Prop := choicePlaysUptoRow.holds Try.pinned (OpenSpec.upto choicePlaysSpec)

/-- 'glazierlaw35.ChoiceDrops', WHERE WHAT IT READS IS OF BULK AT MOST 1048576: true; the input reads as it did. -/
def choiceDropsUptoRow : OpenClaim := { program := "ytfalaahbacdbjaa", sum := "8d782e40e5d0be06099ad4342fb33641f5ea60e82bfa43fc146876c1f3d41b57", func := "glazier/glazierlaw35.ChoiceDrops", spec := "choiceDrops", unfollowed := true, recurses := true, plainKeys := false, apart := false, narrowed := true }
def ChoiceDropsUptoSaid : Prop := choiceDropsUptoRow.holds Try.pinned (OpenSpec.upto choiceDropsSpec)

/-- 'glazierlaw35.ChoiceAlone', WHERE WHAT IT READS IS OF BULK AT MOST 1048576: true; the input reads as it did. -/
def choiceAloneUptoRow : OpenClaim := { program := "ytfalaahbacdbjaa", sum := "8d782e40e5d0be06099ad4342fb33641f5ea60e82bfa43fc146876c1f3d41b57", func := "glazier/glazierlaw35.ChoiceAlone", spec := "choiceAlone", unfollowed := true, recurses := true, plainKeys := false, apart := false, narrowed := true }
def ChoiceAloneUptoSaid : Prop := choiceAloneUptoRow.holds Try.pinned (OpenSpec.upto choiceAloneSpec)

end Rows
end Go.Proofs.Ytfalaahbacdbjaa
