/-
  No cell of these rows narrows 'for every input' (looked for: loops, veiled, ifaces, maps, wideKeys, modest, calm, conditions, laid).
  DERIVED. THE GIVEN ROWS OF THIS SEAT. 6 by the template 'for every input the law returns true; each argument reads behind the call as it read before'; 0 by the template 'total and deterministic' (their statements: YtnkiljopbilknaaTotals.lean).
  GIVEN WITH THE SEED: the statements are not yours to turn. If you find one false, say at which input.
  Laid BY PROGRAM, IN A SANDBOX (cutbox-rows.mjs): the forced cells as the released guide's own fill.sh prints them over the translation aa253abcb826506b… (all of the seat's roots in one cut). By AI agents, Wed Nov 11 2026. No macro, syntax, notation, axiom, sorry.
-/
import Derived.Test.YtnkiljopbilknaaChecked
import GoSem.Claim
import GoSem.ClaimJoined
import GoSem.ClaimMapViews
import Derived.JoinedTies
import Derived.KernelRfl
namespace Go.Proofs.Ytnkiljopbilknaa
/- THE CELL 'sum', in the pinned program and in every row, IS THE sha256 OF THE DUMP (.gsa) THAT YtnkiljopbilknaaProg.lean LOADS. Nothing in Lean hashes anything: it is a label: what it is worth is what the hold of that sum in a sandbox is worth. -/
noncomputable def Try.pinned : Pinned := { name := "ytnkiljopbilknaa", sum := "aa253abcb826506b542d81a6a87bac8f8a1803d6a67375d52fe40b511d3c2f49", checked := Try.checked }
namespace Rows
def none {H : Type} : Left H := { results := [], args := [] }

/-- 'glazierlaw07.IdentFresh': WHATEVER THE INPUT: true; the input reads as it did. -/
def identFreshSpec : ChangeSpec := { name := "identFresh", fn := fun _ => fun
  | [d1, d2] => { results := [.lit (.bool true)], args := [d1, d2] }
  | _ => none }
def identFreshRow : OpenClaim := { program := "ytnkiljopbilknaa", sum := "aa253abcb826506b542d81a6a87bac8f8a1803d6a67375d52fe40b511d3c2f49", func := "glazier/glazierlaw07.IdentFresh", spec := "identFresh", apart := false }
def IdentFreshSaid : Prop := identFreshRow.holds Try.pinned (OpenSpec.ofChange identFreshSpec)

/-- ITS FALSE NEIGHBOUR: 'it returns false'. Refute it at one input. -/
def identFreshWrong : ChangeSpec := { name := "identFresh", fn := fun _ => fun
  | [d1, d2] => { results := [.lit (.bool false)], args := [d1, d2] }
  | _ => none }
def IdentFreshWrongFalsely : Prop := identFreshRow.holds Try.pinned (OpenSpec.ofChange identFreshWrong)

/-- 'glazierlaw07.IdentFull': WHATEVER THE INPUT: true; the input reads as it did. -/
def identFullSpec : ChangeSpec := { name := "identFull", fn := fun _ => fun
  | [d1, d2, d3] => { results := [.lit (.bool true)], args := [d1, d2, d3] }
  | _ => none }
def identFullRow : OpenClaim := { program := "ytnkiljopbilknaa", sum := "aa253abcb826506b542d81a6a87bac8f8a1803d6a67375d52fe40b511d3c2f49", func := "glazier/glazierlaw07.IdentFull", spec := "identFull", apart := false }
def IdentFullSaid : Prop := identFullRow.holds Try.pinned (OpenSpec.ofChange identFullSpec)

/-- ITS FALSE NEIGHBOUR: 'it returns false'. Refute it at one input. -/
def identFullWrong : ChangeSpec := { name := "identFull", fn := fun _ => fun
  | [d1, d2, d3] => { results := [.lit (.bool false)], args := [d1, d2, d3] }
  | _ => none }
def IdentFullWrongFalsely : Prop := identFullRow.holds Try.pinned (OpenSpec.ofChange identFullWrong)

/-- 'glazierlaw07.IdentWhose': WHATEVER THE INPUT: true; the input reads as it did. -/
def identWhoseSpec : ChangeSpec := { name := "identWhose", fn := fun _ => fun
  | [d1, d2] => { results := [.lit (.bool true)], args := [d1, d2] }
  | _ => none }
def identWhoseRow : OpenClaim := { program := "ytnkiljopbilknaa", sum := "aa253abcb826506b542d81a6a87bac8f8a1803d6a67375d52fe40b511d3c2f49", func := "glazier/glazierlaw07.IdentWhose", spec := "identWhose", apart := false }
def IdentWhoseSaid : Prop := identWhoseRow.holds Try.pinned (OpenSpec.ofChange identWhoseSpec)

/-- ITS FALSE NEIGHBOUR: 'it returns false'. Refute it at one input. -/
def identWhoseWrong : ChangeSpec := { name := "identWhose", fn := fun _ => fun
  | [d1, d2] => { results := [.lit (.bool false)], args := [d1, d2] }
  | _ => none }
def IdentWhoseWrongFalsely : Prop := identWhoseRow.holds Try.pinned (OpenSpec.ofChange identWhoseWrong)

/-- 'glazierlaw07.IdentBase': WHATEVER THE INPUT: true; the input reads as it did. -/
def identBaseSpec : ChangeSpec := { name := "identBase", fn := fun _ => fun
  | [d1, d2] => { results := [.lit (.bool true)], args := [d1, d2] }
  | _ => none }
def identBaseRow : OpenClaim := { program := "ytnkiljopbilknaa", sum := "aa253abcb826506b542d81a6a87bac8f8a1803d6a67375d52fe40b511d3c2f49", func := "glazier/glazierlaw07.IdentBase", spec := "identBase", apart := false }
def IdentBaseSaid : Prop := identBaseRow.holds Try.pinned (OpenSpec.ofChange identBaseSpec)

/-- ITS FALSE NEIGHBOUR: 'it returns false'. Refute it at one input. -/
def identBaseWrong : ChangeSpec := { name := "identBase", fn := fun _ => fun
  | [d1, d2] => { results := [.lit (.bool false)], args := [d1, d2] }
  | _ => none }
def IdentBaseWrongFalsely : Prop := identBaseRow.holds Try.pinned (OpenSpec.ofChange identBaseWrong)

/-- 'glazierlaw07.IdentNext': WHATEVER THE INPUT: true; the input reads as it did. -/
def identNextSpec : ChangeSpec := { name := "identNext", fn := fun _ => fun
  | [d1, d2, d3, d4] => { results := [.lit (.bool true)], args := [d1, d2, d3, d4] }
  | _ => none }
def identNextRow : OpenClaim := { program := "ytnkiljopbilknaa", sum := "aa253abcb826506b542d81a6a87bac8f8a1803d6a67375d52fe40b511d3c2f49", func := "glazier/glazierlaw07.IdentNext", spec := "identNext", apart := false }
def IdentNextSaid : Prop := identNextRow.holds Try.pinned (OpenSpec.ofChange identNextSpec)

/-- ITS FALSE NEIGHBOUR: 'it returns false'. Refute it at one input. -/
def identNextWrong : ChangeSpec := { name := "identNext", fn := fun _ => fun
  | [d1, d2, d3, d4] => { results := [.lit (.bool false)], args := [d1, d2, d3, d4] }
  | _ => none }
def IdentNextWrongFalsely : Prop := identNextRow.holds Try.pinned (OpenSpec.ofChange identNextWrong)

/-- 'glazierlaw07.IdentOnce': WHATEVER THE INPUT: true; the input reads as it did. -/
def identOnceSpec : ChangeSpec := { name := "identOnce", fn := fun _ => fun
  | [d] => { results := [.lit (.bool true)], args := [d] }
  | _ => none }
def identOnceRow : OpenClaim := { program := "ytnkiljopbilknaa", sum := "aa253abcb826506b542d81a6a87bac8f8a1803d6a67375d52fe40b511d3c2f49", func := "glazier/glazierlaw07.IdentOnce", spec := "identOnce", apart := false }
def IdentOnceSaid : Prop := identOnceRow.holds Try.pinned (OpenSpec.ofChange identOnceSpec)

/-- ITS FALSE NEIGHBOUR: 'it returns false'. Refute it at one input. -/
def identOnceWrong : ChangeSpec := { name := "identOnce", fn := fun _ => fun
  | [d] => { results := [.lit (.bool false)], args := [d] }
  | _ => none }
def IdentOnceWrongFalsely : Prop := identOnceRow.holds Try.pinned (OpenSpec.ofChange identOnceWrong)

/- THE SECOND FORM. 'bulk': how many values and letters a reading holds, each counted each time it is reached (what is shared counts as often as it is met; a slice's spare places count too). A statement '..UptoSaid' is the law's where the arguments, and the package variables that the reading takes, are together of bulk at most 1048576: NARROWER than '..Said'. Prove '..Said' where nothing that the law and all that it calls make is longer than what came in: it says more and counts as full. Else prove '..UptoSaid'. A law counts once. -/
mutual
def uptoBulk {H : Type} : DataW H → Nat
  | .lit (.string bytes) => bytes.length + 1
  | .lit _ => 1
  | .nil => 1
  | .ptr d => uptoBulk d + 1
  | .slice elems spare => uptoBulkAll elems + uptoBulkAll spare + 1
  | .agg parts => uptoBulkAll parts + 1
  | .iface _ d => uptoBulk d + 1
  | .map entries => uptoBulkEntries entries + 1
  | .held _ => 1
def uptoBulkAll {H : Type} : List (DataW H) → Nat
  | [] => 0
  | d :: r => uptoBulk d + uptoBulkAll r
def uptoBulkEntries {H : Type} : List (Lit × DataW H) → Nat
  | [] => 0
  | x :: r => uptoBulkEntry x + uptoBulkEntries r
def uptoBulkEntry {H : Type} : Lit × DataW H → Nat
  | (.string bytes, d) => bytes.length + uptoBulk d + 1
  | (_, d) => uptoBulk d + 1
 end
def uptoSmall : (H : Type) → List (DataW H) → Bool := fun _ ds => decide (uptoBulkAll ds ≤ 1048576)
def OpenSpec.upto (s : _root_.Go.ChangeSpec) : _root_.Go.OpenSpec := { _root_.Go.OpenSpec.ofChange s with cond := some uptoSmall }

/-- 'glazierlaw07.IdentFresh', WHERE WHAT IT READS IS OF BULK AT MOST 1048576: true; the input reads as it did. -/
def identFreshUptoRow : OpenClaim := { program := "ytnkiljopbilknaa", sum := "aa253abcb826506b542d81a6a87bac8f8a1803d6a67375d52fe40b511d3c2f49", func := "glazier/glazierlaw07.IdentFresh", spec := "identFresh", apart := false, narrowed := true }
def IdentFreshUptoSaid : Prop := identFreshUptoRow.holds Try.pinned (OpenSpec.upto identFreshSpec)

/-- 'glazierlaw07.IdentFull', WHERE WHAT IT READS IS OF BULK AT MOST 1048576: true; the input reads as it did. -/
def identFullUptoRow : OpenClaim := { program := "ytnkiljopbilknaa", sum := "aa253abcb826506b542d81a6a87bac8f8a1803d6a67375d52fe40b511d3c2f49", func := "glazier/glazierlaw07.IdentFull", spec := "identFull", apart := false, narrowed := true }
def IdentFullUptoSaid : Prop := identFullUptoRow.holds Try.pinned (OpenSpec.upto identFullSpec)

/-- 'glazierlaw07.IdentWhose', WHERE WHAT IT READS IS OF BULK AT MOST 1048576: true; the input reads as it did. -/
def identWhoseUptoRow : OpenClaim := { program := "ytnkiljopbilknaa", sum := "aa253abcb826506b542d81a6a87bac8f8a1803d6a67375d52fe40b511d3c2f49", func := "glazier/glazierlaw07.IdentWhose", spec := "identWhose", apart := false, narrowed := true }
def IdentWhoseUptoSaid : Prop := identWhoseUptoRow.holds Try.pinned (OpenSpec.upto identWhoseSpec)

/-- 'glazierlaw07.IdentBase', WHERE WHAT IT READS IS OF BULK AT MOST 1048576: true; the input reads as it did. -/
def identBaseUptoRow : OpenClaim := { program := "ytnkiljopbilknaa", sum := "aa253abcb826506b542d81a6a87bac8f8a1803d6a67375d52fe40b511d3c2f49", func := "glazier/glazierlaw07.IdentBase", spec := "identBase", apart := false, narrowed := true }
def IdentBaseUptoSaid : Prop := identBaseUptoRow.holds Try.pinned (OpenSpec.upto identBaseSpec)

/-- 'glazierlaw07.IdentNext', WHERE WHAT IT READS IS OF BULK AT MOST 1048576: true; the input reads as it did. -/
def identNextUptoRow : OpenClaim := { program := "ytnkiljopbilknaa", sum := "aa253abcb826506b542d81a6a87bac8f8a1803d6a67375d52fe40b511d3c2f49", func := "glazier/glazierlaw07.IdentNext", spec := "identNext", apart := false, narrowed := true }
def IdentNextUptoSaid : Prop := identNextUptoRow.holds Try.pinned (OpenSpec.upto identNextSpec)

/-- 'glazierlaw07.IdentOnce', WHERE WHAT IT READS IS OF BULK AT MOST 1048576: true; the input reads as it did. -/
def identOnceUptoRow : OpenClaim := { program := "ytnkiljopbilknaa", sum := "aa253abcb826506b542d81a6a87bac8f8a1803d6a67375d52fe40b511d3c2f49", func := "glazier/glazierlaw07.IdentOnce", spec := "identOnce", apart := false, narrowed := true }
def IdentOnceUptoSaid : Prop := identOnceUptoRow.holds Try.pinned (OpenSpec.upto identOnceSpec)

end Rows
end Go.Proofs.Ytnkiljopbilknaa
