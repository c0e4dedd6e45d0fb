/-
  NARROWER THAN 'FOR EVERY INPUT', by the rows' own cells (each row's printed sentence says how): AtomPairs: laid · AtomAgain: laid · AtomFull: laid · AtomPlays: laid · AtomKnown: laid · AtomSplits: laid.
  DERIVED. THE GIVEN ROWS OF THIS SEAT. 6 by the template 'for every input the law returns true; each argument reads behind the call as it read before'; 0 by the template 'total and deterministic' (their statements: YtgbpjpacmepicaaDoorTotals.lean).
  GIVEN WITH THE SEED: the statements are not yours to turn. If you find one false, say at which input.
  Laid BY PROGRAM, IN A SANDBOX (cutbox-rows.mjs): the forced cells as the released guide's own fill.sh prints them over the translation 591c79a716417f6c… (all of the seat's roots in one cut). By AI agents, Wed Nov 11 2026. No macro, syntax, notation, axiom, sorry.
-/
import Derived.Test.YtgbpjpacmepicaaDoorChecked
import GoSem.Claim
import GoSem.ClaimJoined
import GoSem.ClaimMapViews
import Derived.JoinedTies
import Derived.KernelRfl
namespace Go.Proofs.YtgbpjpacmepicaaDoor
/- THE CELL 'sum', in the pinned program and in every row, IS THE sha256 OF THE DUMP (.gsa) THAT YtgbpjpacmepicaaDoorProg.lean LOADS. Nothing in Lean hashes anything: it is a label: what it is worth is what the hold of that sum in a sandbox is worth. -/
noncomputable def Tryd.pinned : Pinned := { name := "ytgbpjpacmepicaadoor", sum := "591c79a716417f6c1de42bb8de82727e352b256eff4af9d708ed3e83df3098e7", checked := Tryd.checked }
namespace Rows
def none {H : Type} : Left H := { results := [], args := [] }

/- WHAT THE LISTED PACKAGE-LEVEL VARIABLES READ AS WHEN THE CALL BEGINS. Each datum BY PROGRAM (the guide's laid-datum.mjs) off the statement by which the dump's own 'gosem.cut.vars' lays the variable. In a bare row this is a premise. The card (YtgbpjpacmepicaaDoorCards.lean) ties it to the program's text. -/
def laid_glazier_atom_known {H : Type} : DataW H := .agg [.lit (.string [112, 114, 105, 109, 97, 114, 121]), .lit (.string [115, 101, 99, 111, 110, 100, 97, 114, 121]), .lit (.string [99, 108, 105, 112, 98, 111, 97, 114, 100]), .lit (.string [115, 116, 114, 105, 110, 103]), .lit (.string [105, 110, 116, 101, 103, 101, 114]), .lit (.string [97, 116, 111, 109, 115]), .lit (.string [105, 110, 99, 114]), .lit (.string [116, 105, 116, 108, 101]), .lit (.string [116, 114, 97, 110, 115, 102, 101, 114]), .lit (.string [99, 108, 111, 115, 101])]

/-- 'glazierlaw09.AtomPairs': WHATEVER THE INPUT: true; the input reads as it did. -/
def atomPairsSpec : ChangeSpec := { name := "atomPairs", fn := fun _ => fun
  | [d] => { results := [.lit (.bool true)], args := [d] }
  | _ => none }
def atomPairsRow : OpenClaim := { program := "ytgbpjpacmepicaadoor", sum := "591c79a716417f6c1de42bb8de82727e352b256eff4af9d708ed3e83df3098e7", func := "glazier/glazierlaw09.AtomPairs", spec := "atomPairs", named := ["glazier/atom.known"], apart := false, laid := [("glazier/atom.known", laid_glazier_atom_known)] }
def AtomPairsSaid : Prop := atomPairsRow.holds Tryd.pinned (OpenSpec.ofChange atomPairsSpec)

/-- ITS FALSE NEIGHBOUR: 'it returns false'. Refute it at one input. -/
def atomPairsWrong : ChangeSpec := { name := "atomPairs", fn := fun _ => fun
  | [d] => { results := [.lit (.bool false)], args := [d] }
  | _ => none }
def AtomPairsWrongFalsely : Prop := atomPairsRow.holds Tryd.pinned (OpenSpec.ofChange atomPairsWrong)

/-- 'glazierlaw09.AtomAgain': WHATEVER THE INPUT: true; the input reads as it did. -/
def atomAgainSpec : ChangeSpec := { name := "atomAgain", fn := fun _ => fun
  | [d1, d2] => { results := [.lit (.bool true)], args := [d1, d2] }
  | _ => none }
def atomAgainRow : OpenClaim := { program := "ytgbpjpacmepicaadoor", sum := "591c79a716417f6c1de42bb8de82727e352b256eff4af9d708ed3e83df3098e7", func := "glazier/glazierlaw09.AtomAgain", spec := "atomAgain", named := ["glazier/atom.known"], apart := false, laid := [("glazier/atom.known", laid_glazier_atom_known)] }
def AtomAgainSaid : Prop := atomAgainRow.holds Tryd.pinned (OpenSpec.ofChange atomAgainSpec)

/-- ITS FALSE NEIGHBOUR: 'it returns false'. Refute it at one input. -/
def atomAgainWrong : ChangeSpec := { name := "atomAgain", fn := fun _ => fun
  | [d1, d2] => { results := [.lit (.bool false)], args := [d1, d2] }
  | _ => none }
def AtomAgainWrongFalsely : Prop := atomAgainRow.holds Tryd.pinned (OpenSpec.ofChange atomAgainWrong)

/-- 'glazierlaw09.AtomFull': WHATEVER THE INPUT: true; the input reads as it did. -/
def atomFullSpec : ChangeSpec := { name := "atomFull", fn := fun _ => fun
  | [d1, d2] => { results := [.lit (.bool true)], args := [d1, d2] }
  | _ => none }
def atomFullRow : OpenClaim := { program := "ytgbpjpacmepicaadoor", sum := "591c79a716417f6c1de42bb8de82727e352b256eff4af9d708ed3e83df3098e7", func := "glazier/glazierlaw09.AtomFull", spec := "atomFull", named := ["glazier/atom.known"], apart := false, laid := [("glazier/atom.known", laid_glazier_atom_known)] }
def AtomFullSaid : Prop := atomFullRow.holds Tryd.pinned (OpenSpec.ofChange atomFullSpec)

/-- ITS FALSE NEIGHBOUR: 'it returns false'. Refute it at one input. -/
def atomFullWrong : ChangeSpec := { name := "atomFull", fn := fun _ => fun
  | [d1, d2] => { results := [.lit (.bool false)], args := [d1, d2] }
  | _ => none }
def AtomFullWrongFalsely : Prop := atomFullRow.holds Tryd.pinned (OpenSpec.ofChange atomFullWrong)

/-- 'glazierlaw09.AtomPlays': WHATEVER THE INPUT: true; the input reads as it did. -/
def atomPlaysSpec : ChangeSpec := { name := "atomPlays", fn := fun _ => fun
  | [d1, d2, d3] => { results := [.lit (.bool true)], args := [d1, d2, d3] }
  | _ => none }
def atomPlaysRow : OpenClaim := { program := "ytgbpjpacmepicaadoor", sum := "591c79a716417f6c1de42bb8de82727e352b256eff4af9d708ed3e83df3098e7", func := "glazier/glazierlaw09.AtomPlays", spec := "atomPlays", named := ["glazier/atom.known"], apart := false, laid := [("glazier/atom.known", laid_glazier_atom_known)] }
def AtomPlaysSaid : Prop := atomPlaysRow.holds Tryd.pinned (OpenSpec.ofChange atomPlaysSpec)

/-- ITS FALSE NEIGHBOUR: 'it returns false'. Refute it at one input. -/
def atomPlaysWrong : ChangeSpec := { name := "atomPlays", fn := fun _ => fun
  | [d1, d2, d3] => { results := [.lit (.bool false)], args := [d1, d2, d3] }
  | _ => none }
def AtomPlaysWrongFalsely : Prop := atomPlaysRow.holds Tryd.pinned (OpenSpec.ofChange atomPlaysWrong)

/-- 'glazierlaw09.AtomKnown': WHATEVER THE INPUT: true; the input reads as it did. -/
def atomKnownSpec : ChangeSpec := { name := "atomKnown", fn := fun _ => fun
  | [d] => { results := [.lit (.bool true)], args := [d] }
  | _ => none }
def atomKnownRow : OpenClaim := { program := "ytgbpjpacmepicaadoor", sum := "591c79a716417f6c1de42bb8de82727e352b256eff4af9d708ed3e83df3098e7", func := "glazier/glazierlaw09.AtomKnown", spec := "atomKnown", named := ["glazier/atom.known"], apart := false, laid := [("glazier/atom.known", laid_glazier_atom_known)] }
def AtomKnownSaid : Prop := atomKnownRow.holds Tryd.pinned (OpenSpec.ofChange atomKnownSpec)

/-- ITS FALSE NEIGHBOUR: 'it returns false'. Refute it at one input. -/
def atomKnownWrong : ChangeSpec := { name := "atomKnown", fn := fun _ => fun
  | [d] => { results := [.lit (.bool false)], args := [d] }
  | _ => none }
def AtomKnownWrongFalsely : Prop := atomKnownRow.holds Tryd.pinned (OpenSpec.ofChange atomKnownWrong)

/-- 'glazierlaw09.AtomSplits': WHATEVER THE INPUT: true; the input reads as it did. -/
def atomSplitsSpec : ChangeSpec := { name := "atomSplits", fn := fun _ => fun
  | [d1, d2, d3] => { results := [.lit (.bool true)], args := [d1, d2, d3] }
  | _ => none }
def atomSplitsRow : OpenClaim := { program := "ytgbpjpacmepicaadoor", sum := "591c79a716417f6c1de42bb8de82727e352b256eff4af9d708ed3e83df3098e7", func := "glazier/glazierlaw09.AtomSplits", spec := "atomSplits", named := ["glazier/atom.known"], apart := false, laid := [("glazier/atom.known", laid_glazier_atom_known)] }
def AtomSplitsSaid : Prop := atomSplitsRow.holds Tryd.pinned (OpenSpec.ofChange atomSplitsSpec)

/-- ITS FALSE NEIGHBOUR: 'it returns false'. Refute it at one input. -/
def atomSplitsWrong : ChangeSpec := { name := "atomSplits", fn := fun _ => fun
  | [d1, d2, d3] => { results := [.lit (.bool false)], args := [d1, d2, d3] }
  | _ => none }
def AtomSplitsWrongFalsely : Prop := atomSplitsRow.holds Tryd.pinned (OpenSpec.ofChange atomSplitsWrong)

/- THE SECOND FORM. 'bulk': how many values and letters a reading holds, each counted each time it is reached (what is shared counts as often as it is met; a slice's spare places count too). A statement '..UptoSaid' is the law's where the arguments, and the package variables that the reading takes, are together of bulk at most 1048576: NARROWER than '..Said'. Prove '..Said' where nothing that the law and all that it calls make is longer than what came in: it says more and counts as full. Else prove '..UptoSaid'. A law counts once. -/
mutual
def uptoBulk {H : Type} : DataW H → Nat
  | .lit (.string bytes) => bytes.length + 1
  | .lit _ => 1
  | .nil => 1
  | .ptr d => uptoBulk d + 1
  | .slice elems spare => uptoBulkAll elems + uptoBulkAll spare + 1
  | .agg parts => uptoBulkAll parts + 1
  | .iface _ d => uptoBulk d + 1
  | .map entries => uptoBulkEntries entries + 1
  | .held _ => 1
def uptoBulkAll {H : Type} : List (DataW H) → Nat
  | [] => 0
  | d :: r => uptoBulk d + uptoBulkAll r
def uptoBulkEntries {H : Type} : List (Lit × DataW H) → Nat
  | [] => 0
  | x :: r => uptoBulkEntry x + uptoBulkEntries r
def uptoBulkEntry {H : Type} : Lit × DataW H → Nat
  | (.string bytes, d) => bytes.length + uptoBulk d + 1
  | (_, d) => uptoBulk d + 1
 end
def uptoSmall : (H : Type) → List (DataW H) → Bool := fun _ ds => decide (uptoBulkAll ds ≤ 1048576)
def OpenSpec.upto (s : _root_.Go.ChangeSpec) : _root_.Go.OpenSpec := { _root_.Go.OpenSpec.ofChange s with cond := some uptoSmall }

/-- 'glazierlaw09.AtomPairs', WHERE WHAT IT READS IS OF BULK AT MOST 1048576: true; the input reads as it did. -/
def atomPairsUptoRow : OpenClaim := { program := "ytgbpjpacmepicaadoor", sum := "591c79a716417f6c1de42bb8de82727e352b256eff4af9d708ed3e83df3098e7", func := "glazier/glazierlaw09.AtomPairs", spec := "atomPairs", named := ["glazier/atom.known"], apart := false, laid := [("glazier/atom.known", laid_glazier_atom_known)], narrowed := true }
def AtomPairsUptoSaid : Prop := atomPairsUptoRow.holds Tryd.pinned (OpenSpec.upto atomPairsSpec)

/-- 'glazierlaw09.AtomAgain', WHERE WHAT IT READS IS OF BULK AT MOST 1048576: true; the input reads as it did. -/
def atomAgainUptoRow : OpenClaim := { program := "ytgbpjpacmepicaadoor", sum := "591c79a716417f6c1de42bb8de82727e352b256eff4af9d708ed3e83df3098e7", func := "glazier/glazierlaw09.AtomAgain", spec := "atomAgain", named := ["glazier/atom.known"], apart := false, laid := [("glazier/atom.known", laid_glazier_atom_known)], narrowed := true }
def AtomAgainUptoSaid : Prop := atomAgainUptoRow.holds Tryd.pinned (OpenSpec.upto atomAgainSpec)

/-- 'glazierlaw09.AtomFull', WHERE WHAT IT READS IS OF BULK AT MOST 1048576: true; the input reads as it did. -/
def atomFullUptoRow : OpenClaim := { program := "ytgbpjpacmepicaadoor", sum := "591c79a716417f6c1de42bb8de82727e352b256eff4af9d708ed3e83df3098e7", func := "glazier/glazierlaw09.AtomFull", spec := "atomFull", named := ["glazier/atom.known"], apart := false, laid := [("glazier/atom.known", laid_glazier_atom_known)], narrowed := true }
def AtomFullUptoSaid : Prop := atomFullUptoRow.holds Tryd.pinned (OpenSpec.upto atomFullSpec)

/-- 'glazierlaw09.AtomPlays', WHERE WHAT IT READS IS OF BULK AT MOST 1048576: true; the input reads as it did. -/
def atomPlaysUptoRow : OpenClaim := { program := "ytgbpjpacmepicaadoor", sum := "591c79a716417f6c1de42bb8de82727e352b256eff4af9d708ed3e83df3098e7", func := "glazier/glazierlaw09.AtomPlays", spec := "atomPlays", named := ["glazier/atom.known"], apart := false, laid := [("glazier/atom.known", laid_glazier_atom_known)], narrowed := true }
def AtomPlaysUptoSaid : Prop := atomPlaysUptoRow.holds Tryd.pinned (OpenSpec.upto atomPlaysSpec)

/-- 'glazierlaw09.AtomKnown', WHERE WHAT IT READS IS OF BULK AT MOST 1048576: true; the input reads as it did. -/
def atomKnownUptoRow : OpenClaim := { program := "ytgbpjpacmepicaadoor", sum := "591c79a716417f6c1de42bb8de82727e352b256eff4af9d708ed3e83df3098e7", func := "glazier/glazierlaw09.AtomKnown", spec := "atomKnown", named := ["glazier/atom.known"], apart := false, laid := [("glazier/atom.known", laid_glazier_atom_known)], narrowed := true }
def AtomKnownUptoSaid : Prop := atomKnownUptoRow.holds Tryd.pinned (OpenSpec.upto atomKnownSpec)

/-- 'glazierlaw09.AtomSplits', WHERE WHAT IT READS IS OF BULK AT MOST 1048576: true; the input reads as it did. -/
def atomSplitsUptoRow : OpenClaim := { program := "ytgbpjpacmepicaadoor", sum := "591c79a716417f6c1de42bb8de82727e352b256eff4af9d708ed3e83df3098e7", func := "glazier/glazierlaw09.AtomSplits", spec := "atomSplits", named := ["glazier/atom.known"], apart := false, laid := [("glazier/atom.known", laid_glazier_atom_known)], narrowed := true }
def AtomSplitsUptoSaid : Prop := atomSplitsUptoRow.holds Tryd.pinned (OpenSpec.upto atomSplitsSpec)

end Rows
end Go.Proofs.YtgbpjpacmepicaaDoor
