/-
  No cell of these rows narrows 'for every input' (looked for: loops, veiled, ifaces, maps, wideKeys, modest, calm, conditions, laid).
  DERIVED. THE GIVEN ROWS OF THIS SEAT. 7 by the template 'for every input the law returns true; each argument reads behind the call as it read before'; 0 by the template 'total and deterministic' (their statements: YtpopnaeojjcngaaTotals.lean).
  GIVEN WITH THE SEED: the statements are not yours to turn. If you find one false, say at which input.
  Laid BY PROGRAM, IN A SANDBOX (cutbox-rows.mjs): the forced cells as the released guide's own fill.sh prints them over the translation e8d8a274689e8d01… (all of the seat's roots in one cut). By AI agents, Wed Nov 11 2026. No macro, syntax, notation, axiom, sorry.
-/
import Derived.Test.YtpopnaeojjcngaaChecked
import GoSem.Claim
import GoSem.ClaimJoined
import GoSem.ClaimMapViews
import Derived.JoinedTies
import Derived.KernelRfl
namespace Go.Proofs.Ytpopnaeojjcngaa
/- THE CELL 'sum', in the pinned program and in every row, IS THE sha256 OF THE DUMP (.gsa) THAT YtpopnaeojjcngaaProg.lean LOADS. Nothing in Lean hashes anything: it is a label: what it is worth is what the hold of that sum in a sandbox is worth. -/
noncomputable def Try.pinned : Pinned := { name := "ytpopnaeojjcngaa", sum := "e8d8a274689e8d012637941aa67f472d5dec5aebbd17945aeef3b71c229a4623", checked := Try.checked }
namespace Rows
def none {H : Type} : Left H := { results := [], args := [] }

/-- 'glazierlaw42.PiecesGives': WHATEVER THE INPUT: true; the input reads as it did. -/
def piecesGivesSpec : ChangeSpec := { name := "piecesGives", fn := fun _ => fun
  | [d1, d2] => { results := [.lit (.bool true)], args := [d1, d2] }
  | _ => none }
def piecesGivesRow : OpenClaim := { program := "ytpopnaeojjcngaa", sum := "e8d8a274689e8d012637941aa67f472d5dec5aebbd17945aeef3b71c229a4623", func := "glazier/glazierlaw42.PiecesGives", spec := "piecesGives", unfollowed := true, recurses := true, apart := false }
def PiecesGivesSaid : Prop := piecesGivesRow.holds Try.pinned (OpenSpec.ofChange piecesGivesSpec)

/-- ITS FALSE NEIGHBOUR: 'it returns false'. Refute it at one input. -/
def piecesGivesWrong : ChangeSpec := { name := "piecesGives", fn := fun _ => fun
  | [d1, d2] => { results := [.lit (.bool false)], args := [d1, d2] }
  | _ => none }
def PiecesGivesWrongFalsely : Prop := piecesGivesRow.holds Try.pinned (OpenSpec.ofChange piecesGivesWrong)

/-- 'glazierlaw42.PiecesFull': WHATEVER THE INPUT: true; the input reads as it did. -/
def piecesFullSpec : ChangeSpec := { name := "piecesFull", fn := fun _ => fun
  | [d1, d2] => { results := [.lit (.bool true)], args := [d1, d2] }
  | _ => none }
def piecesFullRow : OpenClaim := { program := "ytpopnaeojjcngaa", sum := "e8d8a274689e8d012637941aa67f472d5dec5aebbd17945aeef3b71c229a4623", func := "glazier/glazierlaw42.PiecesFull", spec := "piecesFull", unfollowed := true, recurses := true, apart := false }
def PiecesFullSaid : Prop := piecesFullRow.holds Try.pinned (OpenSpec.ofChange piecesFullSpec)

/-- ITS FALSE NEIGHBOUR: 'it returns false'. Refute it at one input. -/
def piecesFullWrong : ChangeSpec := { name := "piecesFull", fn := fun _ => fun
  | [d1, d2] => { results := [.lit (.bool false)], args := [d1, d2] }
  | _ => none }
def PiecesFullWrongFalsely : Prop := piecesFullRow.holds Try.pinned (OpenSpec.ofChange piecesFullWrong)

/-- 'glazierlaw42.PiecesCodes': WHATEVER THE INPUT: true; the input reads as it did. -/
def piecesCodesSpec : ChangeSpec := { name := "piecesCodes", fn := fun _ => fun
  | [d] => { results := [.lit (.bool true)], args := [d] }
  | _ => none }
def piecesCodesRow : OpenClaim := { program := "ytpopnaeojjcngaa", sum := "e8d8a274689e8d012637941aa67f472d5dec5aebbd17945aeef3b71c229a4623", func := "glazier/glazierlaw42.PiecesCodes", spec := "piecesCodes", unfollowed := true, recurses := true, apart := false }
def PiecesCodesSaid : Prop := piecesCodesRow.holds Try.pinned (OpenSpec.ofChange piecesCodesSpec)

/-- ITS FALSE NEIGHBOUR: 'it returns false'. Refute it at one input. -/
def piecesCodesWrong : ChangeSpec := { name := "piecesCodes", fn := fun _ => fun
  | [d] => { results := [.lit (.bool false)], args := [d] }
  | _ => none }
def PiecesCodesWrongFalsely : Prop := piecesCodesRow.holds Try.pinned (OpenSpec.ofChange piecesCodesWrong)

/-- 'glazierlaw42.PiecesReads': WHATEVER THE INPUT: true; the input reads as it did. -/
def piecesReadsSpec : ChangeSpec := { name := "piecesReads", fn := fun _ => fun
  | [d] => { results := [.lit (.bool true)], args := [d] }
  | _ => none }
def piecesReadsRow : OpenClaim := { program := "ytpopnaeojjcngaa", sum := "e8d8a274689e8d012637941aa67f472d5dec5aebbd17945aeef3b71c229a4623", func := "glazier/glazierlaw42.PiecesReads", spec := "piecesReads", unfollowed := true, recurses := true, apart := false }
def PiecesReadsSaid : Prop := piecesReadsRow.holds Try.pinned (OpenSpec.ofChange piecesReadsSpec)

/-- ITS FALSE NEIGHBOUR: 'it returns false'. Refute it at one input. -/
def piecesReadsWrong : ChangeSpec := { name := "piecesReads", fn := fun _ => fun
  | [d] => { results := [.lit (.bool false)], args := [d] }
  | _ => none }
def PiecesReadsWrongFalsely : Prop := piecesReadsRow.holds Try.pinned (OpenSpec.ofChange piecesReadsWrong)

/-- 'glazierlaw42.PiecesStays': WHATEVER THE INPUT: true; the input reads as it did. -/
def piecesStaysSpec : ChangeSpec := { name := "piecesStays", fn := fun _ => fun
  | [d1, d2, d3] => { results := [.lit (.bool true)], args := [d1, d2, d3] }
  | _ => none }
def piecesStaysRow : OpenClaim := { program := "ytpopnaeojjcngaa", sum := "e8d8a274689e8d012637941aa67f472d5dec5aebbd17945aeef3b71c229a4623", func := "glazier/glazierlaw42.PiecesStays", spec := "piecesStays", unfollowed := true, recurses := true, apart := false }
def PiecesStaysSaid : Prop := piecesStaysRow.holds Try.pinned (OpenSpec.ofChange piecesStaysSpec)

/-- ITS FALSE NEIGHBOUR: 'it returns false'. Refute it at one input. -/
def piecesStaysWrong : ChangeSpec := { name := "piecesStays", fn := fun _ => fun
  | [d1, d2, d3] => { results := [.lit (.bool false)], args := [d1, d2, d3] }
  | _ => none }
def PiecesStaysWrongFalsely : Prop := piecesStaysRow.holds Try.pinned (OpenSpec.ofChange piecesStaysWrong)

/-- 'glazierlaw42.PiecesTakes': WHATEVER THE INPUT: true; the input reads as it did. -/
def piecesTakesSpec : ChangeSpec := { name := "piecesTakes", fn := fun _ => fun
  | [d1, d2] => { results := [.lit (.bool true)], args := [d1, d2] }
  | _ => none }
def piecesTakesRow : OpenClaim := { program := "ytpopnaeojjcngaa", sum := "e8d8a274689e8d012637941aa67f472d5dec5aebbd17945aeef3b71c229a4623", func := "glazier/glazierlaw42.PiecesTakes", spec := "piecesTakes", unfollowed := true, recurses := true, apart := false }
def PiecesTakesSaid : Prop := piecesTakesRow.holds Try.pinned (OpenSpec.ofChange piecesTakesSpec)

/-- ITS FALSE NEIGHBOUR: 'it returns false'. Refute it at one input. -/
def piecesTakesWrong : ChangeSpec := { name := "piecesTakes", fn := fun _ => fun
  | [d1, d2] => { results := [.lit (.bool false)], args := [d1, d2] }
  | _ => none }
def PiecesTakesWrongFalsely : Prop := piecesTakesRow.holds Try.pinned (OpenSpec.ofChange piecesTakesWrong)

/-- 'glazierlaw42.PiecesWhole': WHATEVER THE INPUT: true; the input reads as it did. -/
def piecesWholeSpec : ChangeSpec := { name := "piecesWhole", fn := fun _ => fun
  | [d1, d2] => { results := [.lit (.bool true)], args := [d1, d2] }
  | _ => none }
def piecesWholeRow : OpenClaim := { program := "ytpopnaeojjcngaa", sum := "e8d8a274689e8d012637941aa67f472d5dec5aebbd17945aeef3b71c229a4623", func := "glazier/glazierlaw42.PiecesWhole", spec := "piecesWhole", unfollowed := true, recurses := true, apart := false }
def PiecesWholeSaid : Prop := piecesWholeRow.holds Try.pinned (OpenSpec.ofChange piecesWholeSpec)

/-- ITS FALSE NEIGHBOUR: 'it returns false'. Refute it at one input. -/
def piecesWholeWrong : ChangeSpec := { name := "piecesWhole", fn := fun _ => fun
  | [d1, d2] => { results := [.lit (.bool false)], args := [d1, d2] }
  | _ => none }
def PiecesWholeWrongFalsely : Prop := piecesWholeRow.holds Try.pinned (OpenSpec.ofChange piecesWholeWrong)

/- THE SECOND FORM. 'bulk': how many values and letters a reading holds, each counted each time it is reached (what is shared counts as often as it is met; a slice's spare places count too). A statement '..UptoSaid' is the law's where the arguments, and the package variables that the reading takes, are together of bulk at most 1048576: NARROWER than '..Said'. Prove '..Said' where nothing that the law and all that it calls make is longer than what came in: it says more and counts as full. Else prove '..UptoSaid'. A law counts once. -/
mutual
def uptoBulk {H : Type} : DataW H → Nat
  | .lit (.string bytes) => bytes.length + 1
  | .lit _ => 1
  | .nil => 1
  | .ptr d => uptoBulk d + 1
  | .slice elems spare => uptoBulkAll elems + uptoBulkAll spare + 1
  | .agg parts => uptoBulkAll parts + 1
  | .iface _ d => uptoBulk d + 1
  | .map entries => uptoBulkEntries entries + 1
  | .held _ => 1
def uptoBulkAll {H : Type} : List (DataW H) → Nat
  | [] => 0
  | d :: r => uptoBulk d + uptoBulkAll r
def uptoBulkEntries {H : Type} : List (Lit × DataW H) → Nat
  | [] => 0
  | x :: r => uptoBulkEntry x + uptoBulkEntries r
def uptoBulkEntry {H : Type} : Lit × DataW H → Nat
  | (.string bytes, d) => bytes.length + uptoBulk d + 1
  | (_, d) => uptoBulk d + 1
 end
def uptoSmall : (H : Type) → List (DataW H) → Bool := fun _ ds => decide (uptoBulkAll ds ≤ 1048576)
def OpenSpec.upto (s : _root_.Go.ChangeSpec) : _root_.Go.OpenSpec := { _root_.Go.OpenSpec.ofChange s with cond := some uptoSmall }

/-- 'glazierlaw42.PiecesGives', WHERE WHAT IT READS IS OF BULK AT MOST 1048576: true; the input reads as it did. -/
def piecesGivesUptoRow : OpenClaim := { program := "ytpopnaeojjcngaa", sum := "e8d8a274689e8d012637941aa67f472d5dec5aebbd17945aeef3b71c229a4623", func := "glazier/glazierlaw42.PiecesGives", spec := "piecesGives", unfollowed := true, recurses := true, apart := false, narrowed := true }
def PiecesGivesUptoSaid : Prop := piecesGivesUptoRow.holds Try.pinned (OpenSpec.upto piecesGivesSpec)

/-- 'glazierlaw42.PiecesFull', WHERE WHAT IT READS IS OF BULK AT MOST 1048576: true; the input reads as it did. -/
def piecesFullUptoRow : OpenClaim := { program := "ytpopnaeojjcngaa", sum := "e8d8a274689e8d012637941aa67f472d5dec5aebbd17945aeef3b71c229a4623", func := "glazier/glazierlaw42.PiecesFull", spec := "piecesFull", unfollowed := true, recurses := true, apart := false, narrowed := true }
def PiecesFullUptoSaid : Prop := piecesFullUptoRow.holds Try.pinned (OpenSpec.upto piecesFullSpec)

/-- 'glazierlaw42.PiecesCodes', WHERE WHAT IT READS IS OF BULK AT MOST 1048576: true; the input reads as it did. -/
def piecesCodesUptoRow : OpenClaim := { program := "ytpopnaeojjcngaa", sum := "e8d8a274689e8d012637941aa67f472d5dec5aebbd17945aeef3b71c229a4623", func := "glazier/glazierlaw42.PiecesCodes", spec := "piecesCodes", unfollowed := true, recurses := true, apart := false, narrowed := true }
def PiecesCodesUptoSaid : Prop := piecesCodesUptoRow.holds Try.pinned (OpenSpec.upto piecesCodesSpec)

/-- 'glazierlaw42.PiecesReads', WHERE WHAT IT READS IS OF BULK AT MOST 1048576: true; the input reads as it did. -/
def piecesReadsUptoRow : OpenClaim := { program := "ytpopnaeojjcngaa", sum := "e8d8a274689e8d012637941aa67f472d5dec5aebbd17945aeef3b71c229a4623", func := "glazier/glazierlaw42.PiecesReads", spec := "piecesReads", unfollowed := true, recurses := true, apart := false, narrowed := true }
def PiecesReadsUptoSaid : Prop := piecesReadsUptoRow.holds Try.pinned (OpenSpec.upto piecesReadsSpec)

/-- 'glazierlaw42.PiecesStays', WHERE WHAT IT READS IS OF BULK AT MOST 1048576: true; the input reads as it did. -/
def piecesStaysUptoRow : OpenClaim := { program := "ytpopnaeojjcngaa", sum := "e8d8a274689e8d012637941aa67f472d5dec5aebbd17945aeef3b71c229a4623", func := "glazier/glazierlaw42.PiecesStays", spec := "piecesStays", unfollowed := true, recurses := true, apart := false, narrowed := true }
def PiecesStaysUptoSaid : Prop := piecesStaysUptoRow.holds Try.pinned (OpenSpec.upto piecesStaysSpec)

/-- 'glazierlaw42.PiecesTakes', WHERE WHAT IT READS IS OF BULK AT MOST 1048576: true; the input reads as it did. -/
def piecesTakesUptoRow : OpenClaim := { program := "ytpopnaeojjcngaa", sum := "e8d8a274689e8d012637941aa67f472d5dec5aebbd17945aeef3b71c229a4623", func := "glazier/glazierlaw42.PiecesTakes", spec := "piecesTakes", unfollowed := true, recurses := true, apart := false, narrowed := true }
def PiecesTakesUptoSaid : Prop := piecesTakesUptoRow.holds Try.pinned (OpenSpec.upto piecesTakesSpec)

/-- 'glazierlaw42.PiecesWhole', WHERE WHAT IT READS IS OF BULK AT MOST 1048576: true; the input reads as it did. -/
def piecesWholeUptoRow : OpenClaim := { program := "ytpopnaeojjcngaa", sum := "e8d8a274689e8d012637941aa67f472d5dec5aebbd17945aeef3b71c229a4623", func := "glazier/glazierlaw42.PiecesWhole", spec := "piecesWhole", unfollowed := true, recurses := true, apart := false, narrowed := true }
def PiecesWholeUptoSaid : Prop := piecesWholeUptoRow.holds Try.pinned (OpenSpec.upto piecesWholeSpec)

end Rows
end Go.Proofs.Ytpopnaeojjcngaa
