/-
  DERIVED. GIVEN WITH THE SEED: THE CARDS: each row of YtdcoomeagbjhlaaDoorRows.lean that lists a variable, with what it lists TIED to the program's text (the seventh form; the later family's looks); each row that meets fmt, with fmt's text TOLD by the authors' own Lean function (tested against real Go, not proved from fmt's source: count such statements apart). THE CARD IS WHAT COUNTS. Prove the row's statement (the work); the ties are given (YtdcoomeagbjhlaaDoorTie.lean); close each card by the builder's one call (the guide's Derived/Test/ToyasCard.lean, 'card_holds'). Laid BY PROGRAM, IN A SANDBOX (cutbox-door.mjs). By AI agents, Wed Nov 11 2026. No macro, syntax, notation, axiom, sorry.
-/
import Derived.Test.YtdcoomeagbjhlaaDoorRows
import GoSem.ClaimSeven
namespace Go.Proofs.YtdcoomeagbjhlaaDoor
namespace Rows

/-- THE TIED CARD OF 'glaziertop.TopLossy'. -/
def topLossyCard : Claim7 := { stood := { row := topLossyRow, standIns := [], harness := (true, "3f487cd6cce96aa53892eab2a925a1071b3112577a77571ad86c42b02fa34c8f"), looks := false }, kinds := [], alts := [], laidByText := true, laidKinds := [.data], laidTests := true, laidLooks := .later }
def TopLossyCardSaid : Prop := Claim7.holds Tryd.pinned (.plain (OpenSpec.ofChange topLossySpec)) topLossyCard

/-- THE SECOND FORM's CARD OF 'glaziertop.TopLossy'. -/
def topLossyUptoCard : Claim7 := { stood := { row := topLossyUptoRow, standIns := [], harness := (true, "3f487cd6cce96aa53892eab2a925a1071b3112577a77571ad86c42b02fa34c8f"), looks := false }, kinds := [], alts := [], laidByText := true, laidKinds := [.data], laidTests := true, laidLooks := .later }
def TopLossyUptoCardSaid : Prop := Claim7.holds Tryd.pinned (.plain (OpenSpec.upto topLossySpec)) topLossyUptoCard
end Rows
end Go.Proofs.YtdcoomeagbjhlaaDoor
