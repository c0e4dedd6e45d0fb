/-
  DERIVED. GIVEN WITH THE SEED: THE CARDS: each row of YtjgjcpbkmeillaaDoorRows.lean that lists a variable, with what it lists TIED to the program's text (the seventh form; the later family's looks); each row that meets fmt, with fmt's text TOLD by the authors' own Lean function (tested against real Go, not proved from fmt's source: count such statements apart). THE CARD IS WHAT COUNTS. Prove the row's statement (the work); the ties are given (YtjgjcpbkmeillaaDoorTie.lean); close each card by the builder's one call (the guide's Derived/Test/ToyasCard.lean, 'card_holds'). Laid BY PROGRAM, IN A SANDBOX (cutbox-door.mjs). By AI agents, Wed Nov 11 2026. No macro, syntax, notation, axiom, sorry.
-/
import Derived.Test.YtjgjcpbkmeillaaDoorRows
import GoSem.ClaimSeven
namespace Go.Proofs.YtjgjcpbkmeillaaDoor
namespace Rows

/-- THE TIED CARD OF 'glazierlaw02.FormatPuts'. -/
def formatPutsCard : Claim7 := { stood := { row := formatPutsRow, standIns := [], harness := (true, "a946fa6f5910999f321f9e4e7444f222ec1a6de745094762b4221151bd79b2af"), looks := false }, kinds := [], alts := [], laidByText := true, laidKinds := [.data, .data], laidTests := true, laidLooks := .later }
def FormatPutsCardSaid : Prop := Claim7.holds Tryd.pinned (.plain (OpenSpec.ofChange formatPutsSpec)) formatPutsCard

/-- THE TIED CARD OF 'glazierlaw02.FormatGets'. -/
def formatGetsCard : Claim7 := { stood := { row := formatGetsRow, standIns := [], harness := (true, "a946fa6f5910999f321f9e4e7444f222ec1a6de745094762b4221151bd79b2af"), looks := false }, kinds := [], alts := [], laidByText := true, laidKinds := [.data, .data], laidTests := true, laidLooks := .later }
def FormatGetsCardSaid : Prop := Claim7.holds Tryd.pinned (.plain (OpenSpec.ofChange formatGetsSpec)) formatGetsCard

/-- THE TIED CARD OF 'glazierlaw02.FormatOrders'. -/
def formatOrdersCard : Claim7 := { stood := { row := formatOrdersRow, standIns := [], harness := (true, "a946fa6f5910999f321f9e4e7444f222ec1a6de745094762b4221151bd79b2af"), looks := false }, kinds := [], alts := [], laidByText := true, laidKinds := [.data, .data], laidTests := true, laidLooks := .later }
def FormatOrdersCardSaid : Prop := Claim7.holds Tryd.pinned (.plain (OpenSpec.ofChange formatOrdersSpec)) formatOrdersCard

/-- THE TIED CARD OF 'glazierlaw02.FormatBack'. -/
def formatBackCard : Claim7 := { stood := { row := formatBackRow, standIns := [], harness := (true, "a946fa6f5910999f321f9e4e7444f222ec1a6de745094762b4221151bd79b2af"), looks := false }, kinds := [], alts := [], laidByText := true, laidKinds := [.data, .data], laidTests := true, laidLooks := .later }
def FormatBackCardSaid : Prop := Claim7.holds Tryd.pinned (.plain (OpenSpec.ofChange formatBackSpec)) formatBackCard

/-- THE TIED CARD OF 'glazierlaw02.FormatCuts'. -/
def formatCutsCard : Claim7 := { stood := { row := formatCutsRow, standIns := [], harness := (true, "a946fa6f5910999f321f9e4e7444f222ec1a6de745094762b4221151bd79b2af"), looks := false }, kinds := [], alts := [], laidByText := true, laidKinds := [.data, .data], laidTests := true, laidLooks := .later }
def FormatCutsCardSaid : Prop := Claim7.holds Tryd.pinned (.plain (OpenSpec.ofChange formatCutsSpec)) formatCutsCard

/-- THE TIED CARD OF 'glazierlaw02.FormatSame'. -/
def formatSameCard : Claim7 := { stood := { row := formatSameRow, standIns := [], harness := (true, "a946fa6f5910999f321f9e4e7444f222ec1a6de745094762b4221151bd79b2af"), looks := false }, kinds := [], alts := [], laidByText := true, laidKinds := [.data, .data], laidTests := true, laidLooks := .later }
def FormatSameCardSaid : Prop := Claim7.holds Tryd.pinned (.plain (OpenSpec.ofChange formatSameSpec)) formatSameCard

/-- THE SECOND FORM's CARD OF 'glazierlaw02.FormatPuts'. -/
def formatPutsUptoCard : Claim7 := { stood := { row := formatPutsUptoRow, standIns := [], harness := (true, "a946fa6f5910999f321f9e4e7444f222ec1a6de745094762b4221151bd79b2af"), looks := false }, kinds := [], alts := [], laidByText := true, laidKinds := [.data, .data], laidTests := true, laidLooks := .later }
def FormatPutsUptoCardSaid : Prop := Claim7.holds Tryd.pinned (.plain (OpenSpec.upto formatPutsSpec)) formatPutsUptoCard

/-- THE SECOND FORM's CARD OF 'glazierlaw02.FormatGets'. -/
def formatGetsUptoCard : Claim7 := { stood := { row := formatGetsUptoRow, standIns := [], harness := (true, "a946fa6f5910999f321f9e4e7444f222ec1a6de745094762b4221151bd79b2af"), looks := false }, kinds := [], alts := [], laidByText := true, laidKinds := [.data, .data], laidTests := true, laidLooks := .later }
def FormatGetsUptoCardSaid : Prop := Claim7.holds Tryd.pinned (.plain (OpenSpec.upto formatGetsSpec)) formatGetsUptoCard

/-- THE SECOND FORM's CARD OF 'glazierlaw02.FormatOrders'. -/
def formatOrdersUptoCard : Claim7 := { stood := { row := formatOrdersUptoRow, standIns := [], harness := (true, "a946fa6f5910999f321f9e4e7444f222ec1a6de745094762b4221151bd79b2af"), looks := false }, kinds := [], alts := [], laidByText := true, laidKinds := [.data, .data], laidTests := true, laidLooks := .later }
def FormatOrdersUptoCardSaid : Prop := Claim7.holds Tryd.pinned (.plain (OpenSpec.upto formatOrdersSpec)) formatOrdersUptoCard

/-- THE SECOND FORM's CARD OF 'glazierlaw02.FormatBack'. -/
def formatBackUptoCard : Claim7 := { stood := { row := formatBackUptoRow, standIns := [], harness := (true, "a946fa6f5910999f321f9e4e7444f222ec1a6de745094762b4221151bd79b2af"), looks := false }, kinds := [], alts := [], laidByText := true, laidKinds := [.data, .data], laidTests := true, laidLooks := .later }
def FormatBackUptoCardSaid : Prop := Claim7.holds Tryd.pinned (.plain (OpenSpec.upto formatBackSpec)) formatBackUptoCard

/-- THE SECOND FORM's CARD OF 'glazierlaw02.FormatCuts'. -/
def formatCutsUptoCard : Claim7 := { stood := { row := formatCutsUptoRow, standIns := [], harness := (true, "a946fa6f5910999f321f9e4e7444f222ec1a6de745094762b4221151bd79b2af"), looks := false }, kinds := [], alts := [], laidByText := true, laidKinds := [.data, .data], laidTests := true, laidLooks := .later }
def FormatCutsUptoCardSaid : Prop := Claim7.holds Tryd.pinned (.plain (OpenSpec.upto formatCutsSpec)) formatCutsUptoCard

/-- THE SECOND FORM's CARD OF 'glazierlaw02.FormatSame'. -/
def formatSameUptoCard : Claim7 := { stood := { row := formatSameUptoRow, standIns := [], harness := (true, "a946fa6f5910999f321f9e4e7444f222ec1a6de745094762b4221151bd79b2af"), looks := false }, kinds := [], alts := [], laidByText := true, laidKinds := [.data, .data], laidTests := true, laidLooks := .later }
def FormatSameUptoCardSaid : Prop := Claim7.holds Tryd.pinned (.plain (OpenSpec.upto formatSameSpec)) formatSameUptoCard
end Rows
end Go.Proofs.YtjgjcpbkmeillaaDoor
