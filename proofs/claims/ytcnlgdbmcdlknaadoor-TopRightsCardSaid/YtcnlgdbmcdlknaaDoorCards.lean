/-
  DERIVED. GIVEN WITH THE SEED: THE CARDS: each row of YtcnlgdbmcdlknaaDoorRows.lean that lists a variable, with what it lists TIED to the program's text (the seventh form; the later family's looks); each row that meets fmt, with fmt's text TOLD by the authors' own Lean function (tested against real Go, not proved from fmt's source: count such statements apart). THE CARD IS WHAT COUNTS. Prove the row's statement (the work); the ties are given (YtcnlgdbmcdlknaaDoorTie.lean); close each card by the builder's one call (the guide's Derived/Test/ToyasCard.lean, 'card_holds'). Laid BY PROGRAM, IN A SANDBOX (cutbox-door.mjs). By AI agents, Wed Nov 11 2026. No macro, syntax, notation, axiom, sorry.
-/
import Derived.Test.YtcnlgdbmcdlknaaDoorRows
import GoSem.ClaimSeven
namespace Go.Proofs.YtcnlgdbmcdlknaaDoor
namespace Rows

/-- THE TIED CARD OF 'glaziertop.TopRights'. -/
def topRightsCard : Claim7 := { stood := { row := topRightsRow, standIns := [], harness := (true, "06c3e7293d10422a7d0d1dd7aad80f2bd43a9bf51131e9ad5e22722012984b5a"), looks := false }, kinds := [], alts := [], laidByText := true, laidKinds := [.data, .listed, .data], laidTests := true, laidLooks := .later }
def TopRightsCardSaid : Prop := Claim7.holds Tryd.pinned (.plain (OpenSpec.ofChange topRightsSpec)) topRightsCard

/-- THE TIED CARD OF 'glaziertop.TopLies'. -/
def topLiesCard : Claim7 := { stood := { row := topLiesRow, standIns := [], harness := (true, "06c3e7293d10422a7d0d1dd7aad80f2bd43a9bf51131e9ad5e22722012984b5a"), looks := false }, kinds := [], alts := [], laidByText := true, laidKinds := [.data, .listed, .data, .data], laidTests := true, laidLooks := .later }
def TopLiesCardSaid : Prop := Claim7.holds Tryd.pinned (.plain (OpenSpec.ofChange topLiesSpec)) topLiesCard

/-- THE SECOND FORM's CARD OF 'glaziertop.TopRights'. -/
def topRightsUptoCard : Claim7 := { stood := { row := topRightsUptoRow, standIns := [], harness := (true, "06c3e7293d10422a7d0d1dd7aad80f2bd43a9bf51131e9ad5e22722012984b5a"), looks := false }, kinds := [], alts := [], laidByText := true, laidKinds := [.data, .listed, .data], laidTests := true, laidLooks := .later }
def TopRightsUptoCardSaid : Prop := Claim7.holds Tryd.pinned (.plain (OpenSpec.upto topRightsSpec)) topRightsUptoCard

/-- THE SECOND FORM's CARD OF 'glaziertop.TopLies'. -/
def topLiesUptoCard : Claim7 := { stood := { row := topLiesUptoRow, standIns := [], harness := (true, "06c3e7293d10422a7d0d1dd7aad80f2bd43a9bf51131e9ad5e22722012984b5a"), looks := false }, kinds := [], alts := [], laidByText := true, laidKinds := [.data, .listed, .data, .data], laidTests := true, laidLooks := .later }
def TopLiesUptoCardSaid : Prop := Claim7.holds Tryd.pinned (.plain (OpenSpec.upto topLiesSpec)) topLiesUptoCard
end Rows
end Go.Proofs.YtcnlgdbmcdlknaaDoor
