/-
  DERIVED. GIVEN WITH THE SEED: THE CARDS: each row of YtgbpjpacmepicaaDoorRows.lean that lists a variable, with what it lists TIED to the program's text (the seventh form; the later family's looks); each row that meets fmt, with fmt's text TOLD by the authors' own Lean function (tested against real Go, not proved from fmt's source: count such statements apart). THE CARD IS WHAT COUNTS. Prove the row's statement (the work); the ties are given (YtgbpjpacmepicaaDoorTie.lean); close each card by the builder's one call (the guide's Derived/Test/ToyasCard.lean, 'card_holds'). Laid BY PROGRAM, IN A SANDBOX (cutbox-door.mjs). By AI agents, Wed Nov 11 2026. No macro, syntax, notation, axiom, sorry.
-/
import Derived.Test.YtgbpjpacmepicaaDoorRows
import GoSem.ClaimSeven
namespace Go.Proofs.YtgbpjpacmepicaaDoor
namespace Rows

/-- THE TIED CARD OF 'glazierlaw09.AtomPairs'. -/
def atomPairsCard : Claim7 := { stood := { row := atomPairsRow, standIns := [], harness := (true, "4ecb01e1ea843b6935db912e5adf40e8687c0906b8ab13acee2c989370a6e5b1"), looks := false }, kinds := [], alts := [], laidByText := true, laidKinds := [.data], laidTests := true, laidLooks := .later }
def AtomPairsCardSaid : Prop := Claim7.holds Tryd.pinned (.plain (OpenSpec.ofChange atomPairsSpec)) atomPairsCard

/-- THE TIED CARD OF 'glazierlaw09.AtomAgain'. -/
def atomAgainCard : Claim7 := { stood := { row := atomAgainRow, standIns := [], harness := (true, "4ecb01e1ea843b6935db912e5adf40e8687c0906b8ab13acee2c989370a6e5b1"), looks := false }, kinds := [], alts := [], laidByText := true, laidKinds := [.data], laidTests := true, laidLooks := .later }
def AtomAgainCardSaid : Prop := Claim7.holds Tryd.pinned (.plain (OpenSpec.ofChange atomAgainSpec)) atomAgainCard

/-- THE TIED CARD OF 'glazierlaw09.AtomFull'. -/
def atomFullCard : Claim7 := { stood := { row := atomFullRow, standIns := [], harness := (true, "4ecb01e1ea843b6935db912e5adf40e8687c0906b8ab13acee2c989370a6e5b1"), looks := false }, kinds := [], alts := [], laidByText := true, laidKinds := [.data], laidTests := true, laidLooks := .later }
def AtomFullCardSaid : Prop := Claim7.holds Tryd.pinned (.plain (OpenSpec.ofChange atomFullSpec)) atomFullCard

/-- THE TIED CARD OF 'glazierlaw09.AtomPlays'. -/
def atomPlaysCard : Claim7 := { stood := { row := atomPlaysRow, standIns := [], harness := (true, "4ecb01e1ea843b6935db912e5adf40e8687c0906b8ab13acee2c989370a6e5b1"), looks := false }, kinds := [], alts := [], laidByText := true, laidKinds := [.data], laidTests := true, laidLooks := .later }
def AtomPlaysCardSaid : Prop := Claim7.holds Tryd.pinned (.plain (OpenSpec.ofChange atomPlaysSpec)) atomPlaysCard

/-- THE TIED CARD OF 'glazierlaw09.AtomKnown'. -/
def atomKnownCard : Claim7 := { stood := { row := atomKnownRow, standIns := [], harness := (true, "4ecb01e1ea843b6935db912e5adf40e8687c0906b8ab13acee2c989370a6e5b1"), looks := false }, kinds := [], alts := [], laidByText := true, laidKinds := [.data], laidTests := true, laidLooks := .later }
def AtomKnownCardSaid : Prop := Claim7.holds Tryd.pinned (.plain (OpenSpec.ofChange atomKnownSpec)) atomKnownCard

/-- THE TIED CARD OF 'glazierlaw09.AtomSplits'. -/
def atomSplitsCard : Claim7 := { stood := { row := atomSplitsRow, standIns := [], harness := (true, "4ecb01e1ea843b6935db912e5adf40e8687c0906b8ab13acee2c989370a6e5b1"), looks := false }, kinds := [], alts := [], laidByText := true, laidKinds := [.data], laidTests := true, laidLooks := .later }
def AtomSplitsCardSaid : Prop := Claim7.holds Tryd.pinned (.plain (OpenSpec.ofChange atomSplitsSpec)) atomSplitsCard

/-- THE SECOND FORM's CARD OF 'glazierlaw09.AtomPairs'. -/
def atomPairsUptoCard : Claim7 := { stood := { row := atomPairsUptoRow, standIns := [], harness := (true, "4ecb01e1ea843b6935db912e5adf40e8687c0906b8ab13acee2c989370a6e5b1"), looks := false }, kinds := [], alts := [], laidByText := true, laidKinds := [.data], laidTests := true, laidLooks := .later }
def AtomPairsUptoCardSaid : Prop := Claim7.holds Tryd.pinned (.plain (OpenSpec.upto atomPairsSpec)) atomPairsUptoCard

/-- THE SECOND FORM's CARD OF 'glazierlaw09.AtomAgain'. -/
def atomAgainUptoCard : Claim7 := { stood := { row := atomAgainUptoRow, standIns := [], harness := (true, "4ecb01e1ea843b6935db912e5adf40e8687c0906b8ab13acee2c989370a6e5b1"), looks := false }, kinds := [], alts := [], laidByText := true, laidKinds := [.data], laidTests := true, laidLooks := .later }
def AtomAgainUptoCardSaid : Prop := Claim7.holds Tryd.pinned (.plain (OpenSpec.upto atomAgainSpec)) atomAgainUptoCard

/-- THE SECOND FORM's CARD OF 'glazierlaw09.AtomFull'. -/
def atomFullUptoCard : Claim7 := { stood := { row := atomFullUptoRow, standIns := [], harness := (true, "4ecb01e1ea843b6935db912e5adf40e8687c0906b8ab13acee2c989370a6e5b1"), looks := false }, kinds := [], alts := [], laidByText := true, laidKinds := [.data], laidTests := true, laidLooks := .later }
def AtomFullUptoCardSaid : Prop := Claim7.holds Tryd.pinned (.plain (OpenSpec.upto atomFullSpec)) atomFullUptoCard

/-- THE SECOND FORM's CARD OF 'glazierlaw09.AtomPlays'. -/
def atomPlaysUptoCard : Claim7 := { stood := { row := atomPlaysUptoRow, standIns := [], harness := (true, "4ecb01e1ea843b6935db912e5adf40e8687c0906b8ab13acee2c989370a6e5b1"), looks := false }, kinds := [], alts := [], laidByText := true, laidKinds := [.data], laidTests := true, laidLooks := .later }
def AtomPlaysUptoCardSaid : Prop := Claim7.holds Tryd.pinned (.plain (OpenSpec.upto atomPlaysSpec)) atomPlaysUptoCard

/-- THE SECOND FORM's CARD OF 'glazierlaw09.AtomKnown'. -/
def atomKnownUptoCard : Claim7 := { stood := { row := atomKnownUptoRow, standIns := [], harness := (true, "4ecb01e1ea843b6935db912e5adf40e8687c0906b8ab13acee2c989370a6e5b1"), looks := false }, kinds := [], alts := [], laidByText := true, laidKinds := [.data], laidTests := true, laidLooks := .later }
def AtomKnownUptoCardSaid : Prop := Claim7.holds Tryd.pinned (.plain (OpenSpec.upto atomKnownSpec)) atomKnownUptoCard

/-- THE SECOND FORM's CARD OF 'glazierlaw09.AtomSplits'. -/
def atomSplitsUptoCard : Claim7 := { stood := { row := atomSplitsUptoRow, standIns := [], harness := (true, "4ecb01e1ea843b6935db912e5adf40e8687c0906b8ab13acee2c989370a6e5b1"), looks := false }, kinds := [], alts := [], laidByText := true, laidKinds := [.data], laidTests := true, laidLooks := .later }
def AtomSplitsUptoCardSaid : Prop := Claim7.holds Tryd.pinned (.plain (OpenSpec.upto atomSplitsSpec)) atomSplitsUptoCard
end Rows
end Go.Proofs.YtgbpjpacmepicaaDoor
