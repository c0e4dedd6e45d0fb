/-
  DERIVED. GIVEN WITH THE SEED: THE CARDS: each row of YtjjmidhpilmnbaaDoorRows.lean that lists a variable, with what it lists TIED to the program's text (the seventh form; the later family's looks); each row that meets fmt, with fmt's text TOLD by the authors' own Lean function (tested against real Go, not proved from fmt's source: count such statements apart). THE CARD IS WHAT COUNTS. Prove the row's statement (the work); the ties are given (YtjjmidhpilmnbaaDoorTie.lean); close each card by the builder's one call (the guide's Derived/Test/ToyasCard.lean, 'card_holds'). Laid BY PROGRAM, IN A SANDBOX (cutbox-door.mjs). By AI agents, Wed Nov 11 2026. No macro, syntax, notation, axiom, sorry.
-/
import Derived.Test.YtjjmidhpilmnbaaDoorRows
import GoSem.ClaimSeven
namespace Go.Proofs.YtjjmidhpilmnbaaDoor
namespace Rows

/-- THE TIED CARD OF 'glazierlaw01.OrderTurns'. -/
def orderTurnsCard : Claim7 := { stood := { row := orderTurnsRow, standIns := [], harness := (true, "87ce23943cd49928753eb9c0e525c20db86df1364f356c41893d38eff499406d"), looks := false }, kinds := [], alts := [], laidByText := true, laidKinds := [.data], laidTests := true, laidLooks := .later }
def OrderTurnsCardSaid : Prop := Claim7.holds Tryd.pinned (.plain (OpenSpec.ofChange orderTurnsSpec)) orderTurnsCard

/-- THE TIED CARD OF 'glazierlaw01.OrderPuts'. -/
def orderPutsCard : Claim7 := { stood := { row := orderPutsRow, standIns := [], harness := (true, "87ce23943cd49928753eb9c0e525c20db86df1364f356c41893d38eff499406d"), looks := false }, kinds := [], alts := [], laidByText := true, laidKinds := [.data], laidTests := true, laidLooks := .later }
def OrderPutsCardSaid : Prop := Claim7.holds Tryd.pinned (.plain (OpenSpec.ofChange orderPutsSpec)) orderPutsCard

/-- THE TIED CARD OF 'glazierlaw01.OrderGets'. -/
def orderGetsCard : Claim7 := { stood := { row := orderGetsRow, standIns := [], harness := (true, "87ce23943cd49928753eb9c0e525c20db86df1364f356c41893d38eff499406d"), looks := false }, kinds := [], alts := [], laidByText := true, laidKinds := [.data], laidTests := true, laidLooks := .later }
def OrderGetsCardSaid : Prop := Claim7.holds Tryd.pinned (.plain (OpenSpec.ofChange orderGetsSpec)) orderGetsCard

/-- THE TIED CARD OF 'glazierlaw01.OrderSigns'. -/
def orderSignsCard : Claim7 := { stood := { row := orderSignsRow, standIns := [], harness := (true, "87ce23943cd49928753eb9c0e525c20db86df1364f356c41893d38eff499406d"), looks := false }, kinds := [], alts := [], laidByText := true, laidKinds := [.data], laidTests := true, laidLooks := .later }
def OrderSignsCardSaid : Prop := Claim7.holds Tryd.pinned (.plain (OpenSpec.ofChange orderSignsSpec)) orderSignsCard

/-- THE TIED CARD OF 'glazierlaw01.OrderRows'. -/
def orderRowsCard : Claim7 := { stood := { row := orderRowsRow, standIns := [], harness := (true, "87ce23943cd49928753eb9c0e525c20db86df1364f356c41893d38eff499406d"), looks := false }, kinds := [], alts := [], laidByText := true, laidKinds := [.data], laidTests := true, laidLooks := .later }
def OrderRowsCardSaid : Prop := Claim7.holds Tryd.pinned (.plain (OpenSpec.ofChange orderRowsSpec)) orderRowsCard

/-- THE TIED CARD OF 'glazierlaw01.OrderReads'. -/
def orderReadsCard : Claim7 := { stood := { row := orderReadsRow, standIns := [], harness := (true, "87ce23943cd49928753eb9c0e525c20db86df1364f356c41893d38eff499406d"), looks := false }, kinds := [], alts := [], laidByText := true, laidKinds := [.data], laidTests := true, laidLooks := .later }
def OrderReadsCardSaid : Prop := Claim7.holds Tryd.pinned (.plain (OpenSpec.ofChange orderReadsSpec)) orderReadsCard

/-- THE TIED CARD OF 'glazierlaw01.OrderPads'. -/
def orderPadsCard : Claim7 := { stood := { row := orderPadsRow, standIns := [], harness := (true, "87ce23943cd49928753eb9c0e525c20db86df1364f356c41893d38eff499406d"), looks := false }, kinds := [], alts := [], laidByText := true, laidKinds := [.data], laidTests := true, laidLooks := .later }
def OrderPadsCardSaid : Prop := Claim7.holds Tryd.pinned (.plain (OpenSpec.ofChange orderPadsSpec)) orderPadsCard

/-- THE SECOND FORM's CARD OF 'glazierlaw01.OrderTurns'. -/
def orderTurnsUptoCard : Claim7 := { stood := { row := orderTurnsUptoRow, standIns := [], harness := (true, "87ce23943cd49928753eb9c0e525c20db86df1364f356c41893d38eff499406d"), looks := false }, kinds := [], alts := [], laidByText := true, laidKinds := [.data], laidTests := true, laidLooks := .later }
def OrderTurnsUptoCardSaid : Prop := Claim7.holds Tryd.pinned (.plain (OpenSpec.upto orderTurnsSpec)) orderTurnsUptoCard

/-- THE SECOND FORM's CARD OF 'glazierlaw01.OrderPuts'. -/
def orderPutsUptoCard : Claim7 := { stood := { row := orderPutsUptoRow, standIns := [], harness := (true, "87ce23943cd49928753eb9c0e525c20db86df1364f356c41893d38eff499406d"), looks := false }, kinds := [], alts := [], laidByText := true, laidKinds := [.data], laidTests := true, laidLooks := .later }
def OrderPutsUptoCardSaid : Prop := Claim7.holds Tryd.pinned (.plain (OpenSpec.upto orderPutsSpec)) orderPutsUptoCard

/-- THE SECOND FORM's CARD OF 'glazierlaw01.OrderGets'. -/
def orderGetsUptoCard : Claim7 := { stood := { row := orderGetsUptoRow, standIns := [], harness := (true, "87ce23943cd49928753eb9c0e525c20db86df1364f356c41893d38eff499406d"), looks := false }, kinds := [], alts := [], laidByText := true, laidKinds := [.data], laidTests := true, laidLooks := .later }
def OrderGetsUptoCardSaid : Prop := Claim7.holds Tryd.pinned (.plain (OpenSpec.upto orderGetsSpec)) orderGetsUptoCard

/-- THE SECOND FORM's CARD OF 'glazierlaw01.OrderSigns'. -/
def orderSignsUptoCard : Claim7 := { stood := { row := orderSignsUptoRow, standIns := [], harness := (true, "87ce23943cd49928753eb9c0e525c20db86df1364f356c41893d38eff499406d"), looks := false }, kinds := [], alts := [], laidByText := true, laidKinds := [.data], laidTests := true, laidLooks := .later }
def OrderSignsUptoCardSaid : Prop := Claim7.holds Tryd.pinned (.plain (OpenSpec.upto orderSignsSpec)) orderSignsUptoCard

/-- THE SECOND FORM's CARD OF 'glazierlaw01.OrderRows'. -/
def orderRowsUptoCard : Claim7 := { stood := { row := orderRowsUptoRow, standIns := [], harness := (true, "87ce23943cd49928753eb9c0e525c20db86df1364f356c41893d38eff499406d"), looks := false }, kinds := [], alts := [], laidByText := true, laidKinds := [.data], laidTests := true, laidLooks := .later }
def OrderRowsUptoCardSaid : Prop := Claim7.holds Tryd.pinned (.plain (OpenSpec.upto orderRowsSpec)) orderRowsUptoCard

/-- THE SECOND FORM's CARD OF 'glazierlaw01.OrderReads'. -/
def orderReadsUptoCard : Claim7 := { stood := { row := orderReadsUptoRow, standIns := [], harness := (true, "87ce23943cd49928753eb9c0e525c20db86df1364f356c41893d38eff499406d"), looks := false }, kinds := [], alts := [], laidByText := true, laidKinds := [.data], laidTests := true, laidLooks := .later }
def OrderReadsUptoCardSaid : Prop := Claim7.holds Tryd.pinned (.plain (OpenSpec.upto orderReadsSpec)) orderReadsUptoCard

/-- THE SECOND FORM's CARD OF 'glazierlaw01.OrderPads'. -/
def orderPadsUptoCard : Claim7 := { stood := { row := orderPadsUptoRow, standIns := [], harness := (true, "87ce23943cd49928753eb9c0e525c20db86df1364f356c41893d38eff499406d"), looks := false }, kinds := [], alts := [], laidByText := true, laidKinds := [.data], laidTests := true, laidLooks := .later }
def OrderPadsUptoCardSaid : Prop := Claim7.holds Tryd.pinned (.plain (OpenSpec.upto orderPadsSpec)) orderPadsUptoCard
end Rows
end Go.Proofs.YtjjmidhpilmnbaaDoor
