/-
  NARROWER THAN 'FOR EVERY INPUT', by the rows' own cells (each row's printed sentence says how): FormatPuts: laid · FormatGets: laid · FormatOrders: laid · FormatBack: laid · FormatCuts: laid · FormatSame: laid.
  DERIVED. THE GIVEN ROWS OF THIS SEAT. 6 by the template 'for every input the law returns true; each argument reads behind the call as it read before'; 0 by the template 'total and deterministic' (their statements: YtjgjcpbkmeillaaDoorTotals.lean).
  GIVEN WITH THE SEED: the statements are not yours to turn. If you find one false, say at which input.
  Laid BY PROGRAM, IN A SANDBOX (cutbox-rows.mjs): the forced cells as the released guide's own fill.sh prints them over the translation 5018a38a75ff1efa… (all of the seat's roots in one cut). By AI agents, Wed Nov 11 2026. No macro, syntax, notation, axiom, sorry.
-/
import Derived.Test.YtjgjcpbkmeillaaDoorChecked
import GoSem.Claim
import GoSem.ClaimJoined
import GoSem.ClaimMapViews
import Derived.JoinedTies
import Derived.KernelRfl
namespace Go.Proofs.YtjgjcpbkmeillaaDoor
/- THE CELL 'sum', in the pinned program and in every row, IS THE sha256 OF THE DUMP (.gsa) THAT YtjgjcpbkmeillaaDoorProg.lean LOADS. Nothing in Lean hashes anything: it is a label: what it is worth is what the hold of that sum in a sandbox is worth. -/
noncomputable def Tryd.pinned : Pinned := { name := "ytjgjcpbkmeillaadoor", sum := "5018a38a75ff1efa0d0e637e47d9728d2c5dcf180b5ff7ad5762d3d0fd69653f", checked := Tryd.checked }
namespace Rows
def none {H : Type} : Left H := { results := [], args := [] }

/- WHAT THE LISTED PACKAGE-LEVEL VARIABLES READ AS WHEN THE CALL BEGINS. Each datum BY PROGRAM (the guide's laid-datum.mjs) off the statement by which the dump's own 'gosem.cut.vars' lays the variable. In a bare row this is a premise. The card (YtjgjcpbkmeillaaDoorCards.lean) ties it to the program's text. -/
def laid_glazier_order_spans {H : Type} : DataW H := .agg [.agg [.lit (.int .i64 1), .lit (.int .i64 0), .lit (.int .i64 255)], .agg [.lit (.int .i64 2), .lit (.int .i64 0), .lit (.int .i64 65535)], .agg [.lit (.int .i64 4), .lit (.int .i64 0), .lit (.int .i64 4294967295)], .agg [.lit (.int .i64 (-1)), .lit (.int .i64 (-128)), .lit (.int .i64 127)], .agg [.lit (.int .i64 (-2)), .lit (.int .i64 (-32768)), .lit (.int .i64 32767)], .agg [.lit (.int .i64 (-4)), .lit (.int .i64 (-2147483648)), .lit (.int .i64 2147483647)]]
def laid_glazier_format_sizes {H : Type} : DataW H := .agg [.lit (.int .i64 1), .lit (.int .i64 2), .lit (.int .i64 4), .lit (.int .i64 (-1)), .lit (.int .i64 (-2)), .lit (.int .i64 (-4))]

/-- 'glazierlaw02.FormatPuts': WHATEVER THE INPUT: true; the input reads as it did. -/
def formatPutsSpec : ChangeSpec := { name := "formatPuts", fn := fun _ => fun
  | [d1, d2, d3] => { results := [.lit (.bool true)], args := [d1, d2, d3] }
  | _ => none }
def formatPutsRow : OpenClaim := { program := "ytjgjcpbkmeillaadoor", sum := "5018a38a75ff1efa0d0e637e47d9728d2c5dcf180b5ff7ad5762d3d0fd69653f", func := "glazier/glazierlaw02.FormatPuts", spec := "formatPuts", inPlace := ["internal/abi.NoEscape"], unfollowed := true, recurses := true, named := ["glazier/format.sizes", "glazier/order.spans"], apart := false, laid := [("glazier/order.spans", laid_glazier_order_spans), ("glazier/format.sizes", laid_glazier_format_sizes)] }
def FormatPutsSaid : Prop := formatPutsRow.holds Tryd.pinned (OpenSpec.ofChange formatPutsSpec)

/-- ITS FALSE NEIGHBOUR: 'it returns false'. Refute it at one input. -/
def formatPutsWrong : ChangeSpec := { name := "formatPuts", fn := fun _ => fun
  | [d1, d2, d3] => { results := [.lit (.bool false)], args := [d1, d2, d3] }
  | _ => none }
def FormatPutsWrongFalsely : Prop := formatPutsRow.holds Tryd.pinned (OpenSpec.ofChange formatPutsWrong)

/-- 'glazierlaw02.FormatGets': WHATEVER THE INPUT: true; the input reads as it did. -/
def formatGetsSpec : ChangeSpec := { name := "formatGets", fn := fun _ => fun
  | [d1, d2, d3] => { results := [.lit (.bool true)], args := [d1, d2, d3] }
  | _ => none }
def formatGetsRow : OpenClaim := { program := "ytjgjcpbkmeillaadoor", sum := "5018a38a75ff1efa0d0e637e47d9728d2c5dcf180b5ff7ad5762d3d0fd69653f", func := "glazier/glazierlaw02.FormatGets", spec := "formatGets", inPlace := ["internal/abi.NoEscape"], unfollowed := true, recurses := true, named := ["glazier/format.sizes", "glazier/order.spans"], apart := false, laid := [("glazier/order.spans", laid_glazier_order_spans), ("glazier/format.sizes", laid_glazier_format_sizes)] }
def FormatGetsSaid : Prop := formatGetsRow.holds Tryd.pinned (OpenSpec.ofChange formatGetsSpec)

/-- ITS FALSE NEIGHBOUR: 'it returns false'. Refute it at one input. -/
def formatGetsWrong : ChangeSpec := { name := "formatGets", fn := fun _ => fun
  | [d1, d2, d3] => { results := [.lit (.bool false)], args := [d1, d2, d3] }
  | _ => none }
def FormatGetsWrongFalsely : Prop := formatGetsRow.holds Tryd.pinned (OpenSpec.ofChange formatGetsWrong)

/-- 'glazierlaw02.FormatOrders': WHATEVER THE INPUT: true; the input reads as it did. -/
def formatOrdersSpec : ChangeSpec := { name := "formatOrders", fn := fun _ => fun
  | [d1, d2] => { results := [.lit (.bool true)], args := [d1, d2] }
  | _ => none }
def formatOrdersRow : OpenClaim := { program := "ytjgjcpbkmeillaadoor", sum := "5018a38a75ff1efa0d0e637e47d9728d2c5dcf180b5ff7ad5762d3d0fd69653f", func := "glazier/glazierlaw02.FormatOrders", spec := "formatOrders", inPlace := ["internal/abi.NoEscape"], unfollowed := true, recurses := true, named := ["glazier/format.sizes", "glazier/order.spans"], apart := false, laid := [("glazier/order.spans", laid_glazier_order_spans), ("glazier/format.sizes", laid_glazier_format_sizes)] }
def FormatOrdersSaid : Prop := formatOrdersRow.holds Tryd.pinned (OpenSpec.ofChange formatOrdersSpec)

/-- ITS FALSE NEIGHBOUR: 'it returns false'. Refute it at one input. -/
def formatOrdersWrong : ChangeSpec := { name := "formatOrders", fn := fun _ => fun
  | [d1, d2] => { results := [.lit (.bool false)], args := [d1, d2] }
  | _ => none }
def FormatOrdersWrongFalsely : Prop := formatOrdersRow.holds Tryd.pinned (OpenSpec.ofChange formatOrdersWrong)

/-- 'glazierlaw02.FormatBack': WHATEVER THE INPUT: true; the input reads as it did. -/
def formatBackSpec : ChangeSpec := { name := "formatBack", fn := fun _ => fun
  | [d1, d2, d3, d4] => { results := [.lit (.bool true)], args := [d1, d2, d3, d4] }
  | _ => none }
def formatBackRow : OpenClaim := { program := "ytjgjcpbkmeillaadoor", sum := "5018a38a75ff1efa0d0e637e47d9728d2c5dcf180b5ff7ad5762d3d0fd69653f", func := "glazier/glazierlaw02.FormatBack", spec := "formatBack", inPlace := ["internal/abi.NoEscape"], unfollowed := true, recurses := true, named := ["glazier/format.sizes", "glazier/order.spans"], apart := false, laid := [("glazier/order.spans", laid_glazier_order_spans), ("glazier/format.sizes", laid_glazier_format_sizes)] }
def FormatBackSaid : Prop := formatBackRow.holds Tryd.pinned (OpenSpec.ofChange formatBackSpec)

/-- ITS FALSE NEIGHBOUR: 'it returns false'. Refute it at one input. -/
def formatBackWrong : ChangeSpec := { name := "formatBack", fn := fun _ => fun
  | [d1, d2, d3, d4] => { results := [.lit (.bool false)], args := [d1, d2, d3, d4] }
  | _ => none }
def FormatBackWrongFalsely : Prop := formatBackRow.holds Tryd.pinned (OpenSpec.ofChange formatBackWrong)

/-- 'glazierlaw02.FormatCuts': WHATEVER THE INPUT: true; the input reads as it did. -/
def formatCutsSpec : ChangeSpec := { name := "formatCuts", fn := fun _ => fun
  | [d1, d2, d3, d4, d5] => { results := [.lit (.bool true)], args := [d1, d2, d3, d4, d5] }
  | _ => none }
def formatCutsRow : OpenClaim := { program := "ytjgjcpbkmeillaadoor", sum := "5018a38a75ff1efa0d0e637e47d9728d2c5dcf180b5ff7ad5762d3d0fd69653f", func := "glazier/glazierlaw02.FormatCuts", spec := "formatCuts", inPlace := ["internal/abi.NoEscape"], unfollowed := true, recurses := true, named := ["glazier/format.sizes", "glazier/order.spans"], apart := false, laid := [("glazier/order.spans", laid_glazier_order_spans), ("glazier/format.sizes", laid_glazier_format_sizes)] }
def FormatCutsSaid : Prop := formatCutsRow.holds Tryd.pinned (OpenSpec.ofChange formatCutsSpec)

/-- ITS FALSE NEIGHBOUR: 'it returns false'. Refute it at one input. -/
def formatCutsWrong : ChangeSpec := { name := "formatCuts", fn := fun _ => fun
  | [d1, d2, d3, d4, d5] => { results := [.lit (.bool false)], args := [d1, d2, d3, d4, d5] }
  | _ => none }
def FormatCutsWrongFalsely : Prop := formatCutsRow.holds Tryd.pinned (OpenSpec.ofChange formatCutsWrong)

/-- 'glazierlaw02.FormatSame': WHATEVER THE INPUT: true; the input reads as it did. -/
def formatSameSpec : ChangeSpec := { name := "formatSame", fn := fun _ => fun
  | [d1, d2] => { results := [.lit (.bool true)], args := [d1, d2] }
  | _ => none }
def formatSameRow : OpenClaim := { program := "ytjgjcpbkmeillaadoor", sum := "5018a38a75ff1efa0d0e637e47d9728d2c5dcf180b5ff7ad5762d3d0fd69653f", func := "glazier/glazierlaw02.FormatSame", spec := "formatSame", inPlace := ["internal/abi.NoEscape"], unfollowed := true, recurses := true, named := ["glazier/format.sizes", "glazier/order.spans"], apart := false, laid := [("glazier/order.spans", laid_glazier_order_spans), ("glazier/format.sizes", laid_glazier_format_sizes)] }
def FormatSameSaid : Prop := formatSameRow.holds Tryd.pinned (OpenSpec.ofChange formatSameSpec)

/-- ITS FALSE NEIGHBOUR: 'it returns false'. Refute it at one input. -/
def formatSameWrong : ChangeSpec := { name := "formatSame", fn := fun _ => fun
  | [d1, d2] => { results := [.lit (.bool false)], args := [d1, d2] }
  | _ => none }
def FormatSameWrongFalsely : Prop := formatSameRow.holds Tryd.pinned (OpenSpec.ofChange formatSameWrong)

/- THE SECOND FORM. 'bulk': how many values and letters a reading holds, each counted each time it is reached (what is shared counts as often as it is met; a slice's spare places count too). A statement '..UptoSaid' is the law's where the arguments, and the package variables that the reading takes, are together of bulk at most 1048576: NARROWER than '..Said'. Prove '..Said' where nothing that the law and all that it calls make is longer than what came in: it says more and counts as full. Else prove '..UptoSaid'. A law counts once. -/
mutual
def uptoBulk {H : Type} : DataW H → Nat
  | .lit (.string bytes) => bytes.length + 1
  | .lit _ => 1
  | .nil => 1
  | .ptr d => uptoBulk d + 1
  | .slice elems spare => uptoBulkAll elems + uptoBulkAll spare + 1
  | .agg parts => uptoBulkAll parts + 1
  | .iface _ d => uptoBulk d + 1
  | .map entries => uptoBulkEntries entries + 1
  | .held _ => 1
def uptoBulkAll {H : Type} : List (DataW H) → Nat
  | [] => 0
  | d :: r => uptoBulk d + uptoBulkAll r
def uptoBulkEntries {H : Type} : List (Lit × DataW H) → Nat
  | [] => 0
  | x :: r => uptoBulkEntry x + uptoBulkEntries r
def uptoBulkEntry {H : Type} : Lit × DataW H → Nat
  | (.string bytes, d) => bytes.length + uptoBulk d + 1
  | (_, d) => uptoBulk d + 1
 end
def uptoSmall : (H : Type) → List (DataW H) → Bool := fun _ ds => decide (uptoBulkAll ds ≤ 1048576)
def OpenSpec.upto (s : _root_.Go.ChangeSpec) : _root_.Go.OpenSpec := { _root_.Go.OpenSpec.ofChange s with cond := some uptoSmall }

/-- 'glazierlaw02.FormatPuts', WHERE WHAT IT READS IS OF BULK AT MOST 1048576: true; the input reads as it did. -/
def formatPutsUptoRow : OpenClaim := { program := "ytjgjcpbkmeillaadoor", sum := "5018a38a75ff1efa0d0e637e47d9728d2c5dcf180b5ff7ad5762d3d0fd69653f", func := "glazier/glazierlaw02.FormatPuts", spec := "formatPuts", inPlace := ["internal/abi.NoEscape"], unfollowed := true, recurses := true, named := ["glazier/format.sizes", "glazier/order.spans"], apart := false, laid := [("glazier/order.spans", laid_glazier_order_spans), ("glazier/format.sizes", laid_glazier_format_sizes)], narrowed := true }
def FormatPutsUptoSaid : Prop := formatPutsUptoRow.holds Tryd.pinned (OpenSpec.upto formatPutsSpec)

/-- 'glazierlaw02.FormatGets', WHERE WHAT IT READS IS OF BULK AT MOST 1048576: true; the input reads as it did. -/
def formatGetsUptoRow : OpenClaim := { program := "ytjgjcpbkmeillaadoor", sum := "5018a38a75ff1efa0d0e637e47d9728d2c5dcf180b5ff7ad5762d3d0fd69653f", func := "glazier/glazierlaw02.FormatGets", spec := "formatGets", inPlace := ["internal/abi.NoEscape"], unfollowed := true, recurses := true, named := ["glazier/format.sizes", "glazier/order.spans"], apart := false, laid := [("glazier/order.spans", laid_glazier_order_spans), ("glazier/format.sizes", laid_glazier_format_sizes)], narrowed := true }
def FormatGetsUptoSaid : Prop := formatGetsUptoRow.holds Tryd.pinned (OpenSpec.upto formatGetsSpec)

/-- 'glazierlaw02.FormatOrders', WHERE WHAT IT READS IS OF BULK AT MOST 1048576: true; the input reads as it did. -/
def formatOrdersUptoRow : OpenClaim := { program := "ytjgjcpbkmeillaadoor", sum := "5018a38a75ff1efa0d0e637e47d9728d2c5dcf180b5ff7ad5762d3d0fd69653f", func := "glazier/glazierlaw02.FormatOrders", spec := "formatOrders", inPlace := ["internal/abi.NoEscape"], unfollowed := true, recurses := true, named := ["glazier/format.sizes", "glazier/order.spans"], apart := false, laid := [("glazier/order.spans", laid_glazier_order_spans), ("glazier/format.sizes", laid_glazier_format_sizes)], narrowed := true }
def FormatOrdersUptoSaid : Prop := formatOrdersUptoRow.holds Tryd.pinned (OpenSpec.upto formatOrdersSpec)

/-- 'glazierlaw02.FormatBack', WHERE WHAT IT READS IS OF BULK AT MOST 1048576: true; the input reads as it did. -/
def formatBackUptoRow : OpenClaim := { program := "ytjgjcpbkmeillaadoor", sum := "5018a38a75ff1efa0d0e637e47d9728d2c5dcf180b5ff7ad5762d3d0fd69653f", func := "glazier/glazierlaw02.FormatBack", spec := "formatBack", inPlace := ["internal/abi.NoEscape"], unfollowed := true, recurses := true, named := ["glazier/format.sizes", "glazier/order.spans"], apart := false, laid := [("glazier/order.spans", laid_glazier_order_spans), ("glazier/format.sizes", laid_glazier_format_sizes)], narrowed := true }
def FormatBackUptoSaid : Prop := formatBackUptoRow.holds Tryd.pinned (OpenSpec.upto formatBackSpec)

/-- 'glazierlaw02.FormatCuts', WHERE WHAT IT READS IS OF BULK AT MOST 1048576: true; the input reads as it did. -/
def formatCutsUptoRow : OpenClaim := { program := "ytjgjcpbkmeillaadoor", sum := "5018a38a75ff1efa0d0e637e47d9728d2c5dcf180b5ff7ad5762d3d0fd69653f", func := "glazier/glazierlaw02.FormatCuts", spec := "formatCuts", inPlace := ["internal/abi.NoEscape"], unfollowed := true, recurses := true, named := ["glazier/format.sizes", "glazier/order.spans"], apart := false, laid := [("glazier/order.spans", laid_glazier_order_spans), ("glazier/format.sizes", laid_glazier_format_sizes)], narrowed := true }
def FormatCutsUptoSaid : Prop := formatCutsUptoRow.holds Tryd.pinned (OpenSpec.upto formatCutsSpec)

/-- 'glazierlaw02.FormatSame', WHERE WHAT IT READS IS OF BULK AT MOST 1048576: true; the input reads as it did. -/
def formatSameUptoRow : OpenClaim := { program := "ytjgjcpbkmeillaadoor", sum := "5018a38a75ff1efa0d0e637e47d9728d2c5dcf180b5ff7ad5762d3d0fd69653f", func := "glazier/glazierlaw02.FormatSame", spec := "formatSame", inPlace := ["internal/abi.NoEscape"], unfollowed := true, recurses := true, named := ["glazier/format.sizes", "glazier/order.spans"], apart := false, laid := [("glazier/order.spans", laid_glazier_order_spans), ("glazier/format.sizes", laid_glazier_format_sizes)], narrowed := true }
def FormatSameUptoSaid : Prop := formatSameUptoRow.holds Tryd.pinned (OpenSpec.upto formatSameSpec)

end Rows
end Go.Proofs.YtjgjcpbkmeillaaDoor
