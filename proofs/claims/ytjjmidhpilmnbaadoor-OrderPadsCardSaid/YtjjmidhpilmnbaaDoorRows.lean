/-
  NARROWER THAN 'FOR EVERY INPUT', by the rows' own cells (each row's printed sentence says how): OrderTurns: laid · OrderPuts: laid · OrderGets: laid · OrderSigns: laid · OrderRows: laid · OrderReads: laid · OrderPads: laid.
  DERIVED. THE GIVEN ROWS OF THIS SEAT. 7 by the template 'for every input the law returns true; each argument reads behind the call as it read before'; 0 by the template 'total and deterministic' (their statements: YtjjmidhpilmnbaaDoorTotals.lean).
  GIVEN WITH THE SEED: the statements are not yours to turn. If you find one false, say at which input.
  Laid BY PROGRAM, IN A SANDBOX (cutbox-rows.mjs): the forced cells as the released guide's own fill.sh prints them over the translation 17fb01b4e4ab7447… (all of the seat's roots in one cut). By AI agents, Wed Nov 11 2026. No macro, syntax, notation, axiom, sorry.
-/
import Derived.Test.YtjjmidhpilmnbaaDoorChecked
import GoSem.Claim
import GoSem.ClaimJoined
import GoSem.ClaimMapViews
import Derived.JoinedTies
import Derived.KernelRfl
namespace Go.Proofs.YtjjmidhpilmnbaaDoor
/- THE CELL 'sum', in the pinned program and in every row, IS THE sha256 OF THE DUMP (.gsa) THAT YtjjmidhpilmnbaaDoorProg.lean LOADS. Nothing in Lean hashes anything: it is a label: what it is worth is what the hold of that sum in a sandbox is worth. -/
noncomputable def Tryd.pinned : Pinned := { name := "ytjjmidhpilmnbaadoor", sum := "17fb01b4e4ab7447109c0b153fb1b00ec3fd13eebd2832fbb2891a2274b2b173", checked := Tryd.checked }
namespace Rows
def none {H : Type} : Left H := { results := [], args := [] }

/- WHAT THE LISTED PACKAGE-LEVEL VARIABLES READ AS WHEN THE CALL BEGINS. Each datum BY PROGRAM (the guide's laid-datum.mjs) off the statement by which the dump's own 'gosem.cut.vars' lays the variable. In a bare row this is a premise. The card (YtjjmidhpilmnbaaDoorCards.lean) ties it to the program's text. -/
def laid_glazier_order_spans {H : Type} : DataW H := .agg [.agg [.lit (.int .i64 1), .lit (.int .i64 0), .lit (.int .i64 255)], .agg [.lit (.int .i64 2), .lit (.int .i64 0), .lit (.int .i64 65535)], .agg [.lit (.int .i64 4), .lit (.int .i64 0), .lit (.int .i64 4294967295)], .agg [.lit (.int .i64 (-1)), .lit (.int .i64 (-128)), .lit (.int .i64 127)], .agg [.lit (.int .i64 (-2)), .lit (.int .i64 (-32768)), .lit (.int .i64 32767)], .agg [.lit (.int .i64 (-4)), .lit (.int .i64 (-2147483648)), .lit (.int .i64 2147483647)]]

/-- 'glazierlaw01.OrderTurns': WHATEVER THE INPUT: true; the input reads as it did. -/
def orderTurnsSpec : ChangeSpec := { name := "orderTurns", fn := fun _ => fun
  | [d1, d2, d3] => { results := [.lit (.bool true)], args := [d1, d2, d3] }
  | _ => none }
def orderTurnsRow : OpenClaim := { program := "ytjjmidhpilmnbaadoor", sum := "17fb01b4e4ab7447109c0b153fb1b00ec3fd13eebd2832fbb2891a2274b2b173", func := "glazier/glazierlaw01.OrderTurns", spec := "orderTurns", named := ["glazier/order.spans"], apart := false, laid := [("glazier/order.spans", laid_glazier_order_spans)] }
def OrderTurnsSaid : Prop := orderTurnsRow.holds Tryd.pinned (OpenSpec.ofChange orderTurnsSpec)

/-- ITS FALSE NEIGHBOUR: 'it returns false'. Refute it at one input. -/
def orderTurnsWrong : ChangeSpec := { name := "orderTurns", fn := fun _ => fun
  | [d1, d2, d3] => { results := [.lit (.bool false)], args := [d1, d2, d3] }
  | _ => none }
def OrderTurnsWrongFalsely : Prop := orderTurnsRow.holds Tryd.pinned (OpenSpec.ofChange orderTurnsWrong)

/-- 'glazierlaw01.OrderPuts': WHATEVER THE INPUT: true; the input reads as it did. -/
def orderPutsSpec : ChangeSpec := { name := "orderPuts", fn := fun _ => fun
  | [d1, d2] => { results := [.lit (.bool true)], args := [d1, d2] }
  | _ => none }
def orderPutsRow : OpenClaim := { program := "ytjjmidhpilmnbaadoor", sum := "17fb01b4e4ab7447109c0b153fb1b00ec3fd13eebd2832fbb2891a2274b2b173", func := "glazier/glazierlaw01.OrderPuts", spec := "orderPuts", named := ["glazier/order.spans"], apart := false, laid := [("glazier/order.spans", laid_glazier_order_spans)] }
def OrderPutsSaid : Prop := orderPutsRow.holds Tryd.pinned (OpenSpec.ofChange orderPutsSpec)

/-- ITS FALSE NEIGHBOUR: 'it returns false'. Refute it at one input. -/
def orderPutsWrong : ChangeSpec := { name := "orderPuts", fn := fun _ => fun
  | [d1, d2] => { results := [.lit (.bool false)], args := [d1, d2] }
  | _ => none }
def OrderPutsWrongFalsely : Prop := orderPutsRow.holds Tryd.pinned (OpenSpec.ofChange orderPutsWrong)

/-- 'glazierlaw01.OrderGets': WHATEVER THE INPUT: true; the input reads as it did. -/
def orderGetsSpec : ChangeSpec := { name := "orderGets", fn := fun _ => fun
  | [d1, d2] => { results := [.lit (.bool true)], args := [d1, d2] }
  | _ => none }
def orderGetsRow : OpenClaim := { program := "ytjjmidhpilmnbaadoor", sum := "17fb01b4e4ab7447109c0b153fb1b00ec3fd13eebd2832fbb2891a2274b2b173", func := "glazier/glazierlaw01.OrderGets", spec := "orderGets", named := ["glazier/order.spans"], apart := false, laid := [("glazier/order.spans", laid_glazier_order_spans)] }
def OrderGetsSaid : Prop := orderGetsRow.holds Tryd.pinned (OpenSpec.ofChange orderGetsSpec)

/-- ITS FALSE NEIGHBOUR: 'it returns false'. Refute it at one input. -/
def orderGetsWrong : ChangeSpec := { name := "orderGets", fn := fun _ => fun
  | [d1, d2] => { results := [.lit (.bool false)], args := [d1, d2] }
  | _ => none }
def OrderGetsWrongFalsely : Prop := orderGetsRow.holds Tryd.pinned (OpenSpec.ofChange orderGetsWrong)

/-- 'glazierlaw01.OrderSigns': WHATEVER THE INPUT: true; the input reads as it did. -/
def orderSignsSpec : ChangeSpec := { name := "orderSigns", fn := fun _ => fun
  | [d1, d2] => { results := [.lit (.bool true)], args := [d1, d2] }
  | _ => none }
def orderSignsRow : OpenClaim := { program := "ytjjmidhpilmnbaadoor", sum := "17fb01b4e4ab7447109c0b153fb1b00ec3fd13eebd2832fbb2891a2274b2b173", func := "glazier/glazierlaw01.OrderSigns", spec := "orderSigns", named := ["glazier/order.spans"], apart := false, laid := [("glazier/order.spans", laid_glazier_order_spans)] }
def OrderSignsSaid : Prop := orderSignsRow.holds Tryd.pinned (OpenSpec.ofChange orderSignsSpec)

/-- ITS FALSE NEIGHBOUR: 'it returns false'. Refute it at one input. -/
def orderSignsWrong : ChangeSpec := { name := "orderSigns", fn := fun _ => fun
  | [d1, d2] => { results := [.lit (.bool false)], args := [d1, d2] }
  | _ => none }
def OrderSignsWrongFalsely : Prop := orderSignsRow.holds Tryd.pinned (OpenSpec.ofChange orderSignsWrong)

/-- 'glazierlaw01.OrderRows': WHATEVER THE INPUT: true; the input reads as it did. -/
def orderRowsSpec : ChangeSpec := { name := "orderRows", fn := fun _ => fun
  | [d1, d2] => { results := [.lit (.bool true)], args := [d1, d2] }
  | _ => none }
def orderRowsRow : OpenClaim := { program := "ytjjmidhpilmnbaadoor", sum := "17fb01b4e4ab7447109c0b153fb1b00ec3fd13eebd2832fbb2891a2274b2b173", func := "glazier/glazierlaw01.OrderRows", spec := "orderRows", named := ["glazier/order.spans"], apart := false, laid := [("glazier/order.spans", laid_glazier_order_spans)] }
def OrderRowsSaid : Prop := orderRowsRow.holds Tryd.pinned (OpenSpec.ofChange orderRowsSpec)

/-- ITS FALSE NEIGHBOUR: 'it returns false'. Refute it at one input. -/
def orderRowsWrong : ChangeSpec := { name := "orderRows", fn := fun _ => fun
  | [d1, d2] => { results := [.lit (.bool false)], args := [d1, d2] }
  | _ => none }
def OrderRowsWrongFalsely : Prop := orderRowsRow.holds Tryd.pinned (OpenSpec.ofChange orderRowsWrong)

/-- 'glazierlaw01.OrderReads': WHATEVER THE INPUT: true; the input reads as it did. -/
def orderReadsSpec : ChangeSpec := { name := "orderReads", fn := fun _ => fun
  | [d1, d2] => { results := [.lit (.bool true)], args := [d1, d2] }
  | _ => none }
def orderReadsRow : OpenClaim := { program := "ytjjmidhpilmnbaadoor", sum := "17fb01b4e4ab7447109c0b153fb1b00ec3fd13eebd2832fbb2891a2274b2b173", func := "glazier/glazierlaw01.OrderReads", spec := "orderReads", named := ["glazier/order.spans"], apart := false, laid := [("glazier/order.spans", laid_glazier_order_spans)] }
def OrderReadsSaid : Prop := orderReadsRow.holds Tryd.pinned (OpenSpec.ofChange orderReadsSpec)

/-- ITS FALSE NEIGHBOUR: 'it returns false'. Refute it at one input. -/
def orderReadsWrong : ChangeSpec := { name := "orderReads", fn := fun _ => fun
  | [d1, d2] => { results := [.lit (.bool false)], args := [d1, d2] }
  | _ => none }
def OrderReadsWrongFalsely : Prop := orderReadsRow.holds Tryd.pinned (OpenSpec.ofChange orderReadsWrong)

/-- 'glazierlaw01.OrderPads': WHATEVER THE INPUT: true; the input reads as it did. -/
def orderPadsSpec : ChangeSpec := { name := "orderPads", fn := fun _ => fun
  | [d1, d2] => { results := [.lit (.bool true)], args := [d1, d2] }
  | _ => none }
def orderPadsRow : OpenClaim := { program := "ytjjmidhpilmnbaadoor", sum := "17fb01b4e4ab7447109c0b153fb1b00ec3fd13eebd2832fbb2891a2274b2b173", func := "glazier/glazierlaw01.OrderPads", spec := "orderPads", named := ["glazier/order.spans"], apart := false, laid := [("glazier/order.spans", laid_glazier_order_spans)] }
def OrderPadsSaid : Prop := orderPadsRow.holds Tryd.pinned (OpenSpec.ofChange orderPadsSpec)

/-- ITS FALSE NEIGHBOUR: 'it returns false'. Refute it at one input. -/
def orderPadsWrong : ChangeSpec := { name := "orderPads", fn := fun _ => fun
  | [d1, d2] => { results := [.lit (.bool false)], args := [d1, d2] }
  | _ => none }
def OrderPadsWrongFalsely : Prop := orderPadsRow.holds Tryd.pinned (OpenSpec.ofChange orderPadsWrong)

/- THE SECOND FORM. 'bulk': how many values and letters a reading holds, each counted each time it is reached (what is shared counts as often as it is met; a slice's spare places count too). A statement '..UptoSaid' is the law's where the arguments, and the package variables that the reading takes, are together of bulk at most 1048576: NARROWER than '..Said'. Prove '..Said' where nothing that the law and all that it calls make is longer than what came in: it says more and counts as full. Else prove '..UptoSaid'. A law counts once. -/
mutual
def uptoBulk {H : Type} : DataW H → Nat
  | .lit (.string bytes) => bytes.length + 1
  | .lit _ => 1
  | .nil => 1
  | .ptr d => uptoBulk d + 1
  | .slice elems spare => uptoBulkAll elems + uptoBulkAll spare + 1
  | .agg parts => uptoBulkAll parts + 1
  | .iface _ d => uptoBulk d + 1
  | .map entries => uptoBulkEntries entries + 1
  | .held _ => 1
def uptoBulkAll {H : Type} : List (DataW H) → Nat
  | [] => 0
  | d :: r => uptoBulk d + uptoBulkAll r
def uptoBulkEntries {H : Type} : List (Lit × DataW H) → Nat
  | [] => 0
  | x :: r => uptoBulkEntry x + uptoBulkEntries r
def uptoBulkEntry {H : Type} : Lit × DataW H → Nat
  | (.string bytes, d) => bytes.length + uptoBulk d + 1
  | (_, d) => uptoBulk d + 1
 end
def uptoSmall : (H : Type) → List (DataW H) → Bool := fun _ ds => decide (uptoBulkAll ds ≤ 1048576)
def OpenSpec.upto (s : _root_.Go.ChangeSpec) : _root_.Go.OpenSpec := { _root_.Go.OpenSpec.ofChange s with cond := some uptoSmall }

/-- 'glazierlaw01.OrderTurns', WHERE WHAT IT READS IS OF BULK AT MOST 1048576: true; the input reads as it did. -/
def orderTurnsUptoRow : OpenClaim := { program := "ytjjmidhpilmnbaadoor", sum := "17fb01b4e4ab7447109c0b153fb1b00ec3fd13eebd2832fbb2891a2274b2b173", func := "glazier/glazierlaw01.OrderTurns", spec := "orderTurns", named := ["glazier/order.spans"], apart := false, laid := [("glazier/order.spans", laid_glazier_order_spans)], narrowed := true }
def OrderTurnsUptoSaid : Prop := orderTurnsUptoRow.holds Tryd.pinned (OpenSpec.upto orderTurnsSpec)

/-- 'glazierlaw01.OrderPuts', WHERE WHAT IT READS IS OF BULK AT MOST 1048576: true; the input reads as it did. -/
def orderPutsUptoRow : OpenClaim := { program := "ytjjmidhpilmnbaadoor", sum := "17fb01b4e4ab7447109c0b153fb1b00ec3fd13eebd2832fbb2891a2274b2b173", func := "glazier/glazierlaw01.OrderPuts", spec := "orderPuts", named := ["glazier/order.spans"], apart := false, laid := [("glazier/order.spans", laid_glazier_order_spans)], narrowed := true }
def OrderPutsUptoSaid : Prop := orderPutsUptoRow.holds Tryd.pinned (OpenSpec.upto orderPutsSpec)

/-- 'glazierlaw01.OrderGets', WHERE WHAT IT READS IS OF BULK AT MOST 1048576: true; the input reads as it did. -/
def orderGetsUptoRow : OpenClaim := { program := "ytjjmidhpilmnbaadoor", sum := "17fb01b4e4ab7447109c0b153fb1b00ec3fd13eebd2832fbb2891a2274b2b173", func := "glazier/glazierlaw01.OrderGets", spec := "orderGets", named := ["glazier/order.spans"], apart := false, laid := [("glazier/order.spans", laid_glazier_order_spans)], narrowed := true }
def OrderGetsUptoSaid : Prop := orderGetsUptoRow.holds Tryd.pinned (OpenSpec.upto orderGetsSpec)

/-- 'glazierlaw01.OrderSigns', WHERE WHAT IT READS IS OF BULK AT MOST 1048576: true; the input reads as it did. -/
def orderSignsUptoRow : OpenClaim := { program := "ytjjmidhpilmnbaadoor", sum := "17fb01b4e4ab7447109c0b153fb1b00ec3fd13eebd2832fbb2891a2274b2b173", func := "glazier/glazierlaw01.OrderSigns", spec := "orderSigns", named := ["glazier/order.spans"], apart := false, laid := [("glazier/order.spans", laid_glazier_order_spans)], narrowed := true }
def OrderSignsUptoSaid : Prop := orderSignsUptoRow.holds Tryd.pinned (OpenSpec.upto orderSignsSpec)

/-- 'glazierlaw01.OrderRows', WHERE WHAT IT READS IS OF BULK AT MOST 1048576: true; the input reads as it did. -/
def orderRowsUptoRow : OpenClaim := { program := "ytjjmidhpilmnbaadoor", sum := "17fb01b4e4ab7447109c0b153fb1b00ec3fd13eebd2832fbb2891a2274b2b173", func := "glazier/glazierlaw01.OrderRows", spec := "orderRows", named := ["glazier/order.spans"], apart := false, laid := [("glazier/order.spans", laid_glazier_order_spans)], narrowed := true }
def OrderRowsUptoSaid : Prop := orderRowsUptoRow.holds Tryd.pinned (OpenSpec.upto orderRowsSpec)

/-- 'glazierlaw01.OrderReads', WHERE WHAT IT READS IS OF BULK AT MOST 1048576: true; the input reads as it did. -/
def orderReadsUptoRow : OpenClaim := { program := "ytjjmidhpilmnbaadoor", sum := "17fb01b4e4ab7447109c0b153fb1b00ec3fd13eebd2832fbb2891a2274b2b173", func := "glazier/glazierlaw01.OrderReads", spec := "orderReads", named := ["glazier/order.spans"], apart := false, laid := [("glazier/order.spans", laid_glazier_order_spans)], narrowed := true }
def OrderReadsUptoSaid : Prop := orderReadsUptoRow.holds Tryd.pinned (OpenSpec.upto orderReadsSpec)

/-- 'glazierlaw01.OrderPads', WHERE WHAT IT READS IS OF BULK AT MOST 1048576: true; the input reads as it did. -/
def orderPadsUptoRow : OpenClaim := { program := "ytjjmidhpilmnbaadoor", sum := "17fb01b4e4ab7447109c0b153fb1b00ec3fd13eebd2832fbb2891a2274b2b173", func := "glazier/glazierlaw01.OrderPads", spec := "orderPads", named := ["glazier/order.spans"], apart := false, laid := [("glazier/order.spans", laid_glazier_order_spans)], narrowed := true }
def OrderPadsUptoSaid : Prop := orderPadsUptoRow.holds Tryd.pinned (OpenSpec.upto orderPadsSpec)

end Rows
end Go.Proofs.YtjjmidhpilmnbaaDoor
