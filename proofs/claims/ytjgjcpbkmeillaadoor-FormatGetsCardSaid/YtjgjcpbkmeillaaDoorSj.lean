/- strings.Builder: String (after the shelf's proofs, turned to this program), and their laws. By the prover of this seat. -/
import Derived.Shelf.RegionOpenPlain
import Derived.Lib.Strings
import Derived.Lib.Walk
import Derived.Lib.BufferWrite
import Derived.Lib.UnsafeStr
import Derived.Lib.Builder
import Derived.Lib.Hide
import Derived.Laws.MakeOwn
import Derived.Laws.Externs
import Derived.WalkKit
import Derived.Test.YtjgjcpbkmeillaaDoorSi
set_option linter.unusedVariables false
set_option linter.unusedSimpArgs false
namespace Go.Proofs.YtjgjcpbkmeillaaDoor
open Go.Shelf Go.RowKit
set_option maxHeartbeats 4000000 in
set_option maxRecDepth 100000 in
theorem str_row (b g cap m : Nat) (p : Value) (T : TypeId) (fr : Nat × Nat) (cur : Array Value) (l : List UInt8) (w : World) (h0 : l ≠ []) (hm : l.length ≤ 281474976710656) (hcap : l.length ≤ cap) (hsh : w.shape? g = some (5, m)) (hlm : l.length ≤ m)
    (hb : w.heap[b]? = some (.cells cur T fr)) (hc : cur[1]? = some (.slice (some ⟨g, 0, none⟩) l.length cap))
    (hcell : ∀ j x, l[j]? = some x → w.cell? ((⟨g, 0, none⟩ : Addr).add j) = some (.int .u8 x.toNat)) :
    Calls Tryd.prog 31 #[.pointer (some ⟨b, 0, none⟩)] w fun e w' => e = .returned (.string ⟨l.toArray⟩) ∧ w' = w.drew.freeze ⟨g, 0, none⟩ l.length := by
  have hl0 : l.length ≠ 0 := by simpa using h0
  have hco : Tryd.prog.cellsOf 5 = 1 := by kernel_rfl
  have mixed : Tryd.prog.follows Departure.mixedOrders = true := by kernel_rfl
  have c1 : w.drew.cell? ⟨b, 1, none⟩ = some (.slice (some ⟨g, 0, none⟩) l.length cap) := by
    have : w.drew.heap[b]? = some (.cells cur T fr) := hb
    rw [Lib.cell_of_heap this]; exact hc
  have hSD : (Builtin.unsafeSliceData_ #[52] 91 #[.slice (some ⟨g, 0, none⟩) l.length cap]).run Tryd.prog w.drew = .ok (.pointer (some ⟨g, 0, none⟩)) w.drew :=
    Lib.run_unsafeSliceData_row _ _ _ _ _ _ (by omega)
  have hUS : (Builtin.unsafeString_ #[91, 3] 9 #[.pointer (some ⟨g, 0, none⟩), .int .i64 l.length]).run Tryd.prog w.drew = .ok (.string ⟨l.toArray⟩) (w.drew.freeze ⟨g, 0, none⟩ l.length) :=
    Lib.run_unsafeString_row w.drew 91 3 9 5 Tryd.underlying91 hco g m hsh l h0 hlm (by omega) hcell
  go_enter Tryd.func31, Tryd.ntmps31
  go_wp2
  go_region_o
  all_goals (go_wp2; go_ret; exact ⟨rfl, rfl⟩)
set_option maxHeartbeats 4000000 in
set_option maxRecDepth 100000 in
theorem str_nil (b : Nat) (T : TypeId) (fr : Nat × Nat) (cur : Array Value) (w : World) (hb : w.heap[b]? = some (.cells cur T fr)) (hc : cur[1]? = some (.slice none 0 0)) :
    Calls Tryd.prog 31 #[.pointer (some ⟨b, 0, none⟩)] w fun e w' => e = .returned (.string ⟨#[]⟩) ∧ w' = w.drew := by
  have mixed : Tryd.prog.follows Departure.mixedOrders = true := by kernel_rfl
  have c1 : w.drew.cell? ⟨b, 1, none⟩ = some (.slice none 0 0) := by
    have : w.drew.heap[b]? = some (.cells cur T fr) := hb
    rw [Lib.cell_of_heap this]; exact hc
  have hSD : (Builtin.unsafeSliceData_ #[52] 91 #[.slice none 0 0]).run Tryd.prog w.drew = .ok (.pointer none) w.drew := Lib.run_unsafeSliceData_nil _ _ _ _ _
  have hUS : (Builtin.unsafeString_ #[91, 3] 9 #[.pointer none, .int .i64 0]).run Tryd.prog w.drew = .ok (.string .empty) w.drew := Lib.run_unsafeString_none _ _ _ _ _
  go_enter Tryd.func31, Tryd.ntmps31
  go_wp2
  go_region_o
  all_goals (go_wp2; go_ret; exact ⟨rfl, rfl⟩)
end Go.Proofs.YtjgjcpbkmeillaaDoor
