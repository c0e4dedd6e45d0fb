/- Keys of masks. By the prover of this seat. -/
import Derived.Maps.Keyed
import Derived.Test.YtcnlgdbmcdlknaaDoorYf
set_option linter.unusedVariables false
set_option linter.unusedSimpArgs false
set_option maxRecDepth 100000
set_option maxHeartbeats 4000000
namespace Go.Proofs.YtcnlgdbmcdlknaaDoor.Ch
open Go.RowKit Go.Pm Go.Maps
abbrev mkK (x : Int × Int) : Value := .agg #[.int .i64 x.1, .int .u32 x.2]
def ka33 (x : Int) : AV := .s (.int .u32 x)
def mk33 (x : Int) : Value := .int .u32 x
def ka67 (x : Int × Int) : AV := .agg [.s (.int .i64 x.1), .s (.int .u32 x.2)]
theorem kt67 : Tryd.prog.keyType 87 = true := by kernel_rfl
theorem c67 : Tryd.prog.cellsOf 87 = 2 := by kernel_rfl
theorem c3 : Tryd.prog.cellsOf 3 = 1 := by kernel_rfl
theorem c33 : Tryd.prog.cellsOf 39 = 1 := by kernel_rfl
theorem tsz : ∃ m, Tryd.prog.types.size = m + 1 := ⟨Tryd.prog.types.size - 1, by kernel_rfl⟩
theorem lits_mk {t : TypeId} {q : IntKind} (ht : Tryd.prog.underlying t = some (.int q)) (m : Nat) {n : Int} (hw : (Lit.int q n).wf = true) : Tryd.prog.keyLits (m + 1) t [.int q n] = some [.int q n] := by
  unfold Program.keyLits
  rw [ht]
  simp [hw]
theorem key67 {a b : Int} (ha : (Lit.int .i64 a).wf = true) (hb : (Lit.int .u32 b).wf = true) : (keyOf Tryd.prog 87 (mkK (a, b))).isSome = true := by
  unfold keyOf
  rw [Tryd.underlying87]
  simp only
  have hf : Value.formed Tryd.prog 87 (mkK (a, b)) = true := by simp [Value.formed, Tryd.underlying87, c67]
  rw [kt67, hf]
  simp only [Bool.and_self, if_true, Option.isSome_map]
  unfold Program.keyLits
  rw [Tryd.underlying87]
  obtain ⟨m, hm⟩ := tsz
  simp only [Value.cells, c67, c3, c33, hm]
  rw [if_pos ⟨rfl, by decide +kernel⟩]
  simp only [List.mapM_cons, List.mapM_nil, List.drop_zero, List.take_succ_cons, List.take_zero, List.drop_succ_cons, c3, c33, lits_mk Tryd.underlying3 m ha, lits_mk Tryd.underlying39 m hb, Option.isSome_map]
  rfl
theorem kwf67 {a b : Int} (ha : (Lit.int .i64 a).wf = true) (hb : (Lit.int .u32 b).wf = true) : kwf Tryd.prog 87 (ka67 (a, b)) = true := by
  show (true && (keyOf Tryd.prog 87 (mkK (a, b))).isSome) = true
  rw [key67 ha hb]; rfl
theorem kwf33 {b : Int} (hb : (Lit.int .u32 b).wf = true) : kwf Tryd.prog 39 (ka33 b) = true := by
  show (true && (keyOf Tryd.prog 39 (.int .u32 b)).isSome) = true
  rw [keyOf_int_mk Tryd.underlying39 hb]; rfl
end Go.Proofs.YtcnlgdbmcdlknaaDoor.Ch
