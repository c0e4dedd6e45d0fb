/- A choice copied. By the prover of this seat. -/
import Derived.Test.YtcnlgdbmcdlknaaDoorGe
set_option linter.unusedVariables false
set_option linter.unusedSimpArgs false
set_option maxRecDepth 100000
set_option maxHeartbeats 4000000
namespace Go.Proofs.YtcnlgdbmcdlknaaDoor.Ch
open Go.RowKit Go.Pm
def boxA (l : List Row) : Bk := .arr 2 [.mp (rowsK l), .mp (rowsT l)] 0
theorem copied_0 (l : List Row) (h : LOk l) (hk : (rowsK l).length ≤ 1000) (ht : (rowsT l).length ≤ 1000) : Pure Tryd.prog GS 23 [tabC l] (A [.omp 2, .omp 3]) [.arr 2 [.mp (rowsK l), .mp (rowsT l)] 0, .arr 2 [.omp 2, .omp 3] 0, .map (rowsK l) false, .map (rowsT l) false, .arr 2 [.omp 2, .omp 3] 0] := by
  have c1 := ck_ok (rowsK l) (rowsT l) l h
  have c2 := ct_ok (rowsK l) (rowsT l) (rowsK l) (pureB_k _ _) l h
  rw [show (l.filter mskB).map rowK = rowsK l from rfl] at c1
  rw [show (l.filter stpB).map rowT = rowsT l from rfl] at c2
  exact (fnRun_ok (hs := hint [((1,3), {val := some (i64 ((↑(rowsK l).length : Int) + (1 : Int)))}), ((1,8), {val := some (i64 ((↑(rowsT l).length : Int) + (1 : Int)))}), ((2,4), {heap := some (AV.tup [], [Bk.arr (2 : Nat) [AV.mp (rowsK l), AV.mp (rowsT l)] (0 : Fz), Bk.arr (2 : Nat) [AV.mp [], AV.mp []] (0 : Fz), Bk.map (rowsK l) false, Bk.map [] false, Bk.arr (2 : Nat) [AV.omp (2 : Nat), AV.omp (3 : Nat)] (0 : Fz)])}), ((3,4), {heap := some (AV.tup [], [Bk.arr (2 : Nat) [AV.mp (rowsK l), AV.mp (rowsT l)] (0 : Fz), Bk.arr (2 : Nat) [AV.mp [], AV.mp []] (0 : Fz), Bk.map (rowsK l) false, Bk.map (rowsT l) false, Bk.arr (2 : Nat) [AV.omp (2 : Nat), AV.omp (3 : Nat)] (0 : Fz)])})]) (ps := [i64 (IntKind.i64.wrap ((↑(rowsK l).length : Int) + (1 : Int))) = i64 ((↑(rowsK l).length : Int) + (1 : Int)), i64 (IntKind.i64.wrap ((↑(rowsT l).length : Int) + (1 : Int))) = i64 ((↑(rowsT l).length : Int) + (1 : Int)), _, [Bk.arr (2 : Nat) [AV.mp (rowsK l), AV.mp (rowsT l)] (0 : Fz), Bk.arr (2 : Nat) [AV.mp [], AV.mp []] (if false = true then { n := (0 : Nat), ty := some (35 : Nat) : Fz } else (0 : Fz)), Bk.map [] false, Bk.map [] false, Bk.arr (2 : Nat) [AV.omp (2 : Nat), AV.omp (3 : Nat)] (if false = true then { n := (0 : Nat), ty := some (35 : Nat) : Fz } else (0 : Fz))].length ≤ [Bk.arr (2 : Nat) [AV.mp (rowsK l), AV.mp (rowsT l)] (0 : Fz), Bk.arr (2 : Nat) [AV.mp [], AV.mp []] (0 : Fz), Bk.map (rowsK l) false, Bk.map [] false, Bk.arr (2 : Nat) [AV.omp (2 : Nat), AV.omp (3 : Nat)] (0 : Fz)].length, _, [Bk.arr (2 : Nat) [AV.mp (rowsK l), AV.mp (rowsT l)] (0 : Fz), Bk.arr (2 : Nat) [AV.mp [], AV.mp []] (0 : Fz), Bk.map (rowsK l) false, Bk.map [] false, Bk.arr (2 : Nat) [AV.omp (2 : Nat), AV.omp (3 : Nat)] (0 : Fz)].length ≤ [Bk.arr (2 : Nat) [AV.mp (rowsK l), AV.mp (rowsT l)] (0 : Fz), Bk.arr (2 : Nat) [AV.mp [], AV.mp []] (0 : Fz), Bk.map (rowsK l) false, Bk.map (rowsT l) false, Bk.arr (2 : Nat) [AV.omp (2 : Nat), AV.omp (3 : Nat)] (0 : Fz)].length]) (by kernel_rfl) ⟨(intE (by exact wrap_i64 (by omega) (by omega))), (intE (by exact wrap_i64 (by omega) (by omega))), (c1), (by (simp; done)), (c2), (by (simp; done)), trivial⟩).1
theorem copied_ok (l : List Row) (h : LOk l) : Pure Tryd.prog GS 23 [tabC l] (A [.omp 0, .omp 1]) [.map (rowsK l) false, .map (rowsT l) false] := by
  have hk : (rowsK l).length ≤ 1000 := by unfold rowsK; rw [List.length_map]; exact Nat.le_trans (List.length_filter_le _ _) h.len
  have ht : (rowsT l).length ≤ 1000 := by unfold rowsT; rw [List.length_map]; exact Nat.le_trans (List.length_filter_le _ _) h.len
  exact (copied_0 l h hk ht).forget { ks := [0], l := [2, 3] } ⟨rfl, pureB_k _ _, pureB_t _ _, trivial⟩ rfl
end Go.Proofs.YtcnlgdbmcdlknaaDoor.Ch
