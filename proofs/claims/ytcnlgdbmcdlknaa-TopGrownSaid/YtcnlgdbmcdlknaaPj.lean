/- The sets are awake: one example. By the prover of this seat. -/
import Derived.Test.YtcnlgdbmcdlknaaPh
set_option linter.unusedVariables false
set_option linter.unusedSimpArgs false
set_option maxRecDepth 100000
set_option maxHeartbeats 8000000
namespace Go.Proofs.Ytcnlgdbmcdlknaa.Bn
open Go.RowKit Go.Pm
def aw1 : List Rc := [⟨0, 0, 1, 2⟩]
theorem sided_ok : PT 41 [i64 2] (bl true) := by
  exact pure_of (hs := hint []) (ps := []) (by kernel_rfl) trivial
theorem rects1 : PT 34 [A [.sl 1 [i64 0, i64 0, i64 1, i64 2]]] (.sl 1 [i64 0, i64 0, i64 1, i64 2]) := rects_fz aw1 (by decide)
theorem bits_x (hW : PT 40 [A [.sl 1 [i64 0, i64 0, i64 1, i64 2]], A [i64 0, i64 0, i64 2, i64 2]] (A [.sl 1 [i64 0, i64 0, i64 1, i64 2]])) : PT 16 [A [.sl 1 [i64 0, i64 0, i64 1, i64 2]], i64 2, i64 2] (.tup [st (strA [u8 1, u8 1]), i64 0]) := by
  have h1 := sided_ok
  have h2 := rects1
  exact pure_of (hs := hint [((1,1), {call := some ((bl true))}), ((1,5), {call := some ((bl true))}), ((5,4), {call := some ((A [AV.sl 1 [i64 (0 : Int), i64 (0 : Int), i64 (1 : Int), i64 (2 : Int)]]))}), ((5,5), {call := some (AV.sl (1) [(i64 (0 : Int)), (i64 (0 : Int)), (i64 (1 : Int)), (i64 (2 : Int))])}), ((12001001,1000), {unroll := 2}), ((12002001,1000), {unroll := 2}), ((9001,1000), {unroll := 3}), ((6,1000), {unroll := 2})]) (ps := [_, _, _, _]) (by kernel_rfl) ⟨(h1), (h1), (hW), (h2), trivial⟩
theorem aw_fn (hO : PT 5 [.sl 1 [i64 0, i64 0, i64 1, i64 2]] (A [.sl 1 [i64 0, i64 0, i64 1, i64 2]])) (hB : PT 16 [A [.sl 1 [i64 0, i64 0, i64 1, i64 2]], i64 2, i64 2] (.tup [st (strA [u8 1, u8 1]), i64 0])) : PT 4 [] (bl true) := by
  exact pure_of (hs := hint [((1,2), {call := some ((A [AV.sl 1 [i64 (0 : Int), i64 (0 : Int), i64 (1 : Int), i64 (2 : Int)]]))}), ((1,3), {call := some (AV.tup [(st (strA [u8 (1 : Int), u8 (1 : Int)])), (i64 (0 : Int))])})]) (ps := [_, _]) (by kernel_rfl) ⟨(hO), (hB), trivial⟩
end Go.Proofs.Ytcnlgdbmcdlknaa.Bn
