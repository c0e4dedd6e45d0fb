/- Put, by the document. By the prover of this seat. -/
import Derived.Test.YtdcoomeagbjhlaaDoorBg
set_option linter.unusedVariables false
set_option linter.unusedSimpArgs false
set_option maxRecDepth 100000
set_option maxHeartbeats 4000000
namespace Go.Proofs.YtdcoomeagbjhlaaDoor.Ca
open Go.RowKit Go.Pm
open Go.Proofs.YtdcoomeagbjhlaaDoor.Or (G1 C1 Pu)
def qsS (m : Int) (l l' : List ByteArray) (b : ByteArray) (p : Int) (d : List Int) (k : Nat) : St := ⟨mkT 119 [(1, st b), (2, .ptr 0 0), (4, .ptr 1 0), (7, .ptr 2 0), (9, i64 p), (10, slJ d), (11, i64 k)], [.arr 2 [i64 m, slS l] 0, .arr 2 [i64 0, .nsl] 0, .arr 2 [i64 m, slS l'] 0]⟩
def qwS (m : Int) (l' : List ByteArray) (b : ByteArray) (d : List Int) (k n : Nat) (zs : List Int) : St := ⟨mkT 119 [(1, st b), (4, .ptr 0 0), (7, .ptr 1 0), (10, slJ d), (13, .osl 2 0 n 1), (14, i64 k)], [.arr 2 [i64 0, .nsl] 0, .arr 2 [i64 m, slS l'] 0, .arr (n * 1) (zs.flatMap e8) 0]⟩
end Go.Proofs.YtdcoomeagbjhlaaDoor.Ca
