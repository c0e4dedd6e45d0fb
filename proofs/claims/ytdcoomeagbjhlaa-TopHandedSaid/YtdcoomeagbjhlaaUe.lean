/- All pieces. By the prover of this seat. -/
import Derived.Test.YtdcoomeagbjhlaaUd
set_option linter.unusedVariables false
set_option linter.unusedSimpArgs false
set_option maxRecDepth 100000
set_option maxHeartbeats 4000000
namespace Go.Proofs.Ytdcoomeagbjhlaa
open Go.RowKit Go.Pm
theorem gv (a : Int) (h0 : 0 ≤ a) (h1 : a ≤ 1000000) : Gv ⟨[1, 2, 3], 2, a, true⟩ := ⟨by simp only; omega, by simp only; omega, h0, h1, by simp⟩
def slP (l : List Piece) : AV := .sl l.length (l.flatMap pieceL)
theorem len_p (p : Piece) : (pieceL p).length = 4 := rfl
theorem ps_len (l : List Piece) : (l.flatMap pieceL).length = l.length * 4 := len_flat (sz := 4) len_p l
theorem ps_pure (l : List Piece) : (l.flatMap pieceL).all pureC = true := flat_pure (fun _ => rfl) l
theorem ps_pureB (l : List Piece) (n : Nat) (fz : Fz) : pureB (.arr n (l.flatMap pieceL) fz) = true := ps_pure l
theorem ps_sl (l : List Piece) (n m : Nat) (h : n = l.length) (hm : l.length * 4 ≤ m) : AV.sl n (((l.flatMap pieceL).drop 0).take m) = slP l := by
  rw [List.drop_zero, flat_take1 (sz := 4) len_p l m hm, h]; rfl
def partP (d : List Int) (n i : Nat) : Piece := ⟨true, 0, partAt d n i, false⟩
def annP (d : List Int) : Piece := ⟨true, d.length, [], false⟩
def endP : Piece := ⟨true, 0, [], true⟩
def wholeP (d : List Int) : Piece := ⟨false, d.length, d, true⟩
def cntD (d : List Int) (n : Nat) : Nat := (d.length + n - 1) / n
def allD (d : List Int) (n : Nat) : List Piece := if d.length ≤ n then [wholeP d] else annP d :: (List.range (cntD d n)).map (partP d n) ++ [endP]
theorem cnt_lt {d : List Int} {n : Nat} (hn : 0 < n) (k : Nat) : k < cntD d n ↔ k * n < d.length := by
  unfold cntD
  rw [Nat.lt_iff_add_one_le, Nat.le_div_iff_mul_le hn, Nat.add_one_mul]
  omega
def alSt (d : List Int) (n at_ m : Nat) (ks : List Piece) : St := ⟨mkT 57 [(0, slI d), (1, i64 n), (6, .osl 0 0 m 4), (7, i64 at_)], [.arr (m * 4) (ks.flatMap pieceL) 0]⟩
def slR (l : List Piece) (e : Int) : AV := .tup [slP l, i64 e]
end Go.Proofs.Ytdcoomeagbjhlaa
