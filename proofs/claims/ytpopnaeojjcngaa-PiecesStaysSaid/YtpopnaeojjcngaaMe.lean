/- Awake; the reference's All. By the prover of this seat. -/
import Derived.Test.YtpopnaeojjcngaaMd
set_option linter.unusedVariables false
set_option linter.unusedSimpArgs false
set_option maxRecDepth 100000
set_option maxHeartbeats 4000000
namespace Go.Proofs.Ytpopnaeojjcngaa
open Go.RowKit Go.Pm
theorem gv (a : Int) (h0 : 0 ≤ a) (h1 : a ≤ 1000000) : Gv ⟨[1, 2, 3], 2, a, true⟩ := ⟨by simp only; omega, by simp only; omega, h0, h1, by simp⟩
theorem awake_ok : Pu 10 [] (bl true) := by
  have h1 := new_good [1, 2, 3] 2 (by decide) (by decide) (by decide)
  have h2 := put_ok ⟨[1, 2, 3], 2, 0, true⟩ (gv 0 (by decide) (by decide))
  rw [show putD ⟨[1, 2, 3], 2, 0, true⟩ = (⟨true, 3, [], false⟩, true) from rfl] at h2
  have h3 := code_ok ⟨true, 3, [], false⟩ (by decide)
  rw [show codeD ⟨true, 3, [], false⟩ = [1, 3] from rfl] at h3
  have h4 := same1_ok [1, 3] [1, 3] (by decide)
  rw [decide_eq_true rfl] at h4
  have g0 := gone_ok ⟨[1, 2, 3], 2, 0, true⟩ (gv 0 (by decide) (by decide))
  rw [show goneD ⟨[1, 2, 3], 2, 0, true⟩ = ⟨[1, 2, 3], 2, 1, true⟩ from rfl] at g0
  have g1 := gone_ok ⟨[1, 2, 3], 2, 1, true⟩ (gv 1 (by decide) (by decide))
  rw [show goneD ⟨[1, 2, 3], 2, 1, true⟩ = ⟨[1, 2, 3], 2, 2, true⟩ from rfl] at g1
  have g2 := gone_ok ⟨[1, 2, 3], 2, 2, true⟩ (gv 2 (by decide) (by decide))
  rw [show goneD ⟨[1, 2, 3], 2, 2, true⟩ = ⟨[1, 2, 3], 2, 3, true⟩ from rfl] at g2
  have g3 := gone_ok ⟨[1, 2, 3], 2, 3, true⟩ (gv 3 (by decide) (by decide))
  rw [show goneD ⟨[1, 2, 3], 2, 3, true⟩ = ⟨[1, 2, 3], 2, 4, true⟩ from rfl] at g3
  have h5 := put_ok ⟨[1, 2, 3], 2, 2, true⟩ (gv 2 (by decide) (by decide))
  rw [show putD ⟨[1, 2, 3], 2, 2, true⟩ = (⟨true, 0, [3], false⟩, true) from rfl] at h5
  have h6 := code_ok ⟨true, 0, [3], false⟩ (by decide)
  rw [show codeD ⟨true, 0, [3], false⟩ = [2, 0, 3] from rfl] at h6
  have h7 := same1_ok [2, 0, 3] [2, 0, 3] (by decide)
  rw [decide_eq_true rfl] at h7
  have h8 := done_ok ⟨[1, 2, 3], 2, 4, true⟩ (gv 4 (by decide) (by decide))
  rw [show doneD ⟨[1, 2, 3], 2, 4, true⟩ = true from rfl] at h8
  exact pure_of (hs := hint [((1,1), {call := some (AV.tup [A (giveL { data := [(1 : Int), (2 : Int), (3 : Int)], most := (2 : Int), at_ := (0 : Int), live := true : Give }), i64 (0 : Int)])}), ((2,1), {call := some (putR ({ incr := true, total := (3 : Int), data := [], last := false : Piece }, true))}), ((3,1), {call := some (A (giveL { data := [(1 : Int), (2 : Int), (3 : Int)], most := (2 : Int), at_ := (1 : Int), live := true : Give }))}), ((3,2), {call := some (A (giveL { data := [(1 : Int), (2 : Int), (3 : Int)], most := (2 : Int), at_ := (2 : Int), live := true : Give }))}), ((3,3), {call := some (putR ({ incr := true, total := (0 : Int), data := [(3 : Int)], last := false : Piece }, true))}), ((4,7), {call := some (slI [(1 : Int), (3 : Int)])}), ((4,9), {call := some (bl true)}), ((4,16), {call := some (slI [(2 : Int), (0 : Int), (3 : Int)])}), ((4,18), {call := some (bl true)}), ((4,22), {call := some (A (giveL { data := [(1 : Int), (2 : Int), (3 : Int)], most := (2 : Int), at_ := (1 : Int), live := true : Give }))}), ((4,23), {call := some (A (giveL { data := [(1 : Int), (2 : Int), (3 : Int)], most := (2 : Int), at_ := (2 : Int), live := true : Give }))}), ((4,24), {call := some (A (giveL { data := [(1 : Int), (2 : Int), (3 : Int)], most := (2 : Int), at_ := (3 : Int), live := true : Give }))}), ((4,25), {call := some (A (giveL { data := [(1 : Int), (2 : Int), (3 : Int)], most := (2 : Int), at_ := (4 : Int), live := true : Give }))}), ((4,26), {call := some (bl true)})]) (ps := [_, _, _, _, _, _, _, _, _, _, _, _, _, _]) (by kernel_rfl) ⟨(h1), (h2), (g0), (g1), (h5), (h3), (h4), (h6), (h7), (g0), (g1), (g2), (g3), (h8), trivial⟩
/-! All -/
def slP (l : List Piece) : AV := .sl l.length (l.flatMap pieceL)
theorem len_p (p : Piece) : (pieceL p).length = 4 := rfl
theorem ps_len (l : List Piece) : (l.flatMap pieceL).length = l.length * 4 := len_flat (sz := 4) len_p l
theorem ps_pure (l : List Piece) : (l.flatMap pieceL).all pureC = true := flat_pure (fun _ => rfl) l
theorem ps_pureB (l : List Piece) (n fz : Nat) : pureB (.arr n (l.flatMap pieceL) fz) = true := ps_pure l
theorem ps_sl (l : List Piece) (n m : Nat) (h : n = l.length) (hm : l.length * 4 ≤ m) : AV.sl n (((l.flatMap pieceL).drop 0).take m) = slP l := by
  rw [List.drop_zero, flat_take1 (sz := 4) len_p l m hm, h]; rfl
def partP (d : List Int) (n i : Nat) : Piece := ⟨true, 0, partAt d n i, false⟩
def annP (d : List Int) : Piece := ⟨true, d.length, [], false⟩
def endP : Piece := ⟨true, 0, [], true⟩
def wholeP (d : List Int) : Piece := ⟨false, d.length, d, true⟩
def cntD (d : List Int) (n : Nat) : Nat := (d.length + n - 1) / n
def allD (d : List Int) (n : Nat) : List Piece := if d.length ≤ n then [wholeP d] else annP d :: (List.range (cntD d n)).map (partP d n) ++ [endP]
theorem cnt_lt {d : List Int} {n : Nat} (hn : 0 < n) (k : Nat) : k < cntD d n ↔ k * n < d.length := by
  unfold cntD
  rw [Nat.lt_iff_add_one_le, Nat.le_div_iff_mul_le hn, Nat.add_one_mul]
  omega
noncomputable def alBody : Code := loopOf Try.prog 12 11
def alSt (d : List Int) (n at_ m : Nat) (ks : List Piece) : St := ⟨mkT 57 [(0, slI d), (1, i64 n), (6, .osl 0 0 m 4), (7, i64 at_)], [.arr (m * 4) (ks.flatMap pieceL) 0]⟩
theorem al_step (d : List Int) (n at_ m : Nat) (ks : List Piece) (p : List Int) (hp : p = (d.drop at_).take n) (hn : 0 < n) (hn2 : n ≤ 16382) (ha : at_ < d.length) (hl : d.length ≤ 65536) (hm : m = ks.length) (hm2 : m ≤ 100000) : Tri C0 alBody (alSt d n at_ m ks) .normal (alSt d n (at_ + n) (m + 1) (ks ++ [⟨true, 0, p, false⟩])) := by
  obtain ⟨q, hq⟩ : ∃ q : Piece, q = ⟨true, 0, p, false⟩ := ⟨_, rfl⟩
  rw [← hq]
  have e1 : (ks ++ [q]).flatMap pieceL = ks.flatMap pieceL ++ pieceL q := by simp
  have e2 : pieceL q = [bl true, i64 0, slI p, bl false] := by rw [hq]; rfl
  rw [e2] at e1
  have hcut : ∀ b : Int, b = min ((at_ : Int) + n) d.length → AV.sl (b - at_).toNat (pieceA 1 at_ b (d.flatMap eI)) = slI p := fun b hb => by
    rw [sl_cut d at_ b (by omega) (by omega) (by omega), hp]
    congr 1
    by_cases hx : (at_ : Int) + n ≤ d.length
    · rw [show (b - at_).toNat = n by omega, Int.toNat_natCast]
    · rw [List.take_of_length_le (i := (b - (at_ : Int)).toNat) (by rw [List.length_drop]; omega), List.take_of_length_le (by rw [List.length_drop]; omega), Int.toNat_natCast]
  by_cases hx : (d.length : Int) < (at_ : Int) + n
  · exact runF_ok (hs := hint [((11,3), {val := some (bl (true))}), ((13,5), {val := some (i64 ((↑at_ : Int) + (↑n : Int)))}), ((13,8), { val := some (i64 d.length) }), ((13,9), { sym := true, val := some (slI p) }), ((13,12), { sym := true, cells := some ((ks ++ [q]).flatMap pieceL) }), ((12,2), {val := some (i64 ((↑at_ : Int) + (↑n : Int)))})]) (f := { ks := [0, 1, 6, 7], l := [2] }) (ps := [bl (decide ((↑at_ : Int) < (↑d.length : Int))) = bl (true), i64 (IntKind.i64.wrap ((↑at_ : Int) + (↑n : Int))) = i64 ((↑at_ : Int) + (↑n : Int)), i64 (if (↑d.length : Int) < (↑at_ : Int) + (↑n : Int) then (↑d.length : Int) else (↑at_ : Int) + (↑n : Int)) = i64 ((↑d.length : Int)), (decide ((0 : Int) ≤ (↑at_ : Int) ∧ (↑at_ : Int) ≤ (↑d.length : Int) ∧ (↑d.length : Int) ≤ (↑d.length : Int) ∧ (↑d.length : Int) ≤ (↑d.length : Int)) && true) = true, AV.sl (((↑d.length : Int) - (↑at_ : Int)).toNat) (List.take (((↑d.length : Int) - (↑at_ : Int)).toNat * (1 : Nat)) (List.drop ((↑at_ : Int).toNat * (1 : Nat)) (List.flatMap eI d))) = AV.sl (p.length) (List.flatMap eI p), decide (m * (4 : Nat) = m * (4 : Nat) ∧ (0 : Nat) ≤ m * (4 : Nat) ∧ m * (4 : Nat) = (List.flatMap pieceL ks).length) = true, decide ((m + (1 : Nat)) * (48 : Nat) ≤ (140737488355328 : Nat)) = true, true = true, ((List.flatMap pieceL ks ++ [AV.s (Value.bool true), AV.s (Value.int IntKind.i64 (0 : Int)), AV.sl p.length (List.flatMap eI p), AV.s (Value.bool false)]) : List AV) = (List.flatMap pieceL (ks ++ [q])), i64 (IntKind.i64.wrap ((↑at_ : Int) + (↑n : Int))) = i64 ((↑at_ : Int) + (↑n : Int)), true = true, pureB (Bk.arr ((m + (1 : Nat)) * (4 : Nat)) (List.flatMap pieceL (ks ++ [q])) (0 : Nat)) = true]) (by kernel_rfl) ⟨(bdT (by omega)), (intE (by exact wrap_i64 (by omega) (by omega))), (by (simp only [if_pos hx]; done)), (by (first | exact hcut _ (by omega) | (simp [slIn]; omega))), (by (first | exact hcut _ (by omega) | (simp [slIn]; omega))), (by (first | exact e1.symm | exact decide_t (by omega) | exact decide_t ⟨by omega, by omega, by rw [ps_len]; omega⟩)), (by (first | exact e1.symm | exact decide_t (by omega) | exact decide_t ⟨by omega, by omega, by rw [ps_len]; omega⟩)), rfl, (by (first | exact e1.symm | exact decide_t (by omega) | exact decide_t ⟨by omega, by omega, by rw [ps_len]; omega⟩)), (intE (by exact wrap_i64 (by omega) (by omega))), rfl, (by exact ps_pureB _ _ _), trivial⟩
  · exact runF_ok (hs := hint [((11,3), {val := some (bl (true))}), ((13,5), {val := some (i64 ((↑at_ : Int) + (↑n : Int)))}), ((13,8), { val := some (i64 ((at_ : Int) + n)) }), ((13,9), { sym := true, val := some (slI p) }), ((13,12), { sym := true, cells := some ((ks ++ [q]).flatMap pieceL) }), ((12,2), {val := some (i64 ((↑at_ : Int) + (↑n : Int)))})]) (f := { ks := [0, 1, 6, 7], l := [2] }) (ps := [bl (decide ((↑at_ : Int) < (↑d.length : Int))) = bl (true), i64 (IntKind.i64.wrap ((↑at_ : Int) + (↑n : Int))) = i64 ((↑at_ : Int) + (↑n : Int)), i64 (if (↑d.length : Int) < (↑at_ : Int) + (↑n : Int) then (↑d.length : Int) else (↑at_ : Int) + (↑n : Int)) = i64 ((↑at_ : Int) + (↑n : Int)), (decide ((0 : Int) ≤ (↑at_ : Int) ∧ (↑at_ : Int) ≤ (↑at_ : Int) + (↑n : Int) ∧ (↑at_ : Int) + (↑n : Int) ≤ (↑d.length : Int) ∧ (↑d.length : Int) ≤ (↑d.length : Int)) && true) = true, AV.sl (((↑at_ : Int) + (↑n : Int) - (↑at_ : Int)).toNat) (List.take (((↑at_ : Int) + (↑n : Int) - (↑at_ : Int)).toNat * (1 : Nat)) (List.drop ((↑at_ : Int).toNat * (1 : Nat)) (List.flatMap eI d))) = AV.sl (p.length) (List.flatMap eI p), decide (m * (4 : Nat) = m * (4 : Nat) ∧ (0 : Nat) ≤ m * (4 : Nat) ∧ m * (4 : Nat) = (List.flatMap pieceL ks).length) = true, decide ((m + (1 : Nat)) * (48 : Nat) ≤ (140737488355328 : Nat)) = true, true = true, ((List.flatMap pieceL ks ++ [AV.s (Value.bool true), AV.s (Value.int IntKind.i64 (0 : Int)), AV.sl p.length (List.flatMap eI p), AV.s (Value.bool false)]) : List AV) = (List.flatMap pieceL (ks ++ [q])), i64 (IntKind.i64.wrap ((↑at_ : Int) + (↑n : Int))) = i64 ((↑at_ : Int) + (↑n : Int)), true = true, pureB (Bk.arr ((m + (1 : Nat)) * (4 : Nat)) (List.flatMap pieceL (ks ++ [q])) (0 : Nat)) = true]) (by kernel_rfl) ⟨(bdT (by omega)), (intE (by exact wrap_i64 (by omega) (by omega))), (by (simp only [if_neg hx]; done)), (by (first | exact hcut _ (by omega) | (simp [slIn]; omega))), (by (first | exact hcut _ (by omega) | (simp [slIn]; omega))), (by (first | exact e1.symm | exact decide_t (by omega) | exact decide_t ⟨by omega, by omega, by rw [ps_len]; omega⟩)), (by (first | exact e1.symm | exact decide_t (by omega) | exact decide_t ⟨by omega, by omega, by rw [ps_len]; omega⟩)), rfl, (by (first | exact e1.symm | exact decide_t (by omega) | exact decide_t ⟨by omega, by omega, by rw [ps_len]; omega⟩)), (intE (by exact wrap_i64 (by omega) (by omega))), rfl, (by exact ps_pureB _ _ _), trivial⟩
theorem al_end (d : List Int) (n at_ m : Nat) (ks : List Piece) (h : ¬ at_ < d.length) : LoopT C0 alBody (alSt d n at_ m ks) (.exit 0) (alSt d n at_ m ks) := by
  exact LoopT.fin (hs := hint [((11,3), {val := some (bl (false))})]) (f := { ks := [0, 1, 6, 7], l := [0] }) (ps := [bl (decide ((↑at_ : Int) < (↑d.length : Int))) = bl (false), true = true, pureB (Bk.arr (m * (4 : Nat)) (List.flatMap pieceL ks) (0 : Nat)) = true]) (by kernel_rfl) ⟨(bdF (by omega)), rfl, (by exact ps_pureB _ _ _), trivial⟩ (by decide)
theorem al_all (d : List Int) (n : Nat) (hn : 0 < n) (hn2 : n ≤ 16382) (hl : d.length ≤ 65536) : LoopT C0 alBody (alSt d n 0 1 [annP d]) (.exit 0) (alSt d n (cntD d n * n) (cntD d n + 1) (annP d :: (List.range (cntD d n)).map (partP d n))) := by
  have hb : cntD d n ≤ 65536 := Nat.le_of_lt_succ (Nat.lt_of_not_le fun q => by
    have := (cnt_lt (d := d) hn 65536).1 (by omega)
    have h2 : 65536 * 1 ≤ 65536 * n := Nat.mul_le_mul_left _ hn
    omega)
  have L := LoopT.count (fun k => alSt d n (k * n) (k + 1) (annP d :: (List.range k).map (partP d n))) (cntD d n) (fun k hk => by
    have h1 := (cnt_lt hn k).1 hk
    have := al_step d n (k * n) (k + 1) (annP d :: (List.range k).map (partP d n)) _ rfl hn hn2 h1 hl (by simp) (by omega)
    rw [show (k + 1) * n = k * n + n from Nat.add_one_mul k n, List.range_succ, List.map_append]
    exact this) (al_end d n _ _ _ (fun q => Nat.lt_irrefl _ ((cnt_lt hn _).2 q))) 0 (by omega)
  rw [Nat.zero_mul] at L
  exact L
def slR (l : List Piece) (e : Int) : AV := .tup [slP l, i64 e]
theorem all_size (d : List Int) (n : Int) (h : n < 1 ∨ n > 16382) : Pu 12 [slI d, i64 n] (slR [] 17) := by
  by_cases h1 : n < (1 : Int)
  · exact pure_of (hs := hint [((1,2), {val := some (bl (true))})]) (ps := [bl (decide (n < (1 : Int))) = bl (true)]) (by kernel_rfl) ⟨(bdT h1), trivial⟩
  · exact pure_of (hs := hint [((1,2), {val := some (bl (false))}), ((1,5), {val := some (bl (true))})]) (ps := [bl (decide (n < (1 : Int))) = bl (false), bl (decide (n > (16382 : Int))) = bl (true)]) (by kernel_rfl) ⟨(bdF h1), (bdT (by omega)), trivial⟩
theorem all_long (d : List Int) (n : Int) (h : ¬ (n < 1 ∨ n > 16382)) (hd : (d.length : Int) > 65536) : Pu 12 [slI d, i64 n] (slR [] 4) := by
  exact pure_of (hs := hint [((1,2), {val := some (bl (false))}), ((1,5), {val := some (bl (false))}), ((3,2), {val := some (bl (true))})]) (ps := [bl (decide (n < (1 : Int))) = bl (false), bl (decide (n > (16382 : Int))) = bl (false), bl (decide ((↑d.length : Int) > (65536 : Int))) = bl (true)]) (by kernel_rfl) ⟨(bdF (by omega)), (bdF (by omega)), (bdT (by assumption)), trivial⟩
theorem all_range (d : List Int) (n : Int) (h : ¬ (n < 1 ∨ n > 16382)) (hd : ¬ (d.length : Int) > 65536) (hn : ¬ numsD d = true) : Pu 12 [slI d, i64 n] (slR [] 1) := by
  have h1 := right_ok d (by omega)
  exact pure_of (hs := hint [((1,2), {val := some (bl (false))}), ((1,5), {val := some (bl (false))}), ((3,2), {val := some (bl (false))}), ((5,1), {call := some (bl (numsD d))}), ((5,2), {val := some (bl (true))})]) (ps := [bl (decide (n < (1 : Int))) = bl (false), bl (decide (n > (16382 : Int))) = bl (false), bl (decide ((↑d.length : Int) > (65536 : Int))) = bl (false), _, bl (!numsD d) = bl (true)]) (by kernel_rfl) ⟨(bdF (by omega)), (bdF (by omega)), (bdF (by assumption)), (h1), (bnF (bvF (by assumption))), trivial⟩
theorem all_one (d : List Int) (n : Nat) (h : ¬ ((n : Int) < 1 ∨ (n : Int) > 16382)) (hd : ¬ (d.length : Int) > 65536) (hn : numsD d = true) (hs : d.length ≤ n) : Pu 12 [slI d, i64 n] (slR [wholeP d] 0) := by
  have h1 := right_ok d (by omega)
  exact pure_of (hs := hint [((1,2), {val := some (bl (false))}), ((1,5), {val := some (bl (false))}), ((3,2), {val := some (bl (false))}), ((5,1), {call := some (bl (numsD d))}), ((5,2), {val := some (bl (false))}), ((7,3), {val := some (bl (true))})]) (ps := [bl (decide ((↑n : Int) < (1 : Int))) = bl (false), bl (decide ((↑n : Int) > (16382 : Int))) = bl (false), bl (decide ((↑d.length : Int) > (65536 : Int))) = bl (false), _, bl (!numsD d) = bl (false), bl (decide ((↑d.length : Int) ≤ (↑n : Int))) = bl (true)]) (by kernel_rfl) ⟨(bdF (by omega)), (bdF (by omega)), (bdF (by assumption)), (h1), (bnT (bvT (by assumption))), (bdT (by omega)), trivial⟩
theorem all_many (d : List Int) (n : Nat) (h : ¬ ((n : Int) < 1 ∨ (n : Int) > 16382)) (hd : ¬ (d.length : Int) > 65536) (hn : numsD d = true) (hs : ¬ d.length ≤ n) : Pu 12 [slI d, i64 n] (slR (annP d :: (List.range (cntD d n)).map (partP d n) ++ [endP]) 0) := by
  have h1 := right_ok d (by omega)
  have L := al_all d n (by omega) (by omega) (by omega)
  have hb : cntD d n ≤ 65536 := Nat.le_of_lt_succ (Nat.lt_of_not_le fun q => by
    have := (cnt_lt (d := d) (n := n) (by omega) 65536).1 (by omega)
    have h2 : 65536 * 1 ≤ 65536 * n := Nat.mul_le_mul_left _ (by omega)
    omega)
  have hlen : (annP d :: (List.range (cntD d n)).map (partP d n)).length = cntD d n + 1 := by simp
  generalize cntD d n = c at L hlen hb
  generalize annP d :: (List.range c).map (partP d n) = ks at L hlen ⊢
  have e1 : (ks ++ [endP]).flatMap pieceL = ks.flatMap pieceL ++ pieceL endP := by simp
  exact pure_cast (pure_said (hs := hint [((1,2), {val := some (bl (false))}), ((1,5), {val := some (bl (false))}), ((3,2), {val := some (bl (false))}), ((5,1), {call := some (bl (numsD d))}), ((5,2), {val := some (bl (false))}), ((7,3), {val := some (bl (false))}), ((11,1000), {loop := some ({ ks := [0, 1, 6, 7], l := [0], mx := [0] }, alSt d n (0 : Nat) (1 : Nat) [annP d], Ex.exit (0 : Nat), alSt d n (c * n) (c + (1 : Nat)) ks)}), ((14,1), { loose := true }), ((14,3), { sym := true, cells := some ((ks ++ [endP]).flatMap pieceL) })]) (r := AV.tup [AV.sl (c + (1 : Nat) + (1 : Nat)) (List.take ((c + (1 : Nat) + (1 : Nat)) * (4 : Nat)) (List.drop (0 : Nat) (List.flatMap pieceL (ks ++ [endP])))), i64 ((0 : Int))]) (ps := [bl (decide ((↑n : Int) < (1 : Int))) = bl (false), bl (decide ((↑n : Int) > (16382 : Int))) = bl (false), bl (decide ((↑d.length : Int) > (65536 : Int))) = bl (false), _, bl (!numsD d) = bl (false), bl (decide ((↑d.length : Int) ≤ (↑n : Int))) = bl (false), alSt d n (0 : Nat) (1 : Nat) [annP d] = alSt d n (0 : Nat) (1 : Nat) [annP d], _, true = true, decide ((c + (1 : Nat)) * (4 : Nat) = (c + (1 : Nat)) * (4 : Nat) ∧ (0 : Nat) ≤ (c + (1 : Nat)) * (4 : Nat) ∧ (c + (1 : Nat)) * (4 : Nat) = (List.flatMap pieceL ks).length) = true, decide ((c + (1 : Nat) + (1 : Nat)) * (48 : Nat) ≤ (140737488355328 : Nat)) = true, true = true, ((List.flatMap pieceL ks ++ [AV.s (Value.bool true), AV.s (Value.int IntKind.i64 (0 : Int)), AV.sl (0 : Nat) [], AV.s (Value.bool true)]) : List AV) = (List.flatMap pieceL (ks ++ [endP])), ([(2 : Nat)].all fun (i : Nat) => (Option.map pureB [Bk.dead, Bk.arr (4 : Nat) [AV.s (Value.bool true), AV.s (Value.int IntKind.i64 (0 : Int)), AV.sl (0 : Nat) [], AV.s (Value.bool true)] (0 : Nat), Bk.arr ((c + (1 : Nat) + (1 : Nat)) * (4 : Nat)) (List.flatMap pieceL (ks ++ [endP])) (0 : Nat)][i]?).getD false) = true, true = true]) (by kernel_rfl) ⟨(bdF (by omega)), (bdF (by omega)), (bdF (by assumption)), (h1), (bnT (bvT (by assumption))), (bdF (by omega)), rfl, L, rfl, (by (first | exact e1.symm | exact decide_t (by omega) | exact decide_t ⟨by omega, by omega, by rw [ps_len]; omega⟩)), (by (first | exact e1.symm | exact decide_t (by omega) | exact decide_t ⟨by omega, by omega, by rw [ps_len]; omega⟩)), rfl, (by (first | exact e1.symm | exact decide_t (by omega) | exact decide_t ⟨by omega, by omega, by rw [ps_len]; omega⟩)), (by exact ids_one _ _ _ rfl (ps_pureB _ _ _)), rfl, trivial⟩) (by (rw [ps_sl (ks ++ [endP]) _ _ (by rw [List.length_append, List.length_singleton]; omega) (by rw [List.length_append, List.length_singleton]; omega)]; rfl))
theorem all_good (d : List Int) (n : Nat) (h : ¬ ((n : Int) < 1 ∨ (n : Int) > 16382)) (hd : ¬ (d.length : Int) > 65536) (hn : numsD d = true) : Pu 12 [slI d, i64 n] (slR (allD d n) 0) := by
  unfold allD
  by_cases hs : d.length ≤ n
  · rw [if_pos hs]; exact all_one d n h hd hn hs
  · rw [if_neg hs]; exact all_many d n h hd hn hs
end Go.Proofs.Ytpopnaeojjcngaa
