/- Takes; gives. By the prover of this seat. -/
import Derived.Test.YtdcoomeagbjhlaaUc
set_option linter.unusedVariables false
set_option linter.unusedSimpArgs false
set_option maxRecDepth 100000
set_option maxHeartbeats 4000000
namespace Go.Proofs.Ytdcoomeagbjhlaa
open Go.RowKit Go.Pm
def rgotK (k : Take) (p : Piece) (n : Int) : Take × Int :=
  if n = 4 then (k, 2) else if k.state > 1 then (k, 9)
  else if n > 1 then (if k.state = 1 then (if n = 2 then (if (k.data.length : Int) + p.data.length > k.total then (k, 4) else (⟨k.data ++ p.data, k.total, 1⟩, 0)) else (if (k.data.length : Int) < k.total then (k, 3) else (⟨k.data, 0, 2⟩, 0))) else (k, 8))
  else (if k.state = 1 then (k, 8) else if n = 0 then (⟨p.data, 0, 2⟩, 0) else (⟨[], p.total, 1⟩, 0))
def rtakeR (r : Take × Int) : AV := .tup [A (rtakeL r.1), i64 r.2]
theorem app_row (l m : List Int) (n : Nat) (h : m.length ≤ n) : l.flatMap eI ++ (m.flatMap eI).take n = (l ++ m).flatMap eI := by
  rw [is_take m n h, List.flatMap_append]
theorem data_ok (k : Take) (hk : k.data.length ≤ 100000) : Pu 9 [A (takeL k)] (.tup [slI k.data, i64 k.state]) := by
  have hc := copied_ok k.data (by omega)
  exact pure_of (hs := hint [((1,2), {call := some ((slI k.data))})]) (ps := [_]) (by kernel_rfl) ⟨(hc), trivial⟩
def refusedD (k : Take) : Take := if k.state = 2 then k else ⟨[], 0, 3⟩
theorem refused_ok (k : Take) : Pu 32 [A (takeL k)] (A (takeL (refusedD k))) := by
  unfold refusedD
  by_cases h : k.state = 2
  · rw [if_pos h]
    exact pure_of (hs := hint [((1,2), {val := some (bl (true))})]) (ps := [bl (k.state == (2 : Int)) = bl (true)]) (by kernel_rfl) ⟨(beT (by assumption)), trivial⟩
  · rw [if_neg h]
    exact pure_of (hs := hint [((1,2), {val := some (bl (false))})]) (ps := [bl (k.state == (2 : Int)) = bl (false)]) (by kernel_rfl) ⟨(beF (by assumption)), trivial⟩
/-! gives -/
structure Give where
  data : List Int
  most : Int
  at_ : Int
  live : Bool
def giveL (g : Give) : List AV := [slI g.data, i64 g.most, i64 g.at_, bl g.live]
def partsD (g : Give) : Int := if (g.data.length : Int) ≤ g.most then 0 else ((g.data.length : Int) + g.most - 1) / g.most
structure Gv (g : Give) : Prop where
  m0 : 1 ≤ g.most
  m1 : g.most ≤ 16382
  a0 : 0 ≤ g.at_
  a1 : g.at_ ≤ 1000000
  l : g.data.length ≤ 65536
theorem parts_ok (g : Give) (h : Gv g) : Pu 36 [A (giveL g)] (i64 (partsD g)) := by
  have m0 := h.m0
  have m1 := h.m1
  have l := h.l
  unfold partsD
  have hd : ¬ g.most = 0 := by omega
  have hq : ∀ x : Int, 0 ≤ x → x.tdiv g.most = x / g.most := fun x hx => Int.tdiv_eq_ediv_of_nonneg hx
  have hb : ∀ x : Int, 0 ≤ x → x ≤ 1000000 → 0 ≤ x / g.most ∧ x / g.most ≤ 1000000 := fun x h1 h2 => ⟨Int.ediv_nonneg h1 (by omega), Int.le_trans (Int.ediv_le_self _ h1) h2⟩
  by_cases hc : (g.data.length : Int) ≤ g.most
  · rw [if_pos hc]
    exact pure_of (hs := hint [((1,5), {val := some (bl (true))})]) (ps := [bl (decide ((↑g.data.length : Int) ≤ g.most)) = bl (true)]) (by kernel_rfl) ⟨(bdT (by assumption)), trivial⟩
  · rw [if_neg hc]
    have hb1 := hb ((g.data.length : Int) + g.most - 1) (by omega) (by omega)
    exact pure_of (hs := hint [((1,5), {val := some (bl (false))}), ((3,5), {val := some (i64 ((↑g.data.length : Int) + g.most))}), ((3,6), {val := some (i64 ((↑g.data.length : Int) + g.most - (1 : Int)))}), ((3,9), { sym := true, val := some (i64 (((g.data.length : Int) + g.most - 1) / g.most)) })]) (ps := [bl (decide ((↑g.data.length : Int) ≤ g.most)) = bl (false), i64 (IntKind.i64.wrap ((↑g.data.length : Int) + g.most)) = i64 ((↑g.data.length : Int) + g.most), i64 (IntKind.i64.wrap ((↑g.data.length : Int) + g.most - (1 : Int))) = i64 ((↑g.data.length : Int) + g.most - (1 : Int)), decide (g.most ≠ (0 : Int)) = true, i64 (IntKind.i64.wrap (((↑g.data.length : Int) + g.most - (1 : Int)).tdiv g.most)) = i64 (((↑g.data.length : Int) + g.most - (1 : Int)) / g.most)]) (by kernel_rfl) ⟨(bdF (by assumption)), (intE (by exact wrap_i64 (by omega) (by omega))), (intE (by exact wrap_i64 (by omega) (by omega))), (by (first | exact decide_t (by omega) | exact intE (by rw [hq _ (by omega)]; exact wrap_i64 (by omega) (by omega)))), (by (first | exact decide_t (by omega) | exact intE (by rw [hq _ (by omega)]; exact wrap_i64 (by omega) (by omega)))), trivial⟩
theorem parts_range (g : Give) (h : Gv g) : 0 ≤ partsD g ∧ partsD g ≤ 65537 := by
  have m0 := h.m0
  have l := h.l
  have m1 := h.m1
  unfold partsD
  split
  · omega
  · refine ⟨Int.ediv_nonneg (by omega) (by omega), ?_⟩
    have : ((g.data.length : Int) + g.most - 1) / g.most ≤ g.data.length := by
      apply Int.ediv_le_of_le_mul (by omega)
      have : (g.data.length : Int) * 1 ≤ g.data.length * g.most := Int.mul_le_mul_of_nonneg_left m0 (by omega)
      have h2 : (1 : Int) ≤ g.data.length := by omega
      have h3 : ((g.data.length : Int) - 1) * 1 ≤ (g.data.length - 1) * g.most := Int.mul_le_mul_of_nonneg_left m0 (by omega)
      have h4 : ((g.data.length : Int) - 1) * g.most = g.data.length * g.most - g.most := by rw [Int.sub_mul, Int.one_mul]
      omega
    omega
def doneD (g : Give) : Bool := if g.live = true then (if partsD g > 0 then decide (g.at_ > partsD g + 1) else decide (g.at_ > 0)) else true
theorem done_ok (g : Give) (h : Gv g) : Pu 11 [A (giveL g)] (bl (doneD g)) := by
  have hp := parts_ok g h
  have hr := parts_range g h
  have a1 := h.a1
  unfold doneD
  generalize partsD g = n at hp hr ⊢
  by_cases hl : g.live = true
  · rw [if_pos hl]
    by_cases hn : n > 0
    · rw [if_pos hn]
      exact pure_of (hs := hint [((1,2), {val := some (bl (false))}), ((3,1), {call := some ((i64 n))}), ((4,1), {val := some (bl (true))}), ((5,3), {val := some (i64 (n + (1 : Int)))})]) (ps := [bl (!g.live) = bl (false), _, bl (decide (n > (0 : Int))) = bl (true), i64 (IntKind.i64.wrap (n + (1 : Int))) = i64 (n + (1 : Int))]) (by kernel_rfl) ⟨(bnT (bvT (by assumption))), (hp), (bdT (by assumption)), (intE (by exact wrap_i64 (by omega) (by omega))), trivial⟩
    · rw [if_neg hn]
      exact pure_of (hs := hint [((1,2), {val := some (bl (false))}), ((3,1), {call := some ((i64 n))}), ((4,1), {val := some (bl (false))})]) (ps := [bl (!g.live) = bl (false), _, bl (decide (n > (0 : Int))) = bl (false)]) (by kernel_rfl) ⟨(bnT (bvT (by assumption))), (hp), (bdF (by assumption)), trivial⟩
  · rw [if_neg hl]
    exact pure_of (hs := hint [((1,2), {val := some (bl (true))})]) (ps := [bl (!g.live) = bl (true)]) (by kernel_rfl) ⟨(bnF (bvF (by assumption))), trivial⟩
def goneD (g : Give) : Give := if doneD g = true then g else ⟨g.data, g.most, g.at_ + 1, g.live⟩
theorem gone_ok (g : Give) (h : Gv g) : Pu 35 [A (giveL g)] (A (giveL (goneD g))) := by
  have hd := done_ok g h
  have a0 := h.a0
  have a1 := h.a1
  unfold goneD
  by_cases hq : doneD g = true
  · rw [if_pos hq]
    exact pure_of (hs := hint [((1,1), {call := some ((bl (doneD g)))}), ((1,2), {val := some (bl (false))})]) (ps := [_, bl (!doneD g) = bl (false)]) (by kernel_rfl) ⟨(hd), (bnT (bvT (by assumption))), trivial⟩
  · rw [if_neg hq]
    exact pure_of (hs := hint [((1,1), {call := some ((bl (doneD g)))}), ((1,2), {val := some (bl (true))}), ((2,2), {val := some (i64 (g.at_ + (1 : Int)))})]) (ps := [_, bl (!doneD g) = bl (true), i64 (IntKind.i64.wrap (g.at_ + (1 : Int))) = i64 (g.at_ + (1 : Int))]) (by kernel_rfl) ⟨(hd), (bnF (bvF (by assumption))), (intE (by exact wrap_i64 (by omega) (by omega))), trivial⟩
def partAt (d : List Int) (most i : Nat) : List Int := (d.drop (i * most)).take most
def putD (g : Give) : Piece × Bool :=
  if doneD g = true then (p0, false) else if partsD g = 0 then (⟨false, g.data.length, g.data, true⟩, true) else if g.at_ = 0 then (⟨true, g.data.length, [], false⟩, true)
  else if g.at_ ≤ partsD g then (⟨true, 0, partAt g.data g.most.toNat (g.at_ - 1).toNat, false⟩, true) else (⟨true, 0, [], true⟩, true)
def putR (r : Piece × Bool) : AV := .tup [A (pieceL r.1), bl r.2]
theorem put_part (g : Give) (h : Gv g) (n : Int) (hd : Pu 11 [A (giveL g)] (bl false)) (hp : Pu 36 [A (giveL g)] (i64 n)) (hn : ¬ n = 0) (ha : ¬ g.at_ = 0) (hb : g.at_ ≤ n) (hf : (g.at_ - 1) * g.most < g.data.length) (hf0 : 0 ≤ (g.at_ - 1) * g.most) : Pu 22 [A (giveL g)] (putR (⟨true, 0, partAt g.data g.most.toNat (g.at_ - 1).toNat, false⟩, true)) := by
  have m0 := h.m0
  have m1 := h.m1
  have a0 := h.a0
  have a1 := h.a1
  have l := h.l
  have e : ((g.at_ - 1) * g.most).toNat = (g.at_ - 1).toNat * g.most.toNat := Int.toNat_mul (by omega) (by omega)
  have e2 : ((g.at_ - 1).toNat * g.most.toNat : Nat) = ((g.at_ - 1) * g.most).toNat := e.symm
  have hlen : (partAt g.data g.most.toNat (g.at_ - 1).toNat).length ≤ 65536 := by unfold partAt; rw [List.length_take, List.length_drop]; omega
  have hc := copied_ok (partAt g.data g.most.toNat (g.at_ - 1).toNat) (by omega)
  obtain ⟨F, hF⟩ : ∃ F : Int, F = (g.at_ - 1) * g.most := ⟨_, rfl⟩
  have hcut : ∀ b : Int, b = min (F + g.most) g.data.length → AV.sl (b - F).toNat (pieceA 1 F b (g.data.flatMap eI)) = slI (partAt g.data g.most.toNat (g.at_ - 1).toNat) := fun b hb => by
    rw [sl_cut g.data F b (by omega) (by omega) (by omega)]
    congr 1
    unfold partAt
    rw [← e, ← hF]
    by_cases hx : F + g.most ≤ g.data.length
    · rw [show (b - F).toNat = g.most.toNat by omega]
    · rw [List.take_of_length_le (i := (b - F).toNat) (by rw [List.length_drop]; omega), List.take_of_length_le (by rw [List.length_drop]; omega)]
  by_cases hm : (g.data.length : Int) < F + g.most
  · exact pure_of (hs := hint [((1,1), {call := some ((i64 n))}), ((2,1), {call := some ((bl false))}), ((4,2), {val := some (bl (false))}), ((6,3), {val := some (bl (false))}), ((8,4), {val := some (bl (true))}), ((9,2), {val := some (i64 (g.at_ - (1 : Int)))}), ((9,5), { val := some (i64 F) }), ((10,6), {val := some (i64 (F + g.most))}), ((10,10), { val := some (i64 g.data.length) }), ((10,11), { sym := true, val := some (slI (partAt g.data g.most.toNat (g.at_ - 1).toNat)) }), ((10,12), {call := some ((slI (partAt g.data g.most.toNat (g.at_ - (1 : Int)).toNat)))})]) (ps := [_, _, bl (n == (0 : Int)) = bl (false), bl (g.at_ == (0 : Int)) = bl (false), bl (decide (g.at_ ≤ n)) = bl (true), i64 (IntKind.i64.wrap (g.at_ - (1 : Int))) = i64 (g.at_ - (1 : Int)), i64 (IntKind.i64.wrap ((g.at_ - (1 : Int)) * g.most)) = i64 (F), i64 (IntKind.i64.wrap (F + g.most)) = i64 (F + g.most), i64 (if (↑g.data.length : Int) < F + g.most then (↑g.data.length : Int) else F + g.most) = i64 ((↑g.data.length : Int)), (decide ((0 : Int) ≤ F ∧ F ≤ (↑g.data.length : Int) ∧ (↑g.data.length : Int) ≤ (↑g.data.length : Int) ∧ (↑g.data.length : Int) ≤ (↑g.data.length : Int)) && true) = true, AV.sl (((↑g.data.length : Int) - F).toNat) (List.take (((↑g.data.length : Int) - F).toNat * (1 : Nat)) (List.drop (F.toNat * (1 : Nat)) (List.flatMap eI g.data))) = AV.sl ((partAt g.data g.most.toNat (g.at_ - (1 : Int)).toNat).length) (List.flatMap eI (partAt g.data g.most.toNat (g.at_ - (1 : Int)).toNat)), _]) (by kernel_rfl) ⟨(hp), (hd), (beF (by assumption)), (beF (by assumption)), (bdT (by assumption)), (intE (by exact wrap_i64 (by omega) (by omega))), (by exact intE (by rw [hF]; exact wrap_i64 (by omega) (by omega))), (intE (by exact wrap_i64 (by omega) (by omega))), (by (simp only [if_pos hm]; done)), (by (first | exact hcut _ (by omega) | (simp [slIn]; omega))), (by (first | exact hcut _ (by omega) | (simp [slIn]; omega))), (hc), trivial⟩
  · exact pure_of (hs := hint [((1,1), {call := some ((i64 n))}), ((2,1), {call := some ((bl false))}), ((4,2), {val := some (bl (false))}), ((6,3), {val := some (bl (false))}), ((8,4), {val := some (bl (true))}), ((9,2), {val := some (i64 (g.at_ - (1 : Int)))}), ((9,5), { val := some (i64 F) }), ((10,6), {val := some (i64 (F + g.most))}), ((10,10), { val := some (i64 (F + g.most)) }), ((10,11), { sym := true, val := some (slI (partAt g.data g.most.toNat (g.at_ - 1).toNat)) }), ((10,12), {call := some ((slI (partAt g.data g.most.toNat (g.at_ - (1 : Int)).toNat)))})]) (ps := [_, _, bl (n == (0 : Int)) = bl (false), bl (g.at_ == (0 : Int)) = bl (false), bl (decide (g.at_ ≤ n)) = bl (true), i64 (IntKind.i64.wrap (g.at_ - (1 : Int))) = i64 (g.at_ - (1 : Int)), i64 (IntKind.i64.wrap ((g.at_ - (1 : Int)) * g.most)) = i64 (F), i64 (IntKind.i64.wrap (F + g.most)) = i64 (F + g.most), i64 (if (↑g.data.length : Int) < F + g.most then (↑g.data.length : Int) else F + g.most) = i64 (F + g.most), (decide ((0 : Int) ≤ F ∧ F ≤ F + g.most ∧ F + g.most ≤ (↑g.data.length : Int) ∧ (↑g.data.length : Int) ≤ (↑g.data.length : Int)) && true) = true, AV.sl ((F + g.most - F).toNat) (List.take ((F + g.most - F).toNat * (1 : Nat)) (List.drop (F.toNat * (1 : Nat)) (List.flatMap eI g.data))) = AV.sl ((partAt g.data g.most.toNat (g.at_ - (1 : Int)).toNat).length) (List.flatMap eI (partAt g.data g.most.toNat (g.at_ - (1 : Int)).toNat)), _]) (by kernel_rfl) ⟨(hp), (hd), (beF (by assumption)), (beF (by assumption)), (bdT (by assumption)), (intE (by exact wrap_i64 (by omega) (by omega))), (by exact intE (by rw [hF]; exact wrap_i64 (by omega) (by omega))), (intE (by exact wrap_i64 (by omega) (by omega))), (by (simp only [if_neg hm]; done)), (by (first | exact hcut _ (by omega) | (simp [slIn]; omega))), (by (first | exact hcut _ (by omega) | (simp [slIn]; omega))), (hc), trivial⟩
theorem put_ok (g : Give) (h : Gv g) : Pu 22 [A (giveL g)] (putR (putD g)) := by
  have hd := done_ok g h
  have hp := parts_ok g h
  have hr := parts_range g h
  have m0 := h.m0
  have l := h.l
  have a0 := h.a0
  have hc := copied_ok g.data (by omega)
  unfold putD
  by_cases hq : doneD g = true
  · rw [if_pos hq]; rw [hq] at hd
    exact pure_of (hs := hint [((1,1), {call := some ((i64 (partsD g)))}), ((2,1), {call := some ((bl true))})]) (ps := [_, _]) (by kernel_rfl) ⟨(hp), (hd), trivial⟩
  · rw [if_neg hq]
    rw [Bool.not_eq_true] at hq
    rw [hq] at hd
    by_cases h0 : partsD g = 0
    · rw [if_pos h0]; rw [h0] at hp
      exact pure_of (hs := hint [((1,1), {call := some ((i64 (0 : Int)))}), ((2,1), {call := some ((bl false))}), ((5,5), {call := some ((slI g.data))})]) (ps := [_, _, _]) (by kernel_rfl) ⟨(hp), (hd), (hc), trivial⟩
    · rw [if_neg h0]
      by_cases ha : g.at_ = 0
      · rw [if_pos ha]
        generalize partsD g = n at hp hr h0
        exact pure_of (hs := hint [((1,1), {call := some ((i64 n))}), ((2,1), {call := some ((bl false))}), ((4,2), {val := some (bl (false))}), ((6,3), {val := some (bl (true))})]) (ps := [_, _, bl (n == (0 : Int)) = bl (false), bl (g.at_ == (0 : Int)) = bl (true)]) (by kernel_rfl) ⟨(hp), (hd), (beF (by assumption)), (beT (by assumption)), trivial⟩
      · rw [if_neg ha]
        by_cases hb : g.at_ ≤ partsD g
        · rw [if_pos hb]
          refine put_part g h _ hd hp h0 ha hb ?_ (Int.mul_nonneg (by omega) (by omega))
          unfold partsD at hb h0
          split at hb
          · rename_i hx; exact absurd (if_pos hx) h0
          · have h1 : g.at_ * g.most ≤ (((g.data.length : Int) + g.most - 1) / g.most) * g.most := Int.mul_le_mul_of_nonneg_right hb (by omega)
            have h2 := Int.ediv_mul_le ((g.data.length : Int) + g.most - 1) (b := g.most) (by omega)
            have h3 : (g.at_ - 1) * g.most = g.at_ * g.most - g.most := by rw [Int.sub_mul, Int.one_mul]
            omega
        · rw [if_neg hb]
          generalize partsD g = n at hp hr h0 hb
          exact pure_of (hs := hint [((1,1), {call := some ((i64 n))}), ((2,1), {call := some ((bl false))}), ((4,2), {val := some (bl (false))}), ((6,3), {val := some (bl (false))}), ((8,4), {val := some (bl (false))})]) (ps := [_, _, bl (n == (0 : Int)) = bl (false), bl (g.at_ == (0 : Int)) = bl (false), bl (decide (g.at_ ≤ n)) = bl (false)]) (by kernel_rfl) ⟨(hp), (hd), (beF (by assumption)), (beF (by assumption)), (bdF (by assumption)), trivial⟩
theorem new_size (d : List Int) (n : Int) (h : n < 1 ∨ n > 16382) : Pu 21 [slI d, i64 n] (.tup [A (giveL ⟨[], 0, 0, false⟩), i64 17]) := by
  by_cases h1 : n < (1 : Int)
  · exact pure_of (hs := hint [((1,2), {val := some (bl (true))})]) (ps := [bl (decide (n < (1 : Int))) = bl (true)]) (by kernel_rfl) ⟨(bdT h1), trivial⟩
  · exact pure_of (hs := hint [((1,2), {val := some (bl (false))}), ((1,6), {val := some (bl (true))})]) (ps := [bl (decide (n < (1 : Int))) = bl (false), bl (decide (n > (16382 : Int))) = bl (true)]) (by kernel_rfl) ⟨(bdF h1), (bdT (by omega)), trivial⟩
theorem new_long (d : List Int) (n : Int) (h : ¬ (n < 1 ∨ n > 16382)) (hd : (d.length : Int) > 65536) : Pu 21 [slI d, i64 n] (.tup [A (giveL ⟨[], 0, 0, false⟩), i64 4]) := by
  exact pure_of (hs := hint [((1,2), {val := some (bl (false))}), ((1,6), {val := some (bl (false))}), ((3,3), {val := some (bl (true))})]) (ps := [bl (decide (n < (1 : Int))) = bl (false), bl (decide (n > (16382 : Int))) = bl (false), bl (decide ((↑d.length : Int) > (65536 : Int))) = bl (true)]) (by kernel_rfl) ⟨(bdF (by omega)), (bdF (by omega)), (bdT (by assumption)), trivial⟩
theorem new_range (d : List Int) (n : Int) (h : ¬ (n < 1 ∨ n > 16382)) (hd : ¬ (d.length : Int) > 65536) (hn : ¬ numsD d = true) : Pu 21 [slI d, i64 n] (.tup [A (giveL ⟨[], 0, 0, false⟩), i64 1]) := by
  have h1 := numbers_ok d (by omega)
  exact pure_of (hs := hint [((1,2), {val := some (bl (false))}), ((1,6), {val := some (bl (false))}), ((3,3), {val := some (bl (false))}), ((5,1), {call := some ((bl (numsD d)))}), ((5,3), {val := some (bl (true))})]) (ps := [bl (decide (n < (1 : Int))) = bl (false), bl (decide (n > (16382 : Int))) = bl (false), bl (decide ((↑d.length : Int) > (65536 : Int))) = bl (false), _, bl (!numsD d) = bl (true)]) (by kernel_rfl) ⟨(bdF (by omega)), (bdF (by omega)), (bdF (by assumption)), (h1), (bnF (bvF (by assumption))), trivial⟩
theorem new_good (d : List Int) (n : Int) (h : ¬ (n < 1 ∨ n > 16382)) (hd : ¬ (d.length : Int) > 65536) (hn : numsD d = true) : Pu 21 [slI d, i64 n] (.tup [A (giveL ⟨d, n, 0, true⟩), i64 0]) := by
  have h1 := numbers_ok d (by omega)
  have h2 := copied_ok d (by omega)
  exact pure_of (hs := hint [((1,2), {val := some (bl (false))}), ((1,6), {val := some (bl (false))}), ((3,3), {val := some (bl (false))}), ((5,1), {call := some ((bl (numsD d)))}), ((5,3), {val := some (bl (false))}), ((7,1), {call := some ((slI d))})]) (ps := [bl (decide (n < (1 : Int))) = bl (false), bl (decide (n > (16382 : Int))) = bl (false), bl (decide ((↑d.length : Int) > (65536 : Int))) = bl (false), _, bl (!numsD d) = bl (false), _]) (by kernel_rfl) ⟨(bdF (by omega)), (bdF (by omega)), (bdF (by assumption)), (h1), (bnT (bvT (by assumption))), (h2), trivial⟩
end Go.Proofs.Ytdcoomeagbjhlaa
