/- Any rectangles made one list. By the prover of this seat. -/
import Derived.Test.YtcnlgdbmcdlknaaOh
set_option linter.unusedVariables false
set_option linter.unusedSimpArgs false
set_option maxRecDepth 100000
set_option maxHeartbeats 400000
namespace Go.Proofs.Ytcnlgdbmcdlknaa.Bn
open Go Go.RowKit Go.Pm
theorem take4 (l : List Rc) (k : Nat) (h : k ≤ l.length) : (l.flatMap eR).take (k * 4) = (l.take k).flatMap eR := by
  conv => lhs; rw [← List.take_append_drop k l, List.flatMap_append]
  exact List.take_left' (by rw [row_len (sz := 4) (fun _ => rfl), List.length_take]; congr 1; omega)
theorem round_ok (L : List Rc) (ys : List Int) (i ab nx : Nat) (row : List Rc) (B : List Bd) (hi : i + 1 < ys.length) (hl : ys.length ≤ 1000000) (hL : L.length ≤ 200000) (hpos : ∀ r ∈ L, RcIn 200 r) (hY : YS L) (hp : ys.Pairwise (· < ·)) (hys : ∀ y, y ∈ ys ↔ ∃ r ∈ L, y = r.y ∨ y = r.y + r.h)
    (h : OI L (nth ys i) row nx B ab) : ∃ B' ab' nx' row', OI L (nth ys (i + 1)) row' nx' B' ab' ∧ Tri C0 mnB (mnS L ys i ab nx (toR B) (toR B).length (toR B).length row row.length) .normal (mnS L ys (i + 1) ab' nx' (toR B') (toR B').length (toR B').length row' row'.length) := by
  obtain ⟨x1, x2, x3, x4, x5, x6⟩ := row3_ok h hpos hY
  have hZ := ys_next hp i hi
  have rng : ∀ j, j < ys.length → -200 ≤ nth ys j ∧ nth ys j ≤ 200 := fun j hj => by
    obtain ⟨r, hr, e⟩ := (hys _).1 (nth_mem hj)
    obtain ⟨c1, c2, c3, c4, c5, c6⟩ := hpos r hr
    omega
  have hYr := rng i (by omega)
  have hZr := rng (i + 1) hi
  have gap : ∀ r ∈ L, (r.y ≤ nth ys i ∨ nth ys (i + 1) ≤ r.y) ∧ (r.y + r.h ≤ nth ys i ∨ nth ys (i + 1) ≤ r.y + r.h) := fun r hr =>
    ⟨ys_gap hp i hi ((hys _).2 ⟨r, hr, .inl rfl⟩), ys_gap hp i hi ((hys _).2 ⟨r, hr, .inr rfl⟩)⟩
  obtain ⟨B', ab', hst, hO⟩ := step_ok h hZ (fun r hr => ⟨(hpos r hr).2.1, (hpos r hr).2.2.2.2.1⟩) gap x1 x2 x3 x4 x5 x6
  refine ⟨B', ab', _, _, hO, ?_⟩
  obtain ⟨osm, olen⟩ := h.sm hpos
  have hab := h.ab_le
  have hrow : ∀ r ∈ row, Sm r := fun r hr => (hpos r ((h.rows r).1 hr).1).sm
  have hrow3 : ∀ r ∈ row3D L (nth ys i) row nx, RcIn 200 r := fun r hr => hpos r ((x2 r).1 hr).1
  have hfew := h.few
  have hnx := h.nx
  obtain ⟨o, ho⟩ : ∃ o, o = toR B := ⟨_, rfl⟩
  obtain ⟨Y, eY⟩ : ∃ Y, Y = nth ys i := ⟨_, rfl⟩
  obtain ⟨Z, eZ⟩ : ∃ Z, Z = nth ys (i + 1) := ⟨_, rfl⟩
  have hlin := cm_loop L ys i ab nx o o.length Y Z (by omega) _ nx (row.filter (stayB Y)) rfl hnx (by have := List.length_filter_le (stayB Y) row; omega)
  have hD := del_ok row Y (by omega) hrow
  have hperm := row3_perm L Y row nx
  obtain ⟨row3, e3⟩ : ∃ row3, row3 = row3D L Y row nx := ⟨_, rfl⟩
  obtain ⟨nx2, en⟩ : ∃ nx2, nx2 = nx + cmN Y (L.drop nx) := ⟨_, rfl⟩
  obtain ⟨sps, es⟩ : ∃ sps, sps = (spD row3).map (rcS Y Z) := ⟨_, rfl⟩
  rw [← eY, ← eZ] at hst
  rw [← eY] at x1 x2 x3 x4 x5 x6 hrow3 hYr hZ ⊢
  rw [← eZ] at hZr hZ
  rw [← ho] at osm olen hab hst ⊢
  rw [← e3] at hst hperm hrow3 x1 x3 ⊢
  rw [← en] at x3 x4 hlin ⊢
  change LoopT C0 cmB _ (.exit 4) (cmS L ys i ab nx o o.length Y Z (row2D L Y row nx) (row2D L Y row nx).length nx2) at hlin
  rw [← hperm.length_eq] at hlin
  have hslen := spD_len row3
  have hs3 : ∀ r ∈ row3, Sm r := fun r hr => (hrow3 r hr).sm
  have hsps : sps.length ≤ row3.length := by rw [es, List.length_map]; exact hslen
  obtain ⟨o', eo⟩ : ∃ o', o' = o ++ sps := ⟨_, rfl⟩
  have hlen' : o'.length = o.length + sps.length := by rw [eo, List.length_append]
  have hR := rg_ok L ys i ab nx2 o.length o o' o.length o'.length Y Z row3 rfl (by omega) hs3 (by omega) (by omega) (by omega) (by omega) (by rw [eo, es]) rfl
  have hsm' : ∀ r ∈ o', Sm r := fun r hr => by
    rw [eo] at hr
    rcases List.mem_append.1 hr with hr | hr
    · exact (osm r hr).sm
    · rw [es] at hr
      obtain ⟨p, hp, rfl⟩ := List.mem_map.1 hr
      have := sp_in hrow3 x1 hp
      unfold Sm rcS
      simp only
      omega
  have hA := alike_ok (o'.length * 4) o' ab (o.length - ab) o.length (o'.length - o.length) (by omega) (by omega) (by omega) hsm'
  have d1 : (o'.drop ab).take (o.length - ab) = o.drop ab := by
    rw [eo, List.drop_append_of_le_length hab, List.take_append_of_le_length (by rw [List.length_drop]; omega), List.take_of_length_le (by rw [List.length_drop]; omega)]
  have d2 : (o'.drop o.length).take (o'.length - o.length) = sps := by
    rw [eo, List.drop_left, List.take_of_length_le (by rw [List.length_append]; omega)]
  rw [d1, d2] at hA
  have hA' : CallH Try.prog G0 27 [.osl 0 (0 + (ab : Int).toNat * 4) ((o.length : Int) - (ab : Int)).toNat 4, .osl 0 (0 + (o.length : Int).toNat * 4) ((o'.length : Int) - (o.length : Int)).toNat 4] (efH (o'.length * 4) o') (bl (alikeD (o.drop ab) sps)) (efH (o'.length * 4) o') := by
    rw [Int.toNat_natCast, Int.toNat_natCast, Nat.zero_add, Nat.zero_add, show ((o.length : Int) - (ab : Int)).toNat = o.length - ab by omega, show ((o'.length : Int) - (o.length : Int)).toNat = o'.length - o.length by omega]
    exact hA
  have hLh := hg_loop L ys i ab nx2 o.length o' Y Z row3 row3.length hab (by omega) (by omega) hsm' (by omega) (by omega) (by omega) (by omega)
  unfold stepD at hst
  rw [← es] at hst
  rw [eY] at hD hlin hR hLh
  rw [eZ] at hlin hR hLh
  cases hal : alikeD (o.drop ab) sps with
  | true =>
    rw [hal] at hA' hst
    rw [if_pos rfl] at hst
    obtain ⟨f1, f2⟩ := Prod.mk.inj hst
    have fin : Tri C0 mnB (mnS L ys i ab nx o o.length o.length row row.length) .normal (mnS L ys (i + 1) ab nx2 (partD (ext (nth ys (i + 1) - nth ys i)) o' ab o.length) o.length o'.length row3 row3.length) := by
      by_cases hc : 0 < cmN Y (L.drop nx)
      · have hS := sortX_ok (row2D L Y row nx) (by rw [← hperm.length_eq]; omega)
        have h3 : srtD cfX (row2D L Y row nx) = row3 := by rw [e3]; unfold row3D; rw [if_pos hc]
        rw [h3, ← hperm.length_eq, eY] at hS
        exact mn_cs L ys i ab nx nx2 o.length o o' _ o'.length row _ _ row3 row.length _ hi hl hab (by omega) (by omega) hD hlin (by omega) hS hR hA' hLh
      · have h3 : row2D L Y row nx = row3 := by rw [e3]; unfold row3D; rw [if_neg hc]
        rw [← eY, h3] at hlin
        rw [eY] at hlin
        exact mn_ns L ys i ab nx nx2 o.length o o' _ o'.length row _ row3 row.length _ hi hl hab (by omega) (by omega) hD hlin (by omega) hR hA' hLh
    have ht := Tri.trim (i := 2) (L := o'.length * 4) fin (o.length * 4) rfl (Nat.zero_le _) (by omega) (take4 _ o.length (by rw [part_len]; omega)) rfl
    have hend : (partD (ext (nth ys (i + 1) - nth ys i)) o' ab o.length).take o.length = toR B' := by
      rw [eo, part_end _ o sps ab hab, ← eY, ← eZ]; exact f1
    rw [hend] at ht
    have hBl : (toR B').length = o.length := by
      rw [← hend, List.length_take, part_len]; omega
    rw [← f2, hBl]
    exact ht
  | false =>
    rw [hal] at hA' hst
    rw [if_neg (by simp)] at hst
    obtain ⟨f1, f2⟩ := Prod.mk.inj hst
    rw [← f1, ← f2, ← eo]
    by_cases hc : 0 < cmN Y (L.drop nx)
    · have hS := sortX_ok (row2D L Y row nx) (by rw [← hperm.length_eq]; omega)
      have h3 : srtD cfX (row2D L Y row nx) = row3 := by rw [e3]; unfold row3D; rw [if_pos hc]
      rw [h3, ← hperm.length_eq, eY] at hS
      exact mn_cn L ys i ab nx nx2 o.length o o' o'.length row _ _ row3 row.length _ hi hl hab (by omega) (by omega) hD hlin (by omega) hS hR hA'
    · have h3 : row2D L Y row nx = row3 := by rw [e3]; unfold row3D; rw [if_neg hc]
      rw [← eY, h3] at hlin
      rw [eY] at hlin
      exact mn_nn L ys i ab nx nx2 o.length o o' o'.length row _ row3 row.length _ hi hl hab (by omega) (by omega) hD hlin (by omega) hR hA'
end Go.Proofs.Ytcnlgdbmcdlknaa.Bn
