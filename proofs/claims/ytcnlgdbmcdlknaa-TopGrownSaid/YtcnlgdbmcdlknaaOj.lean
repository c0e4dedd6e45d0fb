/- Any rectangles made one list: the function. By the prover of this seat. -/
import Derived.Test.YtcnlgdbmcdlknaaOi
set_option linter.unusedVariables false
set_option linter.unusedSimpArgs false
set_option maxRecDepth 100000
set_option maxHeartbeats 400000
namespace Go.Proofs.Ytcnlgdbmcdlknaa.Bn
open Go Go.RowKit Go.Pm
theorem main_ok (L : List Rc) (ys : List Int) (hl : ys.length ≤ 1000000) (hL : L.length ≤ 200000) (hpos : ∀ r ∈ L, RcIn 200 r) (hY : YS L) (hp : ys.Pairwise (· < ·)) (hys : ∀ y, y ∈ ys ↔ ∃ r ∈ L, y = r.y ∨ y = r.y + r.h) : ∀ (d i ab nx : Nat) (row : List Rc) (B : List Bd), i + d + 1 = ys.length → OI L (nth ys i) row nx B ab →
    ∃ i' ab' nx' row' B', LoopT C0 mnB (mnS L ys i ab nx (toR B) (toR B).length (toR B).length row row.length) (.exit 2) (mnS L ys i' ab' nx' (canon (inR L)) (canon (inR L)).length (canon (inR L)).length row' row'.length) ∧ Bds B' ∧ ∀ x y, inB B' x y ↔ inR L x y := by
  intro d
  induction d with
  | zero =>
    intro i ab nx row B hi h
    obtain ⟨h1, h2⟩ := h.done (fun r hr => ys_last hp i (by omega) ((hys _).2 ⟨r, hr, .inr rfl⟩))
    rw [h1]
    exact ⟨_, _, _, _, B, mn_end L ys i ab nx _ _ row row.length (by omega) hl (by omega), h.bds, h2⟩
  | succ d ih =>
    intro i ab nx row B hi h
    obtain ⟨B', ab', nx', row', h1, h2⟩ := round_ok L ys i ab nx row B (by omega) hl hL hpos hY hp hys h
    obtain ⟨i', ab2, nx2, row2, B2, h3, h4⟩ := ih (i + 1) ab' nx' row' B' (by omega) h1
    exact ⟨i', ab2, nx2, row2, B2, LoopT.next h2 h3, h4⟩
theorem of_ok (l : List Rc) (hlen : l.length ≤ 200000) (hs : ∀ r ∈ l, Sm r) (hc : ∀ r ∈ l, cntR r = true → RcIn 200 r) : PT 5 [slR l] (rgA (canon (inR (l.filter cntR)))) ∧ Reg 200 (inR (l.filter cntR)) := by
  obtain ⟨ks, ek⟩ : ∃ ks, ks = l.filter cntR := ⟨_, rfl⟩
  rw [← ek]
  have hkl : ks.length ≤ l.length := by rw [ek]; exact List.length_filter_le _ _
  have hk : ∀ r ∈ ks, RcIn 200 r := fun r hr => by
    rw [ek, List.mem_filter] at hr
    exact hc r hr.1 hr.2
  have hg := LoopT.gather (C := C0) (c := ofB) (e := .exit 0) (ofS l) (oneF cntR) l (one_le _) (fun k m ks hk hm hm2 => by
    obtain ⟨s0, s1, s2, s3, s4, s5, s6, s7⟩ := hs _ (nth_mem hk)
    have hcn : PT 17 [A (eR (nth l k))] (bl (cntR (nth l k))) := counts_ok (nth l k) (by omega) (by omega) (by omega) (by omega) (by omega) (by omega) (by omega) (by omega)
    unfold oneF
    cases hq : cntR (nth l k) with
    | true =>
      rw [hq] at hcn
      rw [if_pos rfl]
      exact of_keep l k m ks hk (by omega) hm hm2 hcn
    | false =>
      rw [hq] at hcn
      rw [if_neg (by simp), List.append_nil]
      exact of_skip l k m ks hk (by omega) hcn) (of_end l _ _)
  rw [one_flat, ← ek] at hg
  obtain ⟨L, eL⟩ : ∃ L, L = srtD cfY ks := ⟨_, rfl⟩
  have hperm := (srtY ks).1
  have hYS := (srtY ks).2
  rw [← eL] at hperm hYS
  have hLl := hperm.length_eq
  have hL : ∀ r ∈ L, RcIn 200 r := fun r hr => hk r (hperm.mem_iff.1 hr)
  have hS := sortY_ok ks (by omega)
  rw [← eL] at hS
  have hE := edges_ok L (by omega) (fun r hr => (hL r hr).sm)
  obtain ⟨u1, u2⟩ := sortU_ok (ysK L L.length)
  have ulen := sortU_len (ysK L L.length)
  rw [ysK_len L L.length (Nat.le_refl _)] at ulen
  obtain ⟨ys, ey⟩ : ∃ ys, ys = edgesD L := ⟨_, rfl⟩
  change (edgesD L).Pairwise _ at u1
  change ∀ x, x ∈ edgesD L ↔ _ at u2
  change (edgesD L).length ≤ _ at ulen
  rw [← ey] at hE u1 u2 ulen
  have hys : ∀ y, y ∈ ys ↔ ∃ r ∈ L, y = r.y ∨ y = r.y + r.h := fun y => by
    rw [u2]
    unfold ysK
    rw [List.take_length, List.mem_flatMap]
    unfold yE
    simp
  have hin : inR ks = inR L := pl_ext fun x y => ⟨fun ⟨r, hr, h⟩ => ⟨r, hperm.mem_iff.2 hr, h⟩, fun ⟨r, hr, h⟩ => ⟨r, hperm.mem_iff.1 hr, h⟩⟩
  rw [hin]
  have hrng : ∀ x y, inR L x y → -200 ≤ x ∧ x < 200 ∧ -200 ≤ y ∧ y < 200 := fun x y ⟨r, hr, a1, a2, a3, a4⟩ => by
    obtain ⟨b1, b2, b3, b4, b5, b6⟩ := hL r hr
    omega
  have fin : ∃ i' ab' nx' row' B', LoopT C0 mnB (mnS L ys 0 0 0 [] 0 0 [] 0) (.exit 2) (mnS L ys i' ab' nx' (canon (inR L)) (canon (inR L)).length (canon (inR L)).length row' row'.length) ∧ Bds B' ∧ ∀ x y, inB B' x y ↔ inR L x y := by
    by_cases h0 : ys.length = 0
    · have hO : OI L 200 [] 0 [] 0 := OI.start fun r hr => by
        have := (hys r.y).2 ⟨r, hr, .inl rfl⟩
        rw [List.eq_nil_of_length_eq_zero h0] at this
        cases this
      obtain ⟨h1, h2⟩ := hO.done (fun r hr => by
        have := (hys r.y).2 ⟨r, hr, .inl rfl⟩
        rw [List.eq_nil_of_length_eq_zero h0] at this
        cases this)
      rw [← h1]
      exact ⟨0, 0, 0, [], [], mn_end L ys 0 0 0 [] 0 [] 0 (by omega) (by omega) (by omega), hO.bds, h2⟩
    · exact main_ok L ys (by omega) (by omega) hL hYS u1 hys (ys.length - 1) 0 0 0 [] [] (by omega) (OI.start fun r hr => ys_first u1 (by omega) ((hys _).2 ⟨r, hr, .inl rfl⟩))
  obtain ⟨i', ab', nx', row', B', hm, hb1, hb2⟩ := fin
  have hm2 := mn_start L ys hm
  have eV : AV.sl ks.length (((L.flatMap eR).drop 0).take (ks.length * 4)) = slR L := row_sl (sz := 4) (fun _ => rfl) L _ _ (by omega) (by omega)
  have h := of_0 l ks L ys i' ab' nx' (canon (inR L)) (canon (inR L)).length row' row'.length hg hS (by rw [eV]; exact hE) (by rw [eV]; exact hm2)
  rw [row_sl (sz := 4) (fun _ => rfl) _ _ _ rfl (Nat.le_refl _)] at h
  exact ⟨h, ⟨B', hb1, hb2⟩, hrng⟩
end Go.Proofs.Ytcnlgdbmcdlknaa.Bn
