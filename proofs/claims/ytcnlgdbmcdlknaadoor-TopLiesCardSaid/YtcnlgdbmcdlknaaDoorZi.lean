/- Feed, by the program. By the prover of this seat. -/
import Derived.Test.YtcnlgdbmcdlknaaDoorZg
set_option linter.unusedVariables false
set_option linter.unusedSimpArgs false
set_option maxRecDepth 100000
set_option maxHeartbeats 4000000
namespace Go.Proofs.YtcnlgdbmcdlknaaDoor.Fo
open Go.RowKit Go.Pm
def itmD (o : Int) (s : ByteArray) : It := ⟨(packD o s).1, fltD (packD o s).2, byteAt s 0⟩
def fdS (o : Int) (T : ByteArray) (X : List ByteArray) : Nat → List Bk
  | 0 => fdG o T
  | k + 1 => fdH o T (offs X (k + 1)) (k + 1) ((X.take (k + 1)).map (itmD o))
theorem fd_tri {o : Int} {X : List ByteArray} {v : Nat → Int} (h : Frms o X v) (ho : o = 0 ∨ o = 1) {c : Nat} (hc : c ≤ (catB X).size) (T : ByteArray) (hT : T = (catB X).extract 0 c) : (Tri C1 fdC ⟨fdT o T, fdG o T⟩ .normal ⟨fdT o T, fdS o T X (whole X c)⟩) ∨ (Tri C1 fdC ⟨fdT o T, fdG o T⟩ (.exit 0) ⟨fdT o T, fdS o T X (whole X c)⟩) := by
  have hR := rqs_of h ho hc
  rw [← hT] at hR
  have hTs : T.size = c := by rw [hT]; exact beg_size hc
  have hb := h.bd
  obtain ⟨w1, w2, w3⟩ := whole_le X c
  have hpr : whole X c ≤ reqn X c := by unfold reqn; split <;> omega
  have hgo : ∀ k, k < whole X c → ∃ t', TriR C4 (bodyOf fdC) ⟨fdU o T (offs X k) (nth X k).size, fdS o T X k⟩ .normal ⟨t', fdS o T X (k + 1)⟩ := by
    intro k hk
    have hkl : k < X.length := by omega
    have hI := item_ok (h.2 k hkl)
    have hs := seg_beg hc hk
    rw [← hT] at hs
    have hn := offs_succ hkl
    have hm := offs_mono (X := X) (i := k + 1) (j := whole X c) (by omega) w1
    have hz := h.size hkl
    have h20 := h.1
    refine ⟨fdT o T, ?_⟩
    cases k with
    | zero =>
      have := fd_goG o T (nth X 0) (offs X 0) (nth X 0).size (itmD o (nth X 0)) (by omega) (by omega) (by omega) hs hI
      show TriR C4 (bodyOf fdC) ⟨fdU o T _ _, fdG o T⟩ .normal ⟨_, fdH o T (offs X (0 + 1)) (0 + 1) ((X.take (0 + 1)).map (itmD o))⟩
      rw [take_nth hkl, hn]
      exact this
    | succ k =>
      have := fd_goH o T (nth X (k + 1)) (offs X (k + 1)) (nth X (k + 1)).size (itmD o (nth X (k + 1))) (offs X (k + 1)) (k + 1) ((X.take (k + 1)).map (itmD o)) (by rw [List.length_map, List.length_take]; omega) (by omega) (by omega) (by omega) (by omega) hs hI
      show TriR C4 (bodyOf fdC) ⟨fdU o T _ _, fdH o T (offs X (k + 1)) (k + 1) ((X.take (k + 1)).map (itmD o))⟩ .normal ⟨_, fdH o T (offs X (k + 1 + 1)) (k + 1 + 1) ((X.take (k + 1 + 1)).map (itmD o))⟩
      rw [take_nth hkl, hn, List.map_append]
      exact this
  have hA : ∀ k y, k ≤ whole X c → (rqX (offs X) (fun k => (nth X k).size) (reqn X c))[k]? = some y → TriR C4 (assignOf fdC) ⟨((fdT o T).set 29 y.1).set 30 y.2, fdS o T X k⟩ .normal ⟨fdU o T (offs X k) (nth X k).size, fdS o T X k⟩ := by
    intro k y hk hy
    obtain ⟨h1, rfl⟩ := rqX_at _ _ _ _ _ hy
    cases k with
    | zero => exact fd_assignG o T _ _
    | succ k => exact fd_assignH o T _ _ _ _ _
  by_cases q : whole X c < X.length ∧ offs X (whole X c) + 4 ≤ c
  · right
    have er : reqn X c = whole X c + 1 := by unfold reqn; rw [if_pos q]
    have hn := offs_succ q.1
    have hz := h.size q.1
    have hw := w3 q.1
    have stop : TriR C4 (bodyOf fdC) ⟨fdU o T (offs X (whole X c)) (nth X (whole X c)).size, fdS o T X (whole X c)⟩ (.exit 0) ⟨fdT o T, fdS o T X (whole X c)⟩ := by
      generalize hp : whole X c = p at hn hz hw w1 w2 w3 q ⊢
      cases p with
      | zero => exact fd_stopG o T _ _ (by omega) (by omega) (by omega) (by omega) (by omega)
      | succ p => exact fd_stopH o T _ _ _ _ _ (by omega) (by omega) (by omega) (by omega) (by omega)
    rw [fd_code]
    exact range_triG (rqX (offs X) (fun k => (nth X k).size) (reqn X c)) (reqs_iter T o _ _ _ hR) reqs_enter rfl rfl (fdS o T X) rfl (fun k => fdU o T (offs X k) (nth X k).size) (whole X c) (by rw [rqX_len]; omega) hA hgo (.exit 0) _ (.inr ⟨by rw [rqX_len]; omega, 0, _, rfl, stop⟩)
  · left
    have er : reqn X c = whole X c := by unfold reqn; rw [if_neg q]
    rw [fd_code]
    exact range_triG (rqX (offs X) (fun k => (nth X k).size) (reqn X c)) (reqs_iter T o _ _ _ hR) reqs_enter rfl rfl (fdS o T X) rfl (fun k => fdU o T (offs X k) (nth X k).size) (whole X c) (by rw [rqX_len]; omega) hA hgo .normal _ (.inl ⟨by rw [rqX_len]; omega, rfl, rfl⟩)
theorem feed_none (o : Int) (r x : ByteArray) (hs : r.size + x.size ≤ 1000000) (hB : Pu 32 [smA false false o (r ++ x)] (smA false false o (r ++ x))) : Pure Tryd.prog G1 15 [smA false false o r, st x] (.tup [smA false false o (r ++ x), .nsl]) [.arr 4 [bl false, bl false, i64 o, st (r ++ x)] 0, .arr 4 [bl false, bl false, i64 o, st (r ++ x)] 0] := by
  exact callH_cast (fnRun_ok (hs := hint [((3,3), {sym := true}), ((4,1), {call := some ((smA false false o (r ++ x)))})]) (r := AV.tup [A [bl (false), bl (false), i64 (o), st (r ++ x)], AV.nsl]) (H' := [Bk.arr (4 : Nat) [AV.s (Value.bool false), AV.s (Value.bool false), AV.s (Value.int IntKind.i64 o), AV.s (Value.string (r ++ x))] (0 : Fz), Bk.arr (4 : Nat) [AV.s (Value.bool false), AV.s (Value.bool false), AV.s (Value.int IntKind.i64 o), AV.s (Value.string (r ++ x))] (if false = true then { n := (0 : Nat), ty := some (66 : Nat) : Fz } else (0 : Fz))]) (ps := [decide (r.size + x.size ≤ (9223372036854775807 : Nat)) = true, _]) (by kernel_rfl) ⟨(by exact decide_t (by omega)), (hB), trivial⟩).1 rfl (by (simp; done))
theorem feed_0n (b0 : Bool) (o0 o : Int) (r x T R : ByteArray) (hs : r.size + x.size ≤ 1000000) (hR : T.extract 0 T.size = R) (hB : Pu 32 [smA b0 false o0 (r ++ x)] (smA true false o T)) (L : Tri C1 fdC ⟨fdT o T, fdG o T⟩ .normal ⟨fdT o T, fdG o T⟩) : Pure Tryd.prog G1 15 [smA b0 false o0 r, st x] (.tup [smA true false o R, .nsl]) [.arr 4 [bl true, bl false, i64 o, st R] 0, .arr 4 [bl true, bl false, i64 o, st R] 0, .arr 1 [.nsl] 0, .arr 1 [i64 0] 0] := by
  have hO := reqs_ok o T
  exact (fnRun_ok (hs := hint [((3,3), {sym := true}), ((4,1), {call := some ((smA true false o T))}), ((9,4), {call := some ((AV.fn (Fn.func (51 : FuncId)) [] [AV.fptr [st T], AV.fptr [i64 o]]))}), ((12,3000), {loop := some ({ ks := [2, 4, 6, 7, 28], l := [0, 1, 2, 3] }, { t := fdT o T, h := fdG o T : St }, Ex.normal, { t := fdT o T, h := fdG o T : St })}), ((17,3), { sym := true, val := some (st R) })]) (ps := [decide (r.size + x.size ≤ (9223372036854775807 : Nat)) = true, _, _, { t := fdT o T, h := fdG o T : St } = { t := fdT o T, h := fdG o T : St }, _, true = true, true = true, true = true, true = true, true = true, (decide ((0 : Int) ≤ (0 : Int) ∧ (0 : Int) ≤ (↑T.size : Int) ∧ (↑T.size : Int) ≤ (↑T.size : Int) ∧ (↑T.size : Int) ≤ (↑T.size : Int)) && true) = true, st (T.extract (0 : Nat) (↑T.size : Int).toNat) = st (R)]) (by kernel_rfl) ⟨(by exact decide_t (by omega)), (hB), (hO), rfl, L, rfl, rfl, rfl, rfl, rfl, (by (first | exact congrArg AV.s (congrArg Value.string hR) | (simp; done) | (simp; omega))), (by (first | exact congrArg AV.s (congrArg Value.string hR) | (simp; done) | (simp; omega))), trivial⟩).1
theorem feed_0x (b0 : Bool) (o0 o : Int) (r x T R : ByteArray) (hs : r.size + x.size ≤ 1000000) (hR : T.extract 0 T.size = R) (hB : Pu 32 [smA b0 false o0 (r ++ x)] (smA true false o T)) (L : Tri C1 fdC ⟨fdT o T, fdG o T⟩ (.exit 0) ⟨fdT o T, fdG o T⟩) : Pure Tryd.prog G1 15 [smA b0 false o0 r, st x] (.tup [smA true false o R, .nsl]) [.arr 4 [bl true, bl false, i64 o, st R] 0, .arr 4 [bl true, bl false, i64 o, st R] 0, .arr 1 [.nsl] 0, .arr 1 [i64 0] 0] := by
  have hO := reqs_ok o T
  exact (fnRun_ok (hs := hint [((3,3), {sym := true}), ((4,1), {call := some ((smA true false o T))}), ((9,4), {call := some ((AV.fn (Fn.func (51 : FuncId)) [] [AV.fptr [st T], AV.fptr [i64 o]]))}), ((12,3000), {loop := some ({ ks := [2, 4, 6, 7, 28], l := [0, 1, 2, 3] }, { t := fdT o T, h := fdG o T : St }, Ex.exit (0 : Nat), { t := fdT o T, h := fdG o T : St })}), ((17,3), { sym := true, val := some (st R) })]) (ps := [decide (r.size + x.size ≤ (9223372036854775807 : Nat)) = true, _, _, { t := fdT o T, h := fdG o T : St } = { t := fdT o T, h := fdG o T : St }, _, true = true, true = true, true = true, true = true, true = true, (decide ((0 : Int) ≤ (0 : Int) ∧ (0 : Int) ≤ (↑T.size : Int) ∧ (↑T.size : Int) ≤ (↑T.size : Int) ∧ (↑T.size : Int) ≤ (↑T.size : Int)) && true) = true, st (T.extract (0 : Nat) (↑T.size : Int).toNat) = st (R)]) (by kernel_rfl) ⟨(by exact decide_t (by omega)), (hB), (hO), rfl, L, rfl, rfl, rfl, rfl, rfl, (by (first | exact congrArg AV.s (congrArg Value.string hR) | (simp; done) | (simp; omega))), (by (first | exact congrArg AV.s (congrArg Value.string hR) | (simp; done) | (simp; omega))), trivial⟩).1
theorem feed_nn (b0 : Bool) (o0 o : Int) (r x T R : ByteArray) (d n : Nat) (l : List It) (hs : r.size + x.size ≤ 1000000) (hd : d ≤ T.size) (hR : T.extract d T.size = R) (hB : Pu 32 [smA b0 false o0 (r ++ x)] (smA true false o T)) (L : Tri C1 fdC ⟨fdT o T, fdG o T⟩ .normal ⟨fdT o T, fdH o T d n l⟩) : Pure Tryd.prog G1 15 [smA b0 false o0 r, st x] (.tup [smA true false o R, .osl 4 0 n 6]) [.arr 4 [bl true, bl false, i64 o, st R] 0, .arr 4 [bl true, bl false, i64 o, st R] 0, .arr 1 [.osl 4 0 n 6] 0, .arr 1 [i64 d] 0, .arr (n * 6) (l.flatMap itE) 0] := by
  have hO := reqs_ok o T
  exact (fnRun_ok (hs := hint [((3,3), {sym := true}), ((4,1), {call := some ((smA true false o T))}), ((9,4), {call := some ((AV.fn (Fn.func (51 : FuncId)) [] [AV.fptr [st T], AV.fptr [i64 o]]))}), ((12,3000), {loop := some ({ ks := [2, 4, 6, 7, 28], l := [0, 1, 2, 3] }, { t := fdT o T, h := fdG o T : St }, Ex.normal, { t := fdT o T, h := fdH o T d n l : St })}), ((17,3), { sym := true, val := some (st R) })]) (ps := [decide (r.size + x.size ≤ (9223372036854775807 : Nat)) = true, _, _, { t := fdT o T, h := fdG o T : St } = { t := fdT o T, h := fdG o T : St }, _, true = true, true = true, true = true, true = true, true = true, (decide ((0 : Int) ≤ (↑d : Int) ∧ (↑d : Int) ≤ (↑T.size : Int) ∧ (↑T.size : Int) ≤ (↑T.size : Int) ∧ (↑T.size : Int) ≤ (↑T.size : Int)) && true) = true, st (T.extract (↑d : Int).toNat (↑T.size : Int).toNat) = st (R)]) (by kernel_rfl) ⟨(by exact decide_t (by omega)), (hB), (hO), rfl, L, rfl, rfl, rfl, rfl, rfl, (by (first | exact congrArg AV.s (congrArg Value.string hR) | (simp; done) | (simp; omega))), (by (first | exact congrArg AV.s (congrArg Value.string hR) | (simp; done) | (simp; omega))), trivial⟩).1
theorem feed_nx (b0 : Bool) (o0 o : Int) (r x T R : ByteArray) (d n : Nat) (l : List It) (hs : r.size + x.size ≤ 1000000) (hd : d ≤ T.size) (hR : T.extract d T.size = R) (hB : Pu 32 [smA b0 false o0 (r ++ x)] (smA true false o T)) (L : Tri C1 fdC ⟨fdT o T, fdG o T⟩ (.exit 0) ⟨fdT o T, fdH o T d n l⟩) : Pure Tryd.prog G1 15 [smA b0 false o0 r, st x] (.tup [smA true false o R, .osl 4 0 n 6]) [.arr 4 [bl true, bl false, i64 o, st R] 0, .arr 4 [bl true, bl false, i64 o, st R] 0, .arr 1 [.osl 4 0 n 6] 0, .arr 1 [i64 d] 0, .arr (n * 6) (l.flatMap itE) 0] := by
  have hO := reqs_ok o T
  exact (fnRun_ok (hs := hint [((3,3), {sym := true}), ((4,1), {call := some ((smA true false o T))}), ((9,4), {call := some ((AV.fn (Fn.func (51 : FuncId)) [] [AV.fptr [st T], AV.fptr [i64 o]]))}), ((12,3000), {loop := some ({ ks := [2, 4, 6, 7, 28], l := [0, 1, 2, 3] }, { t := fdT o T, h := fdG o T : St }, Ex.exit (0 : Nat), { t := fdT o T, h := fdH o T d n l : St })}), ((17,3), { sym := true, val := some (st R) })]) (ps := [decide (r.size + x.size ≤ (9223372036854775807 : Nat)) = true, _, _, { t := fdT o T, h := fdG o T : St } = { t := fdT o T, h := fdG o T : St }, _, true = true, true = true, true = true, true = true, true = true, (decide ((0 : Int) ≤ (↑d : Int) ∧ (↑d : Int) ≤ (↑T.size : Int) ∧ (↑T.size : Int) ≤ (↑T.size : Int) ∧ (↑T.size : Int) ≤ (↑T.size : Int)) && true) = true, st (T.extract (↑d : Int).toNat (↑T.size : Int).toNat) = st (R)]) (by kernel_rfl) ⟨(by exact decide_t (by omega)), (hB), (hO), rfl, L, rfl, rfl, rfl, rfl, rfl, (by (first | exact congrArg AV.s (congrArg Value.string hR) | (simp; done) | (simp; omega))), (by (first | exact congrArg AV.s (congrArg Value.string hR) | (simp; done) | (simp; omega))), trivial⟩).1
/-- what the items are of: none, or a row -/
def itsA (n : Nat) : AV := if n = 0 then .nsl else .osl 0 0 n 6
def itsB (l : List It) : List Bk := if l.length = 0 then [] else [.arr (l.length * 6) (l.flatMap itE) 0]
theorem feed_ok {o : Int} {X : List ByteArray} {v : Nat → Int} (h : Frms o X v) (ho : o = 0 ∨ o = 1) {c : Nat} (hc : c ≤ (catB X).size) (b0 : Bool) (o0 : Int) (r x : ByteArray) (hs : r.size + x.size ≤ 1000000) (hB : Pu 32 [smA b0 false o0 (r ++ x)] (smA true false o ((catB X).extract 0 c))) :
    CallH Tryd.prog G1 15 [smA b0 false o0 r, st x] [] (.tup [smA true false o ((catB X).extract (offs X (whole X c)) c), itsA (whole X c)]) (itsB ((X.take (whole X c)).map (itmD o))) := by
  obtain ⟨w1, w2, w3⟩ := whole_le X c
  have hl : ((X.take (whole X c)).map (itmD o)).length = whole X c := by rw [List.length_map, List.length_take]; omega
  have hR : ((catB X).extract 0 c).extract (offs X (whole X c)) ((catB X).extract 0 c).size = (catB X).extract (offs X (whole X c)) c := by
    rw [beg_size hc, beg_ext (Nat.le_refl c)]
  have hd : offs X (whole X c) ≤ ((catB X).extract 0 c).size := by rw [beg_size hc]; exact w2
  have hL := fd_tri h ho hc _ rfl
  unfold itsA itsB
  rw [hl]
  generalize whole X c = p at *
  cases p with
  | zero =>
    rw [if_pos rfl, if_pos rfl]
    rcases hL with L | L
    · exact (feed_0n b0 o0 o r x _ _ hs hR hB L).lay [] [] (by kernel_rfl) (by kernel_rfl) trivial
    · exact (feed_0x b0 o0 o r x _ _ hs hR hB L).lay [] [] (by kernel_rfl) (by kernel_rfl) trivial
  | succ p =>
    rw [if_neg (by omega), if_neg (by omega)]
    rcases hL with L | L
    · exact (feed_nn b0 o0 o r x _ _ _ _ _ hs hd hR hB L).lay [some 4] [true] (by kernel_rfl) (by kernel_rfl) ⟨row_pureB (fun _ => rfl) _ _ _, trivial⟩
    · exact (feed_nx b0 o0 o r x _ _ _ _ _ hs hd hR hB L).lay [some 4] [true] (by kernel_rfl) (by kernel_rfl) ⟨row_pureB (fun _ => rfl) _ _ _, trivial⟩
end Go.Proofs.YtcnlgdbmcdlknaaDoor.Fo
