/- A tree's twin. By the prover of this seat. -/
import Derived.Test.YtcnlgdbmcdlknaaDoorZt
set_option linter.unusedVariables false
set_option linter.unusedSimpArgs false
set_option maxRecDepth 100000
set_option maxHeartbeats 4000000
namespace Go.Proofs.YtcnlgdbmcdlknaaDoor.Tr
open Go.RowKit Go.Pm
theorem pure_row (l : List Int) (n : Nat) (fz : Fz) : pureB (.arr n (l.flatMap eU) fz) = true := row_pureB (fun _ => rfl) l n fz
theorem all1 {B : Bk} (h : pureB B = true) : [B].all pureB = true := by simp [h]
theorem clo_own (l : List Int) (h1 : 1 ≤ l.length) (hl : l.length ≤ 1000) : Pure Tryd.prog GS 59 [.sl l.length (l.flatMap eU)] (.osl 0 0 l.length 1) [.arr (l.length * 1) (l.flatMap eU) 0] := by
  have h := clo_x l hl
  rw [Nat.zero_add] at h
  exact callH_sx h1 (h.lay [some 1] [true] (by kernel_rfl) (by kernel_rfl) ⟨pure_row _ _ _, trivial⟩)
theorem clo_sl (l : List Int) (h1 : 1 ≤ l.length) (hl : l.length ≤ 1000) : Pure Tryd.prog GS 59 [.sl l.length (l.flatMap eU)] (.sl l.length (l.flatMap eU)) [] := by
  have h := clo_own l h1 hl
  have e : List.take l.length (l.flatMap eU) = l.flatMap eU := by
    have := row_take (sz := 1) (enc := eU) (fun _ => rfl) l (l.length * 1) (by omega)
    simpa using this
  have hp : (l.flatMap eU).all pureC = true := pure_row l 0 0
  have e2 : frzT (fun j => [Bk.arr (l.length * 1) (l.flatMap eU) 0][j]?) (.osl 0 0 l.length 1) = .sl l.length (l.flatMap eU) := by simp [frzT, frzA, frzC, e]
  have := pure_core h (by show ([0].all _) = true; simp [row_pureB]; exact pure_row _ _ _) (by rw [e2]; rfl)
  rwa [e2] at this
/-- a map of rows, one of them one's own -/
def evOwn (j : Nat) (p : Int) (x : Kid) : AV := if x.p = p then .osl j 0 x.l.length 1 else evD x
abbrev rowOwn (j : Nat) (p : Int) : Kid → AV × AV := rowM Kid.p ekU (evOwn j p)
theorem own_none (j : Nat) (p : Int) (D : List Kid) (h : ∀ y ∈ D, y.p ≠ p) : D.map (rowOwn j p) = D.map rowD := by
  apply List.map_congr_left
  intro y hy
  simp only [rowM, evOwn, if_neg (h y hy)]
def keepR (l : List Nat) (j : Nat) : Prop := posOf l j = some j
theorem km_own (l : List Nat) (j : Nat) (p : Int) (D : List Kid) (h : posOf l j = some j) : (D.map (rowOwn j p)).map (fun q => (reF l q.1, reF l q.2)) = D.map (rowOwn j p) := by
  rw [List.map_map]
  apply List.map_congr_left
  intro y hy
  simp only [Function.comp, rowM, evOwn, evD]
  split
  · simp [reF, reC, h, ekU]
  · simp [reF, reC, ekU]
noncomputable def CT0 : Cx := ⟨Tryd.prog, GS, 2⟩
noncomputable def twB : Code := loopOf Tryd.prog 40 4
def twT : List AV := mkT 28 [(2, .ptr 3 0), (3, .ptr 6 0), (16, .ptr 7 0)]
def twA (S : List Kid) (U : List Up) (m : List (AV × AV)) (r : List Bk) : List Bk := [.arr 2 [.mp (S.map rowD), .mp (U.map rowU)] 0, .arr 2 [.mp [], .mp []] 0, .arr 2 [.mp (S.map rowD), .mp (U.map rowU)] 0, .arr 2 [.mp [], .mp []] 0, .map m false, .map (U.map rowU) false, .arr 2 [.omp 4, .omp 5] 0, .dead] ++ r
theorem tw_miss0 (S : List Kid) (U : List Up) (D R : List Kid) (x : Kid) (h1 : 1 ≤ x.l.length) (hl : x.l.length ≤ 1000) (hk : kwf Tryd.prog 39 (u32 x.p) = true) (ha : allK Tryd.prog 39 (D.map rowD) = true) (hm : (mput (D.map rowD) (u32 x.p) (.sl x.l.length (x.l.flatMap eU))).Perm ((D ++ [x]).map rowD)) : TriN CT0 twB ⟨putT twT (some 17) (.tup [.s (.bool true), u32 x.p, .sl x.l.length (x.l.flatMap eU)]), putB (twA S U (D.map rowD) []) (7, .iter [(u32 x.p, .sl x.l.length (x.l.flatMap eU))] (R.map rowD))⟩ .normal ⟨twT, putB (twA S U ((D ++ [x]).map rowD) []) (7, .iter [(u32 x.p, .sl x.l.length (x.l.flatMap eU))] (R.map rowD))⟩ := by
  have hc := clo_sl x.l h1 hl
  exact runN_ok (hs := hint [((6,4), {call := some (AV.sl (x.l.length) (List.flatMap eU x.l))}), ((6,5), { sym := true, ents := some ((D ++ [x]).map rowD) })]) (f := { ks := [2, 3, 16], l := [0, 1, 2, 3, 4, 5, 6, 7], mx := [6] }) (ps := [_, true = true, true = true, kwf CT0.P (39 : Nat) (AV.s (Value.int IntKind.u32 x.p)) = true, allK CT0.P (39 : Nat) (List.map rowD D) = true, (mput (List.map rowD D) (AV.s (Value.int IntKind.u32 x.p)) (AV.sl x.l.length (List.flatMap eU x.l))).Perm (List.map rowD (D ++ [x])), true = true, true = true, true = true, true = true, true = true, pureB (Bk.map (List.map rowD (D ++ [x])) false) = true, pureB (Bk.map (List.map rowU U) false) = true]) (by kernel_rfl) ⟨(hc), (by (first | assumption | exact hm | rfl)), (by (first | assumption | exact hm | rfl)), (by (first | assumption | exact hm | rfl)), (by (first | assumption | exact hm | rfl)), (by (first | assumption | exact hm | rfl)), rfl, rfl, rfl, rfl, rfl, (by exact pureB_D _ _), (by exact pureB_U _ _), trivial⟩
theorem tw_hit (S : List Kid) (U : List Up) (D R : List Kid) (x : Kid) (h1 : 1 ≤ x.l.length) (hl : x.l.length ≤ 1000) (hk : kwf Tryd.prog 39 (u32 x.p) = true) (ha : allK Tryd.prog 39 (D.map rowD) = true) (hm : (mput (D.map rowD) (u32 x.p) (  .osl 8 0 x.l.length 1)).Perm ((D ++ [x]).map (rowOwn 8 x.p))) : TriN CT0 twB ⟨putT twT (some 17) (.tup [.s (.bool true), u32 x.p, .sl x.l.length (x.l.flatMap eU)]), putB (twA S U (D.map rowD) []) (7, .iter [(u32 x.p, .sl x.l.length (x.l.flatMap eU))] (R.map rowD))⟩ .normal ⟨twT, putB (twA S U ((D ++ [x]).map (rowOwn 8 x.p)) [.arr (x.l.length * 1) (x.l.flatMap eU) 0]) (7, .iter [(u32 x.p, .sl x.l.length (x.l.flatMap eU))] (R.map rowD))⟩ := by
  have hc := clo_own x.l h1 hl
  have hkm := km_own [0, 1, 2, 3, 4, 5, 6, 7, 8] 8 x.p (D ++ [x]) rfl
  exact runN_ok (hs := hint [((6,4), {call := some ((AV.osl (0 : Nat) (0 : Nat) x.l.length (1 : Nat))), news := some ([Bk.arr (x.l.length * (1 : Nat)) (List.flatMap eU x.l) (0 : Fz)]), sym := true}), ((6,5), { sym := true, ents := some ((D ++ [x]).map (rowOwn 8 x.p)) })]) (f := { ks := [2, 3, 16], l := [0, 1, 2, 3, 4, 5, 6, 7, 8], mx := [6], km := [4] }) (ps := [[Bk.arr (x.l.length * (1 : Nat)) (List.flatMap eU x.l) (0 : Fz)].all pureB = true, true = true, true = true, _, true = true, true = true, kwf CT0.P (39 : Nat) (AV.s (Value.int IntKind.u32 x.p)) = true, allK CT0.P (39 : Nat) (List.map rowD D) = true, (mput (List.map rowD D) (AV.s (Value.int IntKind.u32 x.p)) (AV.osl (8 : Nat) (0 : Nat) x.l.length (1 : Nat))).Perm (List.map (rowOwn (8 : Nat) x.p) (D ++ [x])), true = true, true = true, true = true, true = true, true = true, List.map (fun (p : AV × AV) => (reF { ks := [nat_lit 2, nat_lit 3, nat_lit 16], l := [nat_lit 0, nat_lit 1, nat_lit 2, nat_lit 3, nat_lit 4, nat_lit 5, nat_lit 6, nat_lit 7, nat_lit 8], mx := [nat_lit 6], km := [nat_lit 4] : Fg }.l p.fst, reF { ks := [nat_lit 2, nat_lit 3, nat_lit 16], l := [nat_lit 0, nat_lit 1, nat_lit 2, nat_lit 3, nat_lit 4, nat_lit 5, nat_lit 6, nat_lit 7, nat_lit 8], mx := [nat_lit 6], km := [nat_lit 4] : Fg }.l p.snd)) (List.map (rowOwn (8 : Nat) x.p) (D ++ [x])) = List.map (rowOwn (8 : Nat) x.p) (D ++ [x]), pureB (Bk.map (List.map rowU U) false) = true, pureB (Bk.arr (x.l.length * (1 : Nat)) (List.flatMap eU x.l) (0 : Fz)) = true]) (by kernel_rfl) ⟨(by exact all1 (pure_row _ _ _)), rfl, rfl, (hc), (by (first | assumption | exact hm | rfl)), (by (first | assumption | exact hm | rfl)), (by (first | assumption | exact hm | rfl)), (by (first | assumption | exact hm | rfl)), (by (first | assumption | exact hm | rfl)), rfl, rfl, rfl, rfl, rfl, (by assumption), (by exact pureB_U _ _), (by exact pure_row _ _ _), trivial⟩
theorem tw_miss1 (S : List Kid) (U : List Up) (D R : List Kid) (x : Kid) (p : Int) (c : List Int) (h1 : 1 ≤ x.l.length) (hl : x.l.length ≤ 1000) (hk : kwf Tryd.prog 39 (u32 x.p) = true) (ha : allK Tryd.prog 39 (D.map (rowOwn 8 p)) = true) (hm : (mput (D.map (rowOwn 8 p)) (u32 x.p) (.sl x.l.length (x.l.flatMap eU))).Perm ((D ++ [x]).map (rowOwn 8 p))) : TriN CT0 twB ⟨putT twT (some 17) (.tup [.s (.bool true), u32 x.p, .sl x.l.length (x.l.flatMap eU)]), putB (twA S U (D.map (rowOwn 8 p)) [.arr (c.length * 1) (c.flatMap eU) 0]) (7, .iter [(u32 x.p, .sl x.l.length (x.l.flatMap eU))] (R.map rowD))⟩ .normal ⟨twT, putB (twA S U ((D ++ [x]).map (rowOwn 8 p)) [.arr (c.length * 1) (c.flatMap eU) 0]) (7, .iter [(u32 x.p, .sl x.l.length (x.l.flatMap eU))] (R.map rowD))⟩ := by
  have hc := clo_sl x.l h1 hl
  have hkm := km_own [0, 1, 2, 3, 4, 5, 6, 7, 8] 8 p (D ++ [x]) rfl
  exact runN_ok (hs := hint [((6,4), {call := some (AV.sl (x.l.length) (List.flatMap eU x.l))}), ((6,5), { sym := true, ents := some ((D ++ [x]).map (rowOwn 8 p)) })]) (f := { ks := [2, 3, 16], l := [0, 1, 2, 3, 4, 5, 6, 7, 8], mx := [6], km := [4] }) (ps := [_, true = true, true = true, kwf CT0.P (39 : Nat) (AV.s (Value.int IntKind.u32 x.p)) = true, allK CT0.P (39 : Nat) (List.map (rowOwn (8 : Nat) p) D) = true, (mput (List.map (rowOwn (8 : Nat) p) D) (AV.s (Value.int IntKind.u32 x.p)) (AV.sl x.l.length (List.flatMap eU x.l))).Perm (List.map (rowOwn (8 : Nat) p) (D ++ [x])), true = true, true = true, true = true, true = true, true = true, List.map (fun (p : AV × AV) => (reF { ks := [nat_lit 2, nat_lit 3, nat_lit 16], l := [nat_lit 0, nat_lit 1, nat_lit 2, nat_lit 3, nat_lit 4, nat_lit 5, nat_lit 6, nat_lit 7, nat_lit 8], mx := [nat_lit 6], km := [nat_lit 4] : Fg }.l p.fst, reF { ks := [nat_lit 2, nat_lit 3, nat_lit 16], l := [nat_lit 0, nat_lit 1, nat_lit 2, nat_lit 3, nat_lit 4, nat_lit 5, nat_lit 6, nat_lit 7, nat_lit 8], mx := [nat_lit 6], km := [nat_lit 4] : Fg }.l p.snd)) (List.map (rowOwn (8 : Nat) p) (D ++ [x])) = List.map (rowOwn (8 : Nat) p) (D ++ [x]), pureB (Bk.map (List.map rowU U) false) = true, pureB (Bk.arr (c.length * (1 : Nat)) (List.flatMap eU c) (0 : Fz)) = true]) (by kernel_rfl) ⟨(hc), (by (first | assumption | exact hm | rfl)), (by (first | assumption | exact hm | rfl)), (by (first | assumption | exact hm | rfl)), (by (first | assumption | exact hm | rfl)), (by (first | assumption | exact hm | rfl)), rfl, rfl, rfl, rfl, rfl, (by assumption), (by exact pureB_U _ _), (by exact pure_row _ _ _), trivial⟩
theorem tw_end0 (S : List Kid) (U : List Up) (D : List Kid) (cur : List (AV × AV)) : TriN CT0 twB ⟨putT twT (some 17) (.tup [.s (.bool false)]), putB (twA S U (D.map rowD) []) (7, .iter cur [])⟩ (.exit 0) ⟨mkT 28 [(2, .ptr 3 0), (3, .ptr 6 0)], twA S U (D.map rowD) []⟩ := by
  exact runN_ok (hs := hint []) (f := { ks := [2, 3], l := [0, 1, 2, 3, 4, 5, 6, 7], mx := [6, 7] }) (ps := [true = true, true = true, true = true, true = true, true = true, pureB (Bk.map (List.map rowD D) false) = true, pureB (Bk.map (List.map rowU U) false) = true]) (by kernel_rfl) ⟨rfl, rfl, rfl, rfl, rfl, (by exact pureB_D _ _), (by exact pureB_U _ _), trivial⟩
theorem tw_end1 (S : List Kid) (U : List Up) (D : List Kid) (p : Int) (c : List Int) (cur : List (AV × AV)) : TriN CT0 twB ⟨putT twT (some 17) (.tup [.s (.bool false)]), putB (twA S U (D.map (rowOwn 8 p)) [.arr (c.length * 1) (c.flatMap eU) 0]) (7, .iter cur [])⟩ (.exit 0) ⟨mkT 28 [(2, .ptr 3 0), (3, .ptr 6 0)], twA S U (D.map (rowOwn 8 p)) [.arr (c.length * 1) (c.flatMap eU) 0]⟩ := by
  have hkm := km_own [0, 1, 2, 3, 4, 5, 6, 7, 8] 8 p D rfl
  exact runN_ok (hs := hint []) (f := { ks := [2, 3], l := [0, 1, 2, 3, 4, 5, 6, 7, 8], mx := [6, 7], km := [4] }) (ps := [true = true, true = true, true = true, true = true, true = true, List.map (fun (p : AV × AV) => (reF { ks := [nat_lit 2, nat_lit 3], l := [nat_lit 0, nat_lit 1, nat_lit 2, nat_lit 3, nat_lit 4, nat_lit 5, nat_lit 6, nat_lit 7, nat_lit 8], mx := [nat_lit 6, nat_lit 7], km := [nat_lit 4] : Fg }.l p.fst, reF { ks := [nat_lit 2, nat_lit 3], l := [nat_lit 0, nat_lit 1, nat_lit 2, nat_lit 3, nat_lit 4, nat_lit 5, nat_lit 6, nat_lit 7, nat_lit 8], mx := [nat_lit 6, nat_lit 7], km := [nat_lit 4] : Fg }.l p.snd)) (List.map (rowOwn (8 : Nat) p) D) = List.map (rowOwn (8 : Nat) p) D, pureB (Bk.map (List.map rowU U) false) = true, pureB (Bk.arr (c.length * (1 : Nat)) (List.flatMap eU c) (0 : Fz)) = true]) (by kernel_rfl) ⟨rfl, rfl, rfl, rfl, rfl, (by assumption), (by exact pureB_U _ _), (by exact pure_row _ _ _), trivial⟩
def twS (S : List Kid) (U : List Up) (p : Int) (D : List Kid) : List Bk := match findM Kid.p D p with
  | none => twA S U (D.map rowD) []
  | some y => twA S U (D.map (rowOwn 8 p)) [.arr (y.l.length * 1) (y.l.flatMap eU) 0]
theorem findM_snoc (D : List Kid) (x : Kid) (p : Int) : findM Kid.p (D ++ [x]) p = match findM Kid.p D p with
  | some y => some y
  | none => if x.p = p then some x else none := by
  unfold findM
  rw [List.find?_append]
  cases D.find? (fun y => decide (y.p = p)) with
  | some y => rfl
  | none =>
    simp only [Option.none_or, List.find?_cons, List.find?_nil]
    by_cases h : x.p = p <;> simp [h]
theorem findM_none {D : List Kid} {p : Int} (h : findM Kid.p D p = none) : ∀ y ∈ D, y.p ≠ p := by
  intro y hy e
  have := List.find?_eq_none.1 h y hy
  simp [e] at this
theorem findM_some {D : List Kid} {p : Int} {y : Kid} (h : findM Kid.p D p = some y) : y ∈ D ∧ y.p = p :=
  ⟨List.mem_of_find?_eq_some h, by simpa using List.find?_some h⟩
end Go.Proofs.YtcnlgdbmcdlknaaDoor.Tr
