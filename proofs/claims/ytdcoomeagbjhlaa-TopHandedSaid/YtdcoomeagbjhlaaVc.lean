/- A claim is laid. By the prover of this seat. -/
import Derived.Test.YtdcoomeagbjhlaaVb
set_option linter.unusedVariables false
set_option linter.unusedSimpArgs false
set_option maxRecDepth 100000
set_option maxHeartbeats 4000000
namespace Go.Proofs.Ytdcoomeagbjhlaa.Cl
open Go.RowKit Go.Pm
noncomputable def C1m : Cx := ⟨Try.prog, G0, 1⟩
noncomputable def cpB : Code := loopOf Try.prog 72 1
def cpT (D : List Rec) : List AV := mkT 16 [(0, .omp 0), (7, .ptr 1 0)]
def cpA (D : List Rec) : List Bk := [.map (D.map rowS) false, .dead]
theorem cp_step (D R : List Rec) (x : Rec) (hk : kwf Try.prog 84 (u32 x.sel) = true) (ha : allK Try.prog 84 (D.map rowS) = true) (hm : (mput (D.map rowS) (u32 x.sel) (A (stateL x))).Perm ((D ++ [x]).map rowS)) : TriN C1m cpB ⟨putT (cpT D) (some 8) (.tup [.s (.bool true), (rowS x).1, (rowS x).2]), putB (cpA D) (1, .iter [((rowS x).1, (rowS x).2)] (R.map rowS))⟩ .normal ⟨cpT (D ++ [x]), putB (cpA (D ++ [x])) (1, .iter [((rowS x).1, (rowS x).2)] (R.map rowS))⟩ := by
  exact runN_ok (hs := hint [((3,3), { sym := true, ents := some ((D ++ [x]).map rowS) })]) (f := { ks := [0, 7], l := [0, 1] }) (ps := [true = true, true = true, kwf C1m.P (84 : Nat) (AV.s (Value.int IntKind.u32 x.sel)) = true, allK C1m.P (84 : Nat) (List.map rowS D) = true, (mput (List.map rowS D) (AV.s (Value.int IntKind.u32 x.sel)) (AV.agg [AV.s (Value.int IntKind.i64 x.cl), AV.s (Value.int IntKind.u32 x.win), AV.s (Value.int IntKind.u32 x.ct), AV.s (Value.bool x.has), AV.s (Value.int IntKind.u32 x.time)])).Perm (List.map rowS (D ++ [x])), true = true, pureB (Bk.map (List.map rowS (D ++ [x])) false) = true]) (by kernel_rfl) ⟨(by (first | assumption | exact hm | rfl)), (by (first | assumption | exact hm | rfl)), (by (first | assumption | exact hm | rfl)), (by (first | assumption | exact hm | rfl)), (by (first | assumption | exact hm | rfl)), rfl, (by exact pureB_t _ _), trivial⟩
theorem cp_end (D : List Rec) (cur : List (AV × AV)) : TriN C1m cpB ⟨putT (cpT D) (some 8) (.tup [.s (.bool false)]), putB (cpA D) (1, .iter cur [])⟩ (.exit 0) ⟨mkT 16 [], [.map (D.map rowS) false]⟩ := by
  exact runN_ok (hs := hint []) (f := { ks := [], l := [0] }) (ps := [true = true, pureB (Bk.map (List.map rowS D) false) = true]) (by kernel_rfl) ⟨rfl, (by exact pureB_t _ _), trivial⟩
theorem cp_all (l : List Rec) (hl : keysApart Rec.sel l) (hs : ∀ x ∈ l, 0 ≤ x.sel ∧ x.sel ≤ 4294967295) : LoopT C1m cpB ⟨cpT [], [.map [] false, .iter [] (l.map rowS)]⟩ (.exit 0) ⟨mkT 16 [], [.map (l.map rowS) false]⟩ := by
  obtain ⟨n, hn, hop⟩ : ∃ n : Oper, headN cpB = some n ∧ n.op = .next (.tmp 7) false ∧ n.dst = some 8 := ⟨_, rfl, rfl, rfl⟩
  have hd := hop.2
  refine LoopT.rangeM (b := 1) rowS hn hop.1 l cpT cpA (by intro q; cases q) (fun D => ⟨mkT 16 [], [.map (D.map rowS) false]⟩) (fun D => rfl) (fun D => by simp [cpA]) (fun D x R hp => ?_) (fun D cur hp => ?_) (fun D hp w0 ρ M a W hR => ?_) l.length [] l [] rfl (List.Perm.refl _)
  · rw [hd]
    have ha := apart_perm hp.symm hl
    have hx := hs x (hp.mem_iff.1 (by simp))
    exact cp_step D R x (kwf_u hx.1 hx.2) (allK_row fun y hy => kwf_u (hs y (hp.mem_iff.1 (by simp [hy]))).1 (hs y (hp.mem_iff.1 (by simp [hy]))).2) (by rw [show u32 x.sel = ekU (Rec.sel x) from rfl, mput_fresh ke_u (apart_mid ha)])
  · rw [hd]
    exact cp_end D cur
  · exact hR.perm (i := 0) rfl (hp.map _)
theorem copy_ok (l : List Rec) (hl : keysApart Rec.sel l) (hs : ∀ x ∈ l, 0 ≤ x.sel ∧ x.sel ≤ 4294967295) : CallH Try.prog G0 72 [.omp 0, .mp (l.map rowS)] [.map [] false] (.tup []) [.map (l.map rowS) false] := by
  have L := cp_all l hl hs
  exact (fnRun_ok (hs := hint [((1,1000), {loop := some ({ ks := [0, 7], l := [0, 1] }, { t := cpT [], h := [Bk.map [] false, Bk.iter [] (List.map rowS l)] : St }, Ex.exit (0 : Nat), { t := mkT (16 : Nat) [], h := [Bk.map (List.map rowS l) false] : St })})]) (ps := [{ t := cpT [], h := [Bk.map [] false, Bk.iter [] (List.map rowS l)] : St } = { t := cpT [], h := [Bk.map [] false, Bk.iter [] (List.map rowS l)] : St }, _, true = true, true = true]) (by kernel_rfl) ⟨rfl, L, rfl, rfl, trivial⟩).1
theorem with_ok (t : Tab) (h : TOk t) (x : Rec) (h0 : 0 ≤ x.sel) (h1 : x.sel ≤ 4294967295) (cs : List AV) (hc : cs = stateL x) : Pu 50 [tabA t, u32 x.sel, A cs] (tabA ⟨putM Rec.sel t.c x, t.q⟩) := by
  subst hc
  have hk := kwf_u h0 h1
  have ha := allK_t h
  have hp := mput_row (ev := evS) ke_u h.apart x
  have hap := h.apart
  have hse := h.sel
  have cp := copy_ok t.c hap hse
  exact pure_said (hs := hint [((2,3), {sub := some ([3], [true], [true], AV.tup [], [Bk.map (List.map rowS t.c) false])}), ((3,3), { sym := true, ents := some ((putM Rec.sel t.c x).map rowS) })]) (ps := [_, true = true, pureB (Bk.map (List.map rowS t.c) false) = true, true = true, true = true, kwf Try.prog (84 : Nat) (AV.s (Value.int IntKind.u32 x.sel)) = true, allK Try.prog (84 : Nat) (List.map rowS t.c) = true, (mput (List.map rowS t.c) (AV.s (Value.int IntKind.u32 x.sel)) (AV.agg [AV.s (Value.int IntKind.i64 x.cl), AV.s (Value.int IntKind.u32 x.win), AV.s (Value.int IntKind.u32 x.ct), AV.s (Value.bool x.has), AV.s (Value.int IntKind.u32 x.time)])).Perm (List.map rowS (List.filter (fun (y : Rec) => !decide (y.sel = x.sel)) t.c ++ [x])), ([(3 : Nat)].all fun (i : Nat) => (Option.map pureB [Bk.arr (2 : Nat) [AV.mp (List.map rowS t.c), AV.sl t.q.length (List.flatMap pendL t.q)] (0 : Fz), Bk.arr (5 : Nat) [AV.s (Value.int IntKind.i64 x.cl), AV.s (Value.int IntKind.u32 x.win), AV.s (Value.int IntKind.u32 x.ct), AV.s (Value.bool x.has), AV.s (Value.int IntKind.u32 x.time)] (0 : Fz), Bk.arr (2 : Nat) [AV.omp (3 : Nat), AV.sl t.q.length (List.flatMap pendL t.q)] (if false = true then { n := (0 : Nat), ty := some (33 : Nat) : Fz } else (0 : Fz)), Bk.map (List.map rowS (List.filter (fun (y : Rec) => !decide (y.sel = x.sel)) t.c ++ [x])) false][i]?).getD false) = true, true = true]) (by kernel_rfl) ⟨(cp), rfl, (by exact pureB_t _ _), (by (first | assumption | exact hp | rfl)), (by (first | assumption | exact hp | rfl)), (by (first | assumption | exact hp | rfl)), (by (first | assumption | exact hp | rfl)), (by (first | assumption | exact hp | rfl)), (by exact ids_t _ _ _ _ rfl), rfl, trivial⟩
end Go.Proofs.Ytdcoomeagbjhlaa.Cl
