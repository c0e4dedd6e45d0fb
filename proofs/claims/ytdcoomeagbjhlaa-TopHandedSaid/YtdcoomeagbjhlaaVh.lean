/- Drop: the claims. By the prover of this seat. -/
import Derived.Test.YtdcoomeagbjhlaaVf
set_option linter.unusedVariables false
set_option linter.unusedSimpArgs false
set_option maxRecDepth 100000
set_option maxHeartbeats 4000000
namespace Go.Proofs.Ytdcoomeagbjhlaa.Cl
open Go.RowKit Go.Pm
def dropHit (client : Int) (ids : List Int) (x : Rec) : Bool := decide (¬ x.win = 0 ∧ (x.client = client ∨ inD ids x.win = true))
def dropR (client : Int) (ids : List Int) (x : Rec) : Rec := if dropHit client ids x = true then ⟨x.sel, 0, 0, x.time⟩ else x
def goneD (client : Int) (ids : List Int) (p : Pend) : Bool := decide (p.a.asker = client ∨ inD ids p.a.req = true)
def tellD (client : Int) (ids : List Int) (p : Pend) : Bool := decide (p.owner = client ∨ inD ids p.win = true)
def keepQ (client : Int) (ids : List Int) (p : Pend) : List Pend := if goneD client ids p = true then [] else if tellD client ids p = true then [] else [p]
def sayQ (client : Int) (ids : List Int) (p : Pend) : List Send := if goneD client ids p = true then [] else if tellD client ids p = true then [refD p.a] else []
def dropT (t : Tab) (client : Int) (ids : List Int) : Tab × List Send := (⟨t.c.map (dropR client ids), t.q.flatMap (keepQ client ids)⟩, t.q.flatMap (sayQ client ids))
theorem keepQ_le (client : Int) (ids : List Int) (p : Pend) : (keepQ client ids p).length ≤ 1 := by unfold keepQ; split <;> (try split) <;> simp
theorem sayQ_le (client : Int) (ids : List Int) (p : Pend) : (sayQ client ids p).length ≤ 1 := by unfold sayQ; split <;> (try split) <;> simp
abbrev evD (client : Int) (ids : List Int) (x : Rec) : AV := A (stateL (dropR client ids x))
abbrev rowD (client : Int) (ids : List Int) : Rec → AV × AV := rowM Rec.sel ekU (evD client ids)
theorem pureB_d (client : Int) (ids : List Int) (l : List Rec) (fz : Bool) : pureB (.map (l.map (rowD client ids)) fz) = true := pureB_row fun x hx => rfl
theorem rowD_eq (client : Int) (ids : List Int) (l : List Rec) : l.map (rowD client ids) = (l.map (dropR client ids)).map rowS := by
  rw [List.map_map]
  refine List.map_congr_left fun x _ => ?_
  show (u32 x.sel, A (stateL (dropR client ids x))) = (u32 (dropR client ids x).sel, A (stateL (dropR client ids x)))
  unfold dropR
  split <;> rfl
/-! the program's: the walk over the map -/
noncomputable def dmB : Code := loopOf Try.prog 31 3
def dmT (client : Int) (ids : List Int) (D : List Rec) : List AV := mkT 95 [(1, i64 client), (2, slU ids), (3, .ptr 0 0), (6, .ptr 1 0), (8, .omp 2), (21, .ptr 3 0)]
def dmA (t : Tab) (client : Int) (ids : List Int) (D : List Rec) : List Bk := [.arr 2 [.mp (t.c.map rowS), slE pendL t.q] 0, .arr 2 [.mp [], .nsl] 0, .map (D.map (rowD client ids)) false, .dead]
def dmE (t : Tab) (client : Int) (ids : List Int) (rows : List (AV × AV)) : St := ⟨mkT 95 [(1, i64 client), (2, slU ids), (3, .ptr 0 0), (6, .ptr 1 0), (8, .omp 2)], [.arr 2 [.mp (t.c.map rowS), slE pendL t.q] 0, .arr 2 [.mp [], .nsl] 0, .map rows false]⟩
theorem dm_hit (t : Tab) (client : Int) (ids : List Int) (hi : ids.length ≤ 1000000) (D R : List Rec) (x : Rec) (h0 : x.has = true) (h1 : x.cl = client ∨ inD ids x.win = true) (hk : kwf Try.prog 84 (u32 x.sel) = true) (ha : allK Try.prog 84 (D.map (rowD client ids)) = true) (hm : (mput (D.map (rowD client ids)) (u32 x.sel) (A [i64 0, u32 0, u32 0, bl false, u32 x.time])).Perm ((D ++ [x]).map (rowD client ids))) : TriN C0 dmB ⟨putT (dmT client ids D) (some 22) (.tup [.s (.bool true), (rowS x).1, (rowS x).2]), putB (dmA t client ids D) (3, .iter [((rowS x).1, (rowS x).2)] (R.map rowS))⟩ .normal ⟨dmT client ids (D ++ [x]), putB (dmA t client ids (D ++ [x])) (3, .iter [((rowS x).1, (rowS x).2)] (R.map rowS))⟩ := by
  by_cases q0 : x.cl = client
  · exact runN_ok (hs := hint [((5,2), {val := some (bl (true))}), ((5,8), {val := some (bl (true))}), ((7,3), { sym := true, ents := some ((D ++ [x]).map (rowD client ids)) })]) (f := { ks := [1, 2, 3, 6, 8, 21], l := [0, 1, 2, 3] }) (ps := [bl (x.has) = bl (true), bl (x.cl == client) = bl (true), true = true, true = true, kwf C0.P (84 : Nat) (AV.s (Value.int IntKind.u32 x.sel)) = true, allK C0.P (84 : Nat) (List.map (rowD client ids) D) = true, (mput (List.map (rowD client ids) D) (AV.s (Value.int IntKind.u32 x.sel)) (AV.agg [AV.s (Value.int IntKind.i64 (0 : Int)), AV.s (Value.int IntKind.u32 (0 : Int)), AV.s (Value.int IntKind.u32 (0 : Int)), AV.s (Value.bool false), AV.s (Value.int IntKind.u32 x.time)])).Perm (List.map (rowD client ids) (D ++ [x])), true = true, true = true, true = true, pureB (Bk.map (List.map (rowD client ids) (D ++ [x])) false) = true]) (by kernel_rfl) ⟨(bvT (by assumption)), (beT (by assumption)), (by (first | assumption | exact hm | rfl)), (by (first | assumption | exact hm | rfl)), (by (first | assumption | exact hm | rfl)), (by (first | assumption | exact hm | rfl)), (by (first | assumption | exact hm | rfl)), rfl, rfl, rfl, (by exact pureB_d _ _ _ _), trivial⟩
  · have q1 : inD ids x.win = true := h1.resolve_left q0
    exact runN_ok (hs := hint [((5,2), {val := some (bl (true))}), ((5,8), {val := some (bl (false))}), ((5,13), {call := some ((bl (idxD (isD x.win) ids).isSome))}), ((5,15), {val := some (bl (true))}), ((7,3), { sym := true, ents := some ((D ++ [x]).map (rowD client ids)) })]) (f := { ks := [1, 2, 3, 6, 8, 21], l := [0, 1, 2, 3] }) (ps := [bl (x.has) = bl (true), bl (x.cl == client) = bl (false), _, bl ((idxD (isD x.win) ids).isSome) = bl (true), true = true, true = true, kwf C0.P (84 : Nat) (AV.s (Value.int IntKind.u32 x.sel)) = true, allK C0.P (84 : Nat) (List.map (rowD client ids) D) = true, (mput (List.map (rowD client ids) D) (AV.s (Value.int IntKind.u32 x.sel)) (AV.agg [AV.s (Value.int IntKind.i64 (0 : Int)), AV.s (Value.int IntKind.u32 (0 : Int)), AV.s (Value.int IntKind.u32 (0 : Int)), AV.s (Value.bool false), AV.s (Value.int IntKind.u32 x.time)])).Perm (List.map (rowD client ids) (D ++ [x])), true = true, true = true, true = true, pureB (Bk.map (List.map (rowD client ids) (D ++ [x])) false) = true]) (by kernel_rfl) ⟨(bvT (by assumption)), (beF (by assumption)), (in_ok (ids) (x.win) (by assumption)), (bvT (by assumption)), (by (first | assumption | exact hm | rfl)), (by (first | assumption | exact hm | rfl)), (by (first | assumption | exact hm | rfl)), (by (first | assumption | exact hm | rfl)), (by (first | assumption | exact hm | rfl)), rfl, rfl, rfl, (by exact pureB_d _ _ _ _), trivial⟩
theorem dm_miss (t : Tab) (client : Int) (ids : List Int) (hi : ids.length ≤ 1000000) (D R : List Rec) (x : Rec) (h1 : ¬ (x.has = true ∧ (x.cl = client ∨ inD ids x.win = true))) (hk : kwf Try.prog 84 (u32 x.sel) = true) (ha : allK Try.prog 84 (D.map (rowD client ids)) = true) (hm : (mput (D.map (rowD client ids)) (u32 x.sel) (A (stateL x))).Perm ((D ++ [x]).map (rowD client ids))) : TriN C0 dmB ⟨putT (dmT client ids D) (some 22) (.tup [.s (.bool true), (rowS x).1, (rowS x).2]), putB (dmA t client ids D) (3, .iter [((rowS x).1, (rowS x).2)] (R.map rowS))⟩ .normal ⟨dmT client ids (D ++ [x]), putB (dmA t client ids (D ++ [x])) (3, .iter [((rowS x).1, (rowS x).2)] (R.map rowS))⟩ := by
  by_cases q0 : x.has = true
  · have q1 : ¬ x.cl = client := fun q => h1 ⟨q0, .inl q⟩
    have q2 : ¬ inD ids x.win = true := fun q => h1 ⟨q0, .inr q⟩
    exact runN_ok (hs := hint [((5,2), {val := some (bl (true))}), ((5,8), {val := some (bl (false))}), ((5,13), {call := some ((bl (idxD (isD x.win) ids).isSome))}), ((5,15), {val := some (bl (false))}), ((7,3), { sym := true, ents := some ((D ++ [x]).map (rowD client ids)) })]) (f := { ks := [1, 2, 3, 6, 8, 21], l := [0, 1, 2, 3] }) (ps := [bl (x.has) = bl (true), bl (x.cl == client) = bl (false), _, bl ((idxD (isD x.win) ids).isSome) = bl (false), true = true, true = true, kwf C0.P (84 : Nat) (AV.s (Value.int IntKind.u32 x.sel)) = true, allK C0.P (84 : Nat) (List.map (rowD client ids) D) = true, (mput (List.map (rowD client ids) D) (AV.s (Value.int IntKind.u32 x.sel)) (AV.agg [AV.s (Value.int IntKind.i64 x.cl), AV.s (Value.int IntKind.u32 x.win), AV.s (Value.int IntKind.u32 x.ct), AV.s (Value.bool x.has), AV.s (Value.int IntKind.u32 x.time)])).Perm (List.map (rowD client ids) (D ++ [x])), true = true, true = true, true = true, pureB (Bk.map (List.map (rowD client ids) (D ++ [x])) false) = true]) (by kernel_rfl) ⟨(bvT (by assumption)), (beF (by assumption)), (in_ok (ids) (x.win) (by assumption)), (bvF (by assumption)), (by (first | assumption | exact hm | rfl | simpa [q0] using hm)), (by (first | assumption | exact hm | rfl | simpa [q0] using hm)), (by (first | assumption | exact hm | rfl | simpa [q0] using hm)), (by (first | assumption | exact hm | rfl | simpa [q0] using hm)), (by (first | assumption | exact hm | rfl | simpa [q0] using hm)), rfl, rfl, rfl, (by exact pureB_d _ _ _ _), trivial⟩
  · have q0' : x.has = false := by simpa using q0
    exact runN_ok (hs := hint [((5,2), {val := some (bl (false))}), ((7,3), { sym := true, ents := some ((D ++ [x]).map (rowD client ids)) })]) (f := { ks := [1, 2, 3, 6, 8, 21], l := [0, 1, 2, 3] }) (ps := [bl (x.has) = bl (false), true = true, true = true, kwf C0.P (84 : Nat) (AV.s (Value.int IntKind.u32 x.sel)) = true, allK C0.P (84 : Nat) (List.map (rowD client ids) D) = true, (mput (List.map (rowD client ids) D) (AV.s (Value.int IntKind.u32 x.sel)) (AV.agg [AV.s (Value.int IntKind.i64 x.cl), AV.s (Value.int IntKind.u32 x.win), AV.s (Value.int IntKind.u32 x.ct), AV.s (Value.bool x.has), AV.s (Value.int IntKind.u32 x.time)])).Perm (List.map (rowD client ids) (D ++ [x])), true = true, true = true, true = true, pureB (Bk.map (List.map (rowD client ids) (D ++ [x])) false) = true]) (by kernel_rfl) ⟨(bvF (by assumption)), (by (first | assumption | exact hm | rfl | simpa [q0'] using hm)), (by (first | assumption | exact hm | rfl | simpa [q0'] using hm)), (by (first | assumption | exact hm | rfl | simpa [q0'] using hm)), (by (first | assumption | exact hm | rfl | simpa [q0'] using hm)), (by (first | assumption | exact hm | rfl | simpa [q0'] using hm)), rfl, rfl, rfl, (by exact pureB_d _ _ _ _), trivial⟩
theorem dm_end (t : Tab) (client : Int) (ids : List Int) (D : List Rec) (cur : List (AV × AV)) : TriN C0 dmB ⟨putT (dmT client ids D) (some 22) (.tup [.s (.bool false)]), putB (dmA t client ids D) (3, .iter cur [])⟩ (.exit 0) (dmE t client ids (D.map (rowD client ids))) := by
  exact runN_ok (hs := hint []) (f := { ks := [1, 2, 3, 6, 8], l := [0, 1, 2] }) (ps := [true = true, true = true, true = true, pureB (Bk.map (List.map (rowD client ids) D) false) = true]) (by kernel_rfl) ⟨rfl, rfl, rfl, (by exact pureB_d _ _ _ _), trivial⟩
theorem dm_all (t : Tab) (h : TOk t) (client : Int) (ids : List Int) (hi : ids.length ≤ 1000000) : LoopT C0 dmB ⟨dmT client ids [], [.arr 2 [.mp (t.c.map rowS), slE pendL t.q] 0, .arr 2 [.mp [], .nsl] 0, .map [] false, .iter [] (t.c.map rowS)]⟩ (.exit 0) (dmE t client ids ((t.c.map (dropR client ids)).map rowS)) := by
  obtain ⟨n, hn, hop⟩ : ∃ n : Oper, headN dmB = some n ∧ n.op = .next (.tmp 21) false ∧ n.dst = some 22 := ⟨_, rfl, rfl, rfl⟩
  have hd := hop.2
  refine LoopT.rangeM (b := 3) rowS hn hop.1 t.c (dmT client ids) (dmA t client ids) (by intro q; cases q) (fun D => dmE t client ids (D.map (rowD client ids))) (fun D => rfl) (fun D => by simp [dmA]) (fun D x R hp => ?_) (fun D cur hp => ?_) (fun D hp w0 ρ M a W hR => ?_) t.c.length [] t.c [] rfl (List.Perm.refl _)
  · rw [hd]
    have ha := apart_perm hp.symm h.apart
    have hx := h.sel x (hp.mem_iff.1 (by simp))
    have hk := kwf_u hx.1 hx.2
    have hall : allK Try.prog 84 (D.map (rowD client ids)) = true := allK_row fun y hy => kwf_u (h.sel y (hp.mem_iff.1 (by simp [hy]))).1 (h.sel y (hp.mem_iff.1 (by simp [hy]))).2
    have hm : mput (D.map (rowD client ids)) (u32 x.sel) (A (stateL (dropR client ids x))) = (D ++ [x]).map (rowD client ids) := mput_fresh (key := Rec.sel) (ev := evD client ids) ke_u (apart_mid ha)
    by_cases hh : dropHit client ids x = true
    · have e : stateL (dropR client ids x) = [i64 0, u32 0, u32 0, bl false, u32 x.time] := by
        unfold dropR
        rw [if_pos hh]; rfl
      simp only [dropHit, decide_eq_true_eq] at hh
      rw [e] at hm
      exact dm_hit t client ids hi D R x ((has_iff x).2 hh.1) (by rw [cl_of hh.1]; exact hh.2) hk hall (by rw [hm])
    · have e : dropR client ids x = x := by unfold dropR; rw [if_neg hh]
      rw [e] at hm
      refine dm_miss t client ids hi D R x ?_ hk hall (by rw [hm])
      rintro ⟨q1, q2⟩
      have q3 := (has_iff x).1 q1
      rw [cl_of q3] at q2
      exact hh (decide_eq_true ⟨q3, q2⟩)
  · rw [hd]
    exact dm_end t client ids D cur
  · have := hR.perm (i := 2) (es' := (t.c.map (dropR client ids)).map rowS) rfl (by rw [← rowD_eq]; exact hp.map _)
    exact this
end Go.Proofs.Ytdcoomeagbjhlaa.Cl
