/- The rows at which rectangles begin or end; which rectangles go. By the prover of this seat. -/
import Derived.Test.YtcnlgdbmcdlknaaSd
set_option linter.unusedVariables false
set_option linter.unusedSimpArgs false
set_option maxRecDepth 100000
set_option maxHeartbeats 4000000
namespace Go.Proofs.Ytcnlgdbmcdlknaa.Bn
open Go.RowKit Go.Pm
def yE (r : Rc) : List Int := [r.y, r.y + r.h]
def ysK (l : List Rc) (k : Nat) : List Int := (l.take k).flatMap yE
theorem ysK_len (l : List Rc) (k : Nat) (h : k ≤ l.length) : (ysK l k).length = 2 * k := by
  unfold ysK
  induction k with
  | zero => rfl
  | succ k ih => rw [take_nth (by omega), List.flatMap_append, List.length_append, ih (by omega)]; rfl
theorem ysK_next (l : List Rc) (k : Nat) (h : k < l.length) : ysK l (k + 1) = ysK l k ++ [(nth l k).y, (nth l k).y + (nth l k).h] := by
  unfold ysK
  rw [take_nth h, List.flatMap_append]
  rfl
theorem pI (l : List Int) (n : Nat) (fz : Fz) : pureB (.arr n (l.flatMap eI) fz) = true := row_pureB (fun _ => rfl) l n fz
noncomputable def edB : Code := loopOf Try.prog 22 3
def edS (l : List Rc) (k : Nat) : St := ⟨mkT 31 [(3, .osl 0 0 (2 * k) 1), (10, slR l), (11, i64 (l.length : Int)), (12, i64 (k : Int))], [.arr (2 * k * 1) ((ysK l k).flatMap eI) 0]⟩
theorem ed_step (l : List Rc) (k : Nat) (hk : k < l.length) (hl : l.length ≤ 400000) (hs : Sm (nth l k)) : Tri C0 edB (edS l k) .normal (edS l (k + 1)) := by
  obtain ⟨s0, s1, s2, s3, s4, s5, s6, s7⟩ := hs
  have e2 : (ysK l (k + 1)).flatMap eI = (ysK l k).flatMap eI ++ [i64 (nth l k).y, i64 ((nth l k).y + (nth l k).h)] := by rw [ysK_next l k hk, List.flatMap_append]; rfl
  have e3 : ((ysK l k).flatMap eI).length = 2 * k * 1 := by rw [row_len (sz := 1) (fun _ => rfl), ysK_len l k (by omega)]
  exact runF_ok (hs := hint [((3,0), {val := some (bl (true))}), ((4,0), {cells := some (eR (nth l k) ++ List.flatMap eR (List.drop (k + (1 : Nat)) l)), sym := true}), ((5,7), {val := some (i64 ((nth l k).y + (nth l k).h))}), ((5,9), { sym := true, cells := some ((ysK l (k + 1)).flatMap eI) }), ((6,0), {val := some (i64 ((↑k : Int) + (1 : Int)))})]) (f := { ks := [3, 10, 11, 12], l := [3] }) (ps := [bl (decide ((↑k : Int) < (↑l.length : Int))) = bl (true), decide ((0 : Int) ≤ (↑k : Int) ∧ (↑k : Int) < (↑l.length : Int)) = true, ((List.drop ((↑k : Int).toNat * (4 : Nat)) (List.flatMap eR l)) : List AV) = (eR (nth l k) ++ List.flatMap eR (List.drop (k + (1 : Nat)) l)), i64 (IntKind.i64.wrap ((nth l k).y + (nth l k).h)) = i64 ((nth l k).y + (nth l k).h), decide ((2 : Nat) * k * (1 : Nat) = (2 : Nat) * k * (1 : Nat) + (0 : Nat) ∧ (0 : Nat) ≤ (2 : Nat) * k * (1 : Nat) ∧ (2 : Nat) * k * (1 : Nat) = (List.flatMap eI (ysK l k)).length) = true, decide (((2 : Nat) * k + (2 : Nat)) * (8 : Nat) ≤ (140737488355328 : Nat)) = true, true = true, ((List.drop (0 : Nat) (List.flatMap eI (ysK l k)) ++ [AV.s (Value.int IntKind.i64 (nth l k).y), AV.s (Value.int IntKind.i64 ((nth l k).y + (nth l k).h))]) : List AV) = (List.flatMap eI (ysK l (k + (1 : Nat)))), i64 (IntKind.i64.wrap ((↑k : Int) + (1 : Int))) = i64 ((↑k : Int) + (1 : Int)), true = true, pureB (Bk.arr (((2 : Nat) * k + (2 : Nat)) * (1 : Nat)) (List.flatMap eI (ysK l (k + (1 : Nat)))) (0 : Fz)) = true]) (by kernel_rfl) ⟨(bdT (by omega)), (by exact decide_t (by omega)), (by exact flat_nth (sz := 4) (k := k) (fun _ => rfl) (by omega)), (intE (by exact wrap_i64 (by omega) (by omega))), (by (first | exact e2.symm | exact decide_t (by omega) | exact decide_t ⟨by omega, by omega, by omega⟩)), (by (first | exact e2.symm | exact decide_t (by omega) | exact decide_t ⟨by omega, by omega, by omega⟩)), rfl, (by (first | exact e2.symm | exact decide_t (by omega) | exact decide_t ⟨by omega, by omega, by omega⟩)), (intE (by exact wrap_i64 (by omega) (by omega))), rfl, (by exact pI _ _ _), trivial⟩
theorem ed_end (l : List Rc) : LoopT C0 edB (edS l l.length) (.exit 0) (edS l l.length) := by
  exact LoopT.fin (hs := hint [((3,0), {val := some (bl (false))})]) (f := { ks := [3, 10, 11, 12], l := [0] }) (ps := [bl (decide ((↑l.length : Int) < (↑l.length : Int))) = bl (false), true = true, pureB (Bk.arr ((2 : Nat) * l.length * (1 : Nat)) (List.flatMap eI (ysK l l.length)) (0 : Fz)) = true]) (by kernel_rfl) ⟨(bdF (by omega)), rfl, (by exact pI _ _ _), trivial⟩ (by decide)
def edgesD (l : List Rc) : List Int := sortU (ysK l l.length)
theorem edges_1 (l : List Rc) (hl : l.length ≤ 400000) (L : LoopT C0 edB (edS l 0) (.exit 0) (edS l l.length)) (zs : List Int) (hz : ysK l l.length = zs) (hS : CallH Try.prog G0 46 [.osl 0 0 (2 * l.length) 1] [.arr (2 * l.length * 1) (zs.flatMap eI) 0] (.tup []) [.arr (2 * l.length * 1) ((msI zs).flatMap eI) 0]) (hC : CallH Try.prog G0 47 [.osl 0 0 (2 * l.length) 1] [.arr (2 * l.length * 1) ((msI zs).flatMap eI) 0] (.osl 0 0 (Lib.compact (msI zs)).length 1) [.arr ((Lib.compact (msI zs)).length * 1) ((Lib.compact (msI zs)).flatMap eI) 0]) : PT 22 [slR l] (.sl (Lib.compact (msI zs)).length (List.take ((Lib.compact (msI zs)).length * 1) (List.drop 0 ((Lib.compact (msI zs)).flatMap eI)))) := by
  unfold edS at L
  rw [hz] at L
  exact pure_said (hs := hint [((1,2), {val := some (i64 ((2 : Int) * (↑l.length : Int)))}), ((1,3), {sym := true}), ((3,1000), {loop := some ({ ks := [3, 10, 11, 12], l := [0] }, { t := mkT (31 : Nat) [((3 : Nat), AV.osl (0 : Nat) (0 : Nat) ((2 : Nat) * (0 : Nat)) (1 : Nat)), ((10 : Nat), slR l), ((11 : Nat), i64 (↑l.length : Int)), ((12 : Nat), i64 (↑(0 : Nat) : Int))], h := [Bk.arr ((2 : Nat) * (0 : Nat) * (1 : Nat)) (List.flatMap eI (ysK l (0 : Nat))) (0 : Fz)] : St }, Ex.exit (0 : Nat), { t := mkT (31 : Nat) [((3 : Nat), AV.osl (0 : Nat) (0 : Nat) ((2 : Nat) * l.length) (1 : Nat)), ((10 : Nat), slR l), ((11 : Nat), i64 (↑l.length : Int)), ((12 : Nat), i64 (↑l.length : Int))], h := [Bk.arr ((2 : Nat) * l.length * (1 : Nat)) (List.flatMap eI zs) (0 : Fz)] : St })}), ((7,1), {heap := some (AV.tup [], [Bk.arr ((2 : Nat) * l.length * (1 : Nat)) (List.flatMap eI (msI zs)) (0 : Fz)])}), ((8,1), {heap := some ((AV.osl (0 : Nat) (0 : Nat) (Lib.compact (msI zs)).length (1 : Nat)), [Bk.arr ((Lib.compact (msI zs)).length * (1 : Nat)) (List.flatMap eI (Lib.compact (msI zs))) (0 : Fz)])})]) (ps := [i64 (IntKind.i64.wrap ((2 : Int) * (↑l.length : Int))) = i64 ((2 : Int) * (↑l.length : Int)), decide ((0 : Int) ≤ (0 : Int) ∧ (0 : Int) ≤ (2 : Int) * (↑l.length : Int) ∧ (2 : Int) * (↑l.length : Int) * (8 : Int) ≤ (140737488355328 : Int) ∧ (2 : Int) * (↑l.length : Int) ≤ (140737488355328 : Int)) = true, { t := mkT (31 : Nat) [((3 : Nat), AV.osl (0 : Nat) (0 : Nat) ((2 : Nat) * (0 : Nat)) (1 : Nat)), ((10 : Nat), slR l), ((11 : Nat), i64 (↑l.length : Int)), ((12 : Nat), i64 (↑(0 : Nat) : Int))], h := [Bk.arr ((2 : Nat) * (0 : Nat) * (1 : Nat)) (List.flatMap eI (ysK l (0 : Nat))) (0 : Fz)] : St } = { t := mkT (31 : Nat) [((3 : Nat), AV.osl (0 : Nat) (0 : Nat) ((2 : Nat) * (0 : Nat)) (1 : Nat)), ((10 : Nat), slR l), ((11 : Nat), i64 (↑l.length : Int)), ((12 : Nat), i64 (↑(0 : Nat) : Int))], h := [Bk.arr ((2 : Nat) * (0 : Nat) * (1 : Nat)) (List.flatMap eI (ysK l (0 : Nat))) (0 : Fz)] : St }, _, true = true, true = true, _, [Bk.arr ((2 : Nat) * l.length * (1 : Nat)) (List.flatMap eI zs) (0 : Fz)].length ≤ [Bk.arr ((2 : Nat) * l.length * (1 : Nat)) (List.flatMap eI (msI zs)) (0 : Fz)].length, _, [Bk.arr ((2 : Nat) * l.length * (1 : Nat)) (List.flatMap eI (msI zs)) (0 : Fz)].length ≤ [Bk.arr ((Lib.compact (msI zs)).length * (1 : Nat)) (List.flatMap eI (Lib.compact (msI zs))) (0 : Fz)].length, ([(0 : Nat)].all fun (i : Nat) => (Option.map pureB [Bk.arr ((Lib.compact (msI zs)).length * (1 : Nat)) (List.flatMap eI (Lib.compact (msI zs))) (0 : Fz)][i]?).getD false) = true, true = true]) (by kernel_rfl) ⟨(intE (by exact wrap_i64 (by omega) (by omega))), (by exact decide_t ⟨by omega, by omega, by omega⟩), rfl, L, rfl, rfl, (hS), (by (simp; done)), (hC), (by (simp; done)), (by exact row_ids (fun _ => rfl) _ _ _ _ _ rfl), rfl, trivial⟩
theorem edges_ok (l : List Rc) (hl : l.length ≤ 400000) (hs : ∀ r ∈ l, Sm r) : PT 22 [slR l] (slI (edgesD l)) := by
  have hz := ysK_len l l.length (Nat.le_refl _)
  have h1 := sortI_ok (ysK l l.length) (by omega)
  have hm := (ms_perm (ysK l l.length)).length_eq
  have h2 := compI_ok (msI (ysK l l.length)) (by omega)
  rw [hm] at h2
  rw [hz] at h1 h2
  have h3 := edges_1 l hl (LoopT.count (edS l) l.length (fun k hk => ed_step l k hk hl (hs _ (nth_mem hk))) (ed_end l) 0 (by omega)) _ rfl h1 h2
  rwa [row_sl (sz := 1) (fun _ => rfl) _ _ _ rfl (by omega)] at h3
end Go.Proofs.Ytcnlgdbmcdlknaa.Bn
