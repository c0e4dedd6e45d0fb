/- Copy, Clone; a name is made. By the prover of this seat. -/
import Derived.Test.YtgbpjpacmepicaaDoorOb
set_option linter.unusedVariables false
set_option linter.unusedSimpArgs false
set_option maxRecDepth 100000
set_option maxHeartbeats 4000000
namespace Go.Proofs.YtgbpjpacmepicaaDoor
open Go.RowKit Go.Pm
noncomputable def C3 : Cx := ⟨Tryd.prog, G1, 3⟩
noncomputable def cpB : Code := loopOf Tryd.prog 23 1
def cpT (D : List (ByteArray × Nat)) : List AV := mkT 16 [(0, .omp 2), (7, .ptr 3 0)]
def cpA (n0 n1 : Nat) (c0 c1 : List AV) (f0 f1 : Nat) (D : List (ByteArray × Nat)) : List Bk := [.arr n0 c0 f0, .arr n1 c1 f1, .map (D.map rowB) false, .dead]
theorem cp_step (n0 n1 : Nat) (c0 c1 : List AV) (f0 f1 : Nat) (h0 : pureB (.arr n0 c0 f0) = true) (h1 : pureB (.arr n1 c1 f1) = true) (D R : List (ByteArray × Nat)) (x : ByteArray × Nat) (hk : kwf Tryd.prog 9 (st x.1) = true) (ha : allK Tryd.prog 9 (D.map rowB) = true) (hm : (mput (D.map rowB) (st x.1) (u32 ((x.2 : Int) + 11))).Perm ((D ++ [x]).map rowB)) : TriN C3 cpB ⟨putT (cpT D) (some 8) (.tup [.s (.bool true), (rowB x).1, (rowB x).2]), putB (cpA n0 n1 c0 c1 f0 f1 D) (3, .iter [((rowB x).1, (rowB x).2)] (R.map rowB))⟩ .normal ⟨cpT (D ++ [x]), putB (cpA n0 n1 c0 c1 f0 f1 (D ++ [x])) (3, .iter [((rowB x).1, (rowB x).2)] (R.map rowB))⟩ := by
  exact runN_ok (hs := hint [((3,3), { sym := true, ents := some ((D ++ [x]).map rowB) })]) (f := { ks := [0, 7], l := [0, 1, 2, 3] }) (ps := [true = true, true = true, kwf C3.P (9 : Nat) (AV.s (Value.string x.fst)) = true, allK C3.P (9 : Nat) (List.map rowB D) = true, (mput (List.map rowB D) (AV.s (Value.string x.fst)) (AV.s (Value.int IntKind.u32 ((↑x.snd : Int) + (11 : Int))))).Perm (List.map rowB (D ++ [x])), true = true, pureB (Bk.arr n0 c0 f0) = true, pureB (Bk.arr n1 c1 f1) = true, pureB (Bk.map (List.map rowB (D ++ [x])) false) = true]) (by kernel_rfl) ⟨(by (first | assumption | exact hm | rfl)), (by (first | assumption | exact hm | rfl)), (by (first | assumption | exact hm | rfl)), (by (first | assumption | exact hm | rfl)), (by (first | assumption | exact hm | rfl)), rfl, (by assumption), (by assumption), (by exact pureB_b _ _), trivial⟩
theorem cp_end (n0 n1 : Nat) (c0 c1 : List AV) (f0 f1 : Nat) (h0 : pureB (.arr n0 c0 f0) = true) (h1 : pureB (.arr n1 c1 f1) = true) (D : List (ByteArray × Nat)) (cur : List (AV × AV)) : TriN C3 cpB ⟨putT (cpT D) (some 8) (.tup [.s (.bool false)]), putB (cpA n0 n1 c0 c1 f0 f1 D) (3, .iter cur [])⟩ (.exit 0) ⟨mkT 16 [], [.arr n0 c0 f0, .arr n1 c1 f1, .map (D.map rowB) false]⟩ := by
  exact runN_ok (hs := hint []) (f := { ks := [], l := [0, 1, 2] }) (ps := [true = true, pureB (Bk.arr n0 c0 f0) = true, pureB (Bk.arr n1 c1 f1) = true, pureB (Bk.map (List.map rowB D) false) = true]) (by kernel_rfl) ⟨rfl, (by assumption), (by assumption), (by exact pureB_b _ _), trivial⟩
theorem cp_all (n0 n1 : Nat) (c0 c1 : List AV) (f0 f1 : Nat) (h0 : pureB (.arr n0 c0 f0) = true) (h1 : pureB (.arr n1 c1 f1) = true) (a : List ByteArray) (h : TOk a) : LoopT C3 cpB ⟨cpT [], [.arr n0 c0 f0, .arr n1 c1 f1, .map [] false, .iter [] ((numb a).map rowB)]⟩ (.exit 0) ⟨mkT 16 [], [.arr n0 c0 f0, .arr n1 c1 f1, .map ((numb a).map rowB) false]⟩ := by
  obtain ⟨n, hn, hop⟩ : ∃ n : Oper, headN cpB = some n ∧ n.op = .next (.tmp 7) false ∧ n.dst = some 8 := ⟨_, rfl, rfl, rfl⟩
  have hd := hop.2
  have hl := tok_apart h
  refine LoopT.rangeM (b := 3) rowB hn hop.1 (numb a) cpT (cpA n0 n1 c0 c1 f0 f1) (by intro q; cases q) (fun D => ⟨mkT 16 [], [.arr n0 c0 f0, .arr n1 c1 f1, .map (D.map rowB) false]⟩) (fun D => rfl) (fun D => by simp [cpA]) (fun D x R hp => ?_) (fun D cur hp => ?_) (fun D hp w0 ρ M a W hR => ?_) (numb a).length [] (numb a) [] rfl (List.Perm.refl _)
  · rw [hd]
    have ha := apart_perm hp.symm hl
    have hx := h.short x.1 (mem_numb (hp.mem_iff.1 (by simp)))
    exact cp_step n0 n1 c0 c1 f0 f1 h0 h1 D R x (kwf_b hx) (allK_row fun y hy => kwf_b (h.short y.1 (mem_numb (hp.mem_iff.1 (by simp [hy]))))) (by rw [show st x.1 = ekB (Prod.fst x) from rfl, show u32 ((x.2 : Int) + 11) = evB x from rfl, mput_fresh ke_b (apart_mid ha)])
  · rw [hd]
    exact cp_end n0 n1 c0 c1 f0 f1 h0 h1 D cur
  · exact hR.perm (i := 2) rfl (hp.map _)
theorem copy_ok (n0 n1 : Nat) (c0 c1 : List AV) (f0 f1 : Nat) (a : List ByteArray) (h0 : pureB (.arr n0 c0 f0) = true) (h1 : pureB (.arr n1 c1 f1) = true) (h : TOk a) : CallH Tryd.prog G1 23 [.omp 2, .mp (rowsB a)] [.arr n0 c0 f0, .arr n1 c1 f1, .map [] false] (.tup []) [.arr n0 c0 f0, .arr n1 c1 f1, .map (rowsB a) false] := by
  have L : LoopT C3 cpB ⟨cpT [], [.arr n0 c0 f0, .arr n1 c1 f1, .map [] false, .iter [] (rowsB a)]⟩ (.exit 0) ⟨mkT 16 [], [.arr n0 c0 f0, .arr n1 c1 f1, .map (rowsB a) false]⟩ := cp_all n0 n1 c0 c1 f0 f1 h0 h1 a h
  exact (fnRun_ok (hs := hint [((1,1000), {loop := some ({ ks := [0, 7], l := [0, 1, 2, 3] }, { t := cpT [], h := [Bk.arr n0 c0 f0, Bk.arr n1 c1 f1, Bk.map [] false, Bk.iter [] (rowsB a)] : St }, Ex.exit (0 : Nat), { t := mkT (16 : Nat) [], h := [Bk.arr n0 c0 f0, Bk.arr n1 c1 f1, Bk.map (rowsB a) false] : St })})]) (ps := [{ t := cpT [], h := [Bk.arr n0 c0 f0, Bk.arr n1 c1 f1, Bk.map [] false, Bk.iter [] (rowsB a)] : St } = { t := cpT [], h := [Bk.arr n0 c0 f0, Bk.arr n1 c1 f1, Bk.map [] false, Bk.iter [] (rowsB a)] : St }, _, true = true, pureB (Bk.arr n0 c0 f0) = true, pureB (Bk.arr n1 c1 f1) = true, true = true]) (by kernel_rfl) ⟨rfl, L, rfl, (by assumption), (by assumption), rfl, trivial⟩).1
/-! Clone -/
theorem clone_nil : Pure Tryd.prog G1 24 [.s (.slice none 0 0)] (.osl 0 0 0 1) [.arr 0 [] 0] :=
  Pure.forget (r := .nsl) (news := []) (fnRun_ok (hs := hint []) (r := .nsl) (H' := []) (ps := []) (by kernel_rfl) trivial).1 { ks := [], gh := [(0, 1)] } ⟨rfl, trivial⟩ rfl
theorem clone_sx0 (a : List ByteArray) (hl : a.length ≤ 1000000) : Pure Tryd.prog G1 24 [.sx a.length (a.flatMap eS)] (.osl 1 0 (0 + a.length) 1) [.dead, .arr ((0 + a.length) * 1) (a.flatMap eS) 0] := by
  have e0 := row_take (sz := 1) (enc := eS) (fun _ => rfl) a (a.length * 1) (Nat.le_refl _)
  exact (fnRun_ok (hs := hint [((3,2), { sym := true, cells := some (a.flatMap eS) })]) (ps := [true = true, decide (((0 : Nat) + a.length) * (16 : Nat) ≤ (140737488355328 : Nat)) = true, decide ((List.take (a.length * (1 : Nat)) (List.flatMap eS a)).length = a.length * (1 : Nat)) = true, ((List.take (a.length * (1 : Nat)) (List.flatMap eS a)) : List AV) = (List.flatMap eS a)]) (by kernel_rfl) ⟨rfl, (by (first | exact decide_t (by omega) | exact decide_t (by rw [e0, row_len (sz := 1) (fun _ => rfl)]) | exact e0 | exact decide_t ⟨by omega, by omega, by omega⟩)), (by (first | exact decide_t (by omega) | exact decide_t (by rw [e0, row_len (sz := 1) (fun _ => rfl)]) | exact e0 | exact decide_t ⟨by omega, by omega, by omega⟩)), (by (first | exact decide_t (by omega) | exact decide_t (by rw [e0, row_len (sz := 1) (fun _ => rfl)]) | exact e0 | exact decide_t ⟨by omega, by omega, by omega⟩)), trivial⟩).1
theorem clone_sx (a : List ByteArray) (hl : a.length ≤ 1000000) : Pure Tryd.prog G1 24 [.sx a.length (a.flatMap eS)] (.osl 0 0 a.length 1) [.arr (a.length * 1) (a.flatMap eS) 0] := by
  have h := clone_sx0 a hl
  rw [Nat.zero_add] at h
  exact h.forget { ks := [0], l := [1] } ⟨rfl, row_pureB (fun _ => rfl) _ _ _, trivial⟩ rfl
/-- a function upon one slice: the slice is nil or not -/
theorem pure_nilN {P : Program} {G : Nat → Option (List AV)} {f : FuncId} {n : Nat} {cs : List AV} {r : AV} {news : List Bk} (h1 : Pure P G f [.sx n cs] r news) (h2 : n = 0 → cs = [] → Pure P G f [.s (.slice none 0 0)] r news) : Pure P G f [.sl n cs] r news := by
  refine ⟨h1.1, fun w0 ρ M W vals hw hg hargs => ?_⟩
  obtain ⟨v, us, rfl, q1, q2⟩ := hargs.inv_cons
  obtain rfl : us = [] := by have := q2.len; cases us <;> simp at this; rfl
  rcases q1.split with q | ⟨rfl, rfl, rfl⟩
  · exact h1.2 w0 ρ M W _ hw hg (.cons q .nil)
  · exact (h2 rfl rfl).2 w0 ρ M W _ hw hg (.cons (.s _ _) .nil)
theorem clone_ok (a : List ByteArray) (hl : a.length ≤ 1000000) : Pure Tryd.prog G1 24 [slS a] (.osl 0 0 a.length 1) [.arr (a.length * 1) (a.flatMap eS) 0] := by
  refine pure_nilN (clone_sx a hl) fun h0 _ => ?_
  obtain rfl := List.length_eq_zero_iff.1 h0
  exact clone_nil
/-! Intern -/
def internD (a : List ByteArray) (s : ByteArray) (only : Bool) : List ByteArray × Int × Int :=
  if ¬ rightD s = true then (a, 0, 11) else match idxD (eqD s) (kn ++ a) with
  | some k => (a, (k : Int) + 1, 0)
  | none => if only = true then (a, 0, 0) else if 1014 ≤ a.length then (a, 0, 12) else (a ++ [s], (a.length : Int) + 11, 0)
def internA (r : List ByteArray × Int × Int) : AV := .tup [tabA r.1, u32 r.2.1, i64 r.2.2]
def internR (r : List ByteArray × Int × Int) : AV := .tup [slS (kn ++ r.1), i64 r.2.1, i64 r.2.2]
theorem right_size {s : ByteArray} (h : rightD s = true) : s.size ≤ 300 := by
  unfold rightD at h
  rw [Bool.and_eq_true, decide_eq_true_eq] at h
  omega
theorem ids_two (H : List Bk) (i j : Nat) (b c : Bk) (h1 : H[i]? = some b) (h2 : H[j]? = some c) (p1 : pureB b = true) (p2 : pureB c = true) : ([i, j].all fun i => (Option.map pureB H[i]?).getD false) = true := by simp [h1, h2, p1, p2]
theorem in_bad (a : List ByteArray) (s : ByteArray) (only : Bool) (h : rightD s = false) : Pu 11 [tabA a, st s, bl only] (internA (a, 0, 11)) := by
  have hr := right_ok s
  rw [h] at hr
  exact pure_of (hs := hint [((1,1), {call := some ((bl false))})]) (ps := [_]) (by kernel_rfl) ⟨(hr), trivial⟩
theorem in_there (a : List ByteArray) (s : ByteArray) (only : Bool) (k : Nat) (h : rightD s = true) (hf : Pu 22 [tabA a, st s] (.tup [u32 ((k : Int) + 1), bl true])) : Pu 11 [tabA a, st s, bl only] (internA (a, (k : Int) + 1, 0)) := by
  have hr := right_ok s
  rw [h] at hr
  exact pure_of (hs := hint [((1,1), {call := some ((bl true))}), ((3,2), {call := some (AV.tup [(u32 ((↑k : Int) + (1 : Int))), (bl true)])})]) (ps := [_, _]) (by kernel_rfl) ⟨(hr), (hf), trivial⟩
theorem in_only (a : List ByteArray) (s : ByteArray) (h : rightD s = true) (hf : Pu 22 [tabA a, st s] (.tup [u32 0, bl false])) : Pu 11 [tabA a, st s, bl true] (internA (a, 0, 0)) := by
  have hr := right_ok s
  rw [h] at hr
  exact pure_of (hs := hint [((1,1), {call := some ((bl true))}), ((3,2), {call := some (AV.tup [(u32 (0 : Int)), (bl false)])})]) (ps := [_, _]) (by kernel_rfl) ⟨(hr), (hf), trivial⟩
theorem in_full (a : List ByteArray) (hl : a.length ≤ 1014) (s : ByteArray) (h : rightD s = true) (hf : Pu 22 [tabA a, st s] (.tup [u32 0, bl false])) (hF : 1014 ≤ a.length) : Pu 11 [tabA a, st s, bl false] (internA (a, 0, 12)) := by
  have hr := right_ok s
  have hL := len_ok a (by omega)
  rw [h] at hr
  exact pure_of (hs := hint [((1,1), {call := some ((bl true))}), ((3,2), {call := some (AV.tup [(u32 (0 : Int)), (bl false)])}), ((8,1), {call := some ((i64 ((10 : Int) + (↑a.length : Int))))}), ((8,2), {val := some (bl (true))})]) (ps := [_, _, _, bl (decide ((10 : Int) + (↑a.length : Int) ≥ (1024 : Int))) = bl (true)]) (by kernel_rfl) ⟨(hr), (hf), (hL), (bdT (by omega)), trivial⟩
theorem in_new (a : List ByteArray) (ht : TOk a) (s : ByteArray) (h : rightD s = true) (hf : Pu 22 [tabA a, st s] (.tup [u32 0, bl false])) (hF : ¬ 1014 ≤ a.length) (hm : (mput (rowsB a) (st s) (u32 ((a.length : Int) + 11))).Perm (rowsB (a ++ [s]))) : Pu 11 [tabA a, st s, bl false] (internA (a ++ [s], (a.length : Int) + 11, 0)) := by
  have hr := right_ok s
  have hl := ht.len
  have hL := len_ok a (by omega)
  rw [h] at hr
  have hC := clone_ok a (by omega)
  have hk := kwf_b (right_size h)
  have ha := allK_b ht
  have e1 : (a ++ [s]).flatMap eS = a.flatMap eS ++ eS s := row_snoc a s
  have hlen : (a ++ [s]).length = a.length + 1 := by rw [List.length_append, List.length_singleton]
  have r1 := row_sl (sz := 1) (enc := eS) (fun _ => rfl) (a ++ [s]) (a.length + 1) ((a.length + 1) * 1) (by omega) (by omega)
  have q1 := row_pureB (enc := eS) (fun _ => rfl) (a ++ [s]) ((a.length + 1) * 1) 0
  have q0 := row_pureB (enc := eS) (fun _ => rfl) a (a.length * 1) 0
  have q2 : pureB (.map (rowsB (a ++ [s])) false) = true := pureB_b _ _
  exact pure_cast (pure_said (hs := hint [((1,1), {call := some ((bl true))}), ((3,2), {call := some (AV.tup [(u32 (0 : Int)), (bl false)])}), ((8,1), {call := some ((i64 ((10 : Int) + (↑a.length : Int))))}), ((8,2), {val := some (bl (false))}), ((10,1), {call := some ((i64 ((10 : Int) + (↑a.length : Int))))}), ((10,2), {val := some (i64 ((10 : Int) + (↑a.length : Int) + (1 : Int)))}), ((10,3), {val := some (u32 ((10 : Int) + (↑a.length : Int) + (1 : Int)))}), ((10,4), { val := some (u32 ((a.length : Int) + 11)) }), ((12,3), {heap := some (AV.tup [], [Bk.arr (2 : Nat) [AV.sl a.length (List.flatMap eS a), AV.mp (rowsB a)] (0 : Nat), Bk.arr (2 : Nat) [AV.nsl, AV.mp []] (0 : Nat), Bk.map (rowsB a) false])}), ((13,3), { sym := true, ents := some (rowsB (a ++ [s])) }), ((14,2), {call := some ((AV.osl (0 : Nat) (0 : Nat) a.length (1 : Nat))), news := some ([Bk.arr (a.length * (1 : Nat)) (List.flatMap eS a) (0 : Nat)]), sym := true}), ((14,5), { sym := true, cells := some ((a ++ [s]).flatMap eS) })]) (r := AV.tup [A [AV.sl (a.length + (1 : Nat)) (List.take ((a.length + (1 : Nat)) * (1 : Nat)) (List.drop (0 : Nat) (List.flatMap eS (a ++ [s])))), (AV.mp (rowsB (a ++ [s])))], u32 ((↑a.length : Int) + (11 : Int)), i64 ((0 : Int))]) (ps := [_, _, _, bl (decide ((10 : Int) + (↑a.length : Int) ≥ (1024 : Int))) = bl (false), _, i64 (IntKind.i64.wrap ((10 : Int) + (↑a.length : Int) + (1 : Int))) = i64 ((10 : Int) + (↑a.length : Int) + (1 : Int)), u32 (IntKind.u32.wrap ((10 : Int) + (↑a.length : Int) + (1 : Int))) = u32 ((10 : Int) + (↑a.length : Int) + (1 : Int)), u32 ((10 : Int) + (↑a.length : Int) + (1 : Int)) = u32 ((↑a.length : Int) + (11 : Int)), _, [Bk.arr (2 : Nat) [AV.sl a.length (List.flatMap eS a), AV.mp (rowsB a)] (0 : Nat), Bk.arr (2 : Nat) [AV.nsl, AV.mp []] (0 : Nat), Bk.map [] false].length ≤ [Bk.arr (2 : Nat) [AV.sl a.length (List.flatMap eS a), AV.mp (rowsB a)] (0 : Nat), Bk.arr (2 : Nat) [AV.nsl, AV.mp []] (0 : Nat), Bk.map (rowsB a) false].length, true = true, true = true, kwf Tryd.prog (9 : Nat) (AV.s (Value.string s)) = true, allK Tryd.prog (9 : Nat) (rowsB a) = true, (mput (rowsB a) (AV.s (Value.string s)) (AV.s (Value.int IntKind.u32 ((↑a.length : Int) + (11 : Int))))).Perm (rowsB (a ++ [s])), [Bk.arr (a.length * (1 : Nat)) (List.flatMap eS a) (0 : Nat)].all pureB = true, true = true, true = true, _, decide (a.length * (1 : Nat) = a.length * (1 : Nat) ∧ (0 : Nat) ≤ a.length * (1 : Nat) ∧ a.length * (1 : Nat) = (List.flatMap eS a).length) = true, decide ((a.length + (1 : Nat)) * (16 : Nat) ≤ (140737488355328 : Nat)) = true, true = true, ((List.flatMap eS a ++ [AV.s (Value.string s)]) : List AV) = (List.flatMap eS (a ++ [s])), ([(5 : Nat), (2 : Nat)].all fun (i : Nat) => (Option.map pureB [Bk.arr (2 : Nat) [AV.sl a.length (List.flatMap eS a), AV.mp (rowsB a)] (0 : Nat), Bk.arr (2 : Nat) [AV.osl (5 : Nat) (0 : Nat) (a.length + (1 : Nat)) (1 : Nat), AV.omp (2 : Nat)] (0 : Nat), Bk.map (rowsB (a ++ [s])) false, Bk.dead, Bk.arr (1 : Nat) [AV.s (Value.string s)] (0 : Nat), Bk.arr ((a.length + (1 : Nat)) * (1 : Nat)) (List.flatMap eS (a ++ [s])) (0 : Nat)][i]?).getD false) = true, true = true]) (by kernel_rfl) ⟨(hr), (hf), (hL), (bdF (by omega)), (hL), (intE (by exact wrap_i64 (by omega) (by omega))), (intE (by exact wrap_u32 (by omega) (by omega))), (by (first | exact intE (by omega) | exact intE (by rw [wrap_u32 (by omega) (by omega)]; omega))), (copy_ok ((2 : Nat)) ((2 : Nat)) ([AV.sl a.length (List.flatMap eS a), AV.mp (rowsB a)]) ([AV.nsl, AV.mp []]) ((0 : Nat)) ((0 : Nat)) (a) (by rfl) (by rfl) (by assumption)), (by (simp; done)), (by (first | assumption | exact hm | rfl)), (by (first | assumption | exact hm | rfl)), (by (first | assumption | exact hm | rfl)), (by (first | assumption | exact hm | rfl)), (by (first | assumption | exact hm | rfl)), (by (simp only [List.all_cons, q0, List.all_nil]; rfl)), rfl, rfl, (hC), (by (first | exact e1.symm | exact decide_t (by omega) | exact decide_t ⟨by omega, by omega, by rw [row_len (sz := 1) (fun _ => rfl)]; omega⟩ | exact decide_t (by rw [row_len (sz := 1) (fun _ => rfl)]; omega))), (by (first | exact e1.symm | exact decide_t (by omega) | exact decide_t ⟨by omega, by omega, by rw [row_len (sz := 1) (fun _ => rfl)]; omega⟩ | exact decide_t (by rw [row_len (sz := 1) (fun _ => rfl)]; omega))), rfl, (by (first | exact e1.symm | exact decide_t (by omega) | exact decide_t ⟨by omega, by omega, by rw [row_len (sz := 1) (fun _ => rfl)]; omega⟩ | exact decide_t (by rw [row_len (sz := 1) (fun _ => rfl)]; omega))), (by exact ids_two _ _ _ _ _ rfl rfl q1 q2), rfl, trivial⟩) (by (rw [r1]; rfl))
end Go.Proofs.YtgbpjpacmepicaaDoor
