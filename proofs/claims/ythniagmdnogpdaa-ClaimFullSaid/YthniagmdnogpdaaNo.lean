/- The law Apart. By the prover of this seat. -/
import Derived.Test.YthniagmdnogpdaaNn
set_option linter.unusedVariables false
set_option linter.unusedSimpArgs false
set_option maxRecDepth 100000
set_option maxHeartbeats 4000000
namespace Go.Proofs.Ythniagmdnogpdaa
open Go.RowKit Go.Pm
def isO (o : Int) (x : Asked) : Bool := decide (x.sel = o)
theorem step_find (t : Tab) (a : Act) (o : Int) (h3 : ¬ a.op = 3) (ho : ¬ a.sel = o) : findT (stepD t a).1 o = findT t o := by
  unfold stepD
  split
  · unfold setD
    split
    · rfl
    · unfold findT
      rw [find_put, if_neg (by exact ho)]
  · split
    · unfold convD; split <;> rfl
    · split
      · unfold ansT; split <;> rfl
      · first | rfl | (split <;> first | rfl | contradiction)
theorem step_pend (t : Tab) (a : Act) (o : Int) (h3 : ¬ a.op = 3) (ho : ¬ a.sel = o) : ((stepD t a).1.q.map (·.a)).filter (isO o) = (t.q.map (·.a)).filter (isO o) := by
  unfold stepD
  split
  · rw [q_set]
  · split
    · unfold convD
      split
      · rfl
      · show ((t.q ++ [_]).map _).filter _ = _
        rw [List.map_append, List.filter_append, List.map_singleton, List.filter_cons, if_neg (by rw [show isO o (Pend.mk a.ask (findT t a.ask.sel).client (findT t a.ask.sel).win).a = false from decide_eq_false ho]; simp), List.filter_nil, List.append_nil]
    · split
      · unfold ansT
        split
        · rename_i k hk
          obtain ⟨h1, h2, _⟩ := idx_some hk
          show ((dropAt t.q k).map _).filter _ = _
          have e : t.q = t.q.take k ++ nth t.q k :: t.q.drop (k + 1) := by rw [← drop_nth h1, List.take_append_drop]
          conv => rhs; rw [e]
          unfold dropAt
          rw [List.map_append, List.map_append, List.filter_append, List.filter_append, List.map_cons, List.filter_cons]
          have : isO o (nth t.q k).a = false := by
            simp only [ansD, decide_eq_true_eq] at h2
            exact decide_eq_false (by rw [h2.2.2]; exact ho)
          rw [this]
          simp
        · rfl
      · first | rfl | (split <;> first | rfl | contradiction)
/-- how far the pointer goes -/
def nxN (o : Int) (X : List Asked) (n : Nat) : Nat := n + (match idxD (isO o) (X.drop n) with | some j => j | none => 0)
def ptN (o : Int) (X Y : List Asked) : Nat → Nat
  | 0 => 0
  | i + 1 => if isO o (nth Y i) = true then nxN o X (ptN o X Y i) + 1 else ptN o X Y i
theorem filter_first {p : Asked → Bool} : ∀ {l : List Asked} {y : Asked} {r : List Asked}, l.filter p = y :: r → ∃ j, idxD p l = some j ∧ nth l j = y ∧ (l.drop (j + 1)).filter p = r ∧ j < l.length := by
  intro l
  induction l with
  | nil => intro y r h; cases h
  | cons x l ih =>
    intro y r h
    rw [List.filter_cons] at h
    by_cases hx : p x = true
    · rw [if_pos hx] at h
      injection h with h1 h2
      refine ⟨0, ?_, h1, by simpa using h2, by simp⟩
      unfold idxD
      rw [if_pos hx]
    · rw [if_neg hx] at h
      obtain ⟨j, h1, h2, h3, h4⟩ := ih h
      refine ⟨j + 1, ?_, by simpa [nth] using h2, by simpa using h3, by simp; omega⟩
      unfold idxD
      rw [if_neg hx, h1]; rfl
theorem nth_drop (X : List Asked) (n j : Nat) : nth (X.drop n) j = nth X (n + j) := by
  simp [nth, List.getD_eq_getElem?_getD, List.getElem?_drop]
theorem pt_inv (o : Int) (X Y : List Asked) (h : Y.filter (isO o) = X.filter (isO o)) : ∀ i, i ≤ Y.length → (X.drop (ptN o X Y i)).filter (isO o) = (Y.drop i).filter (isO o) ∧ ptN o X Y i ≤ X.length := by
  intro i
  induction i with
  | zero => intro _; exact ⟨h.symm, Nat.zero_le _⟩
  | succ i ih =>
    intro hi
    obtain ⟨h1, h2⟩ := ih (by omega)
    rw [drop_nth (show i < Y.length by omega), List.filter_cons] at h1
    unfold ptN
    by_cases hy : isO o (nth Y i) = true
    · rw [if_pos hy] at h1 ⊢
      obtain ⟨j, j1, j2, j3, j4⟩ := filter_first h1
      unfold nxN
      rw [j1]
      rw [List.drop_drop] at j3
      rw [List.length_drop] at j4
      exact ⟨by rw [Nat.add_assoc]; exact j3, by simp only; omega⟩
    · rw [if_neg hy] at h1 ⊢
      exact ⟨h1, h2⟩
noncomputable def ap2B : Code := loopOf Try.prog 6 19
def apS (o : Int) (c0 w0 m0 : Int) (h : Bool) (X Y : List Asked) (n i : Nat) : St := ⟨mkT 149 [(2, u32 o), (14, .ptr 0 0), (15, bl h), (16, .ptr 1 0), (17, bl h), (18, slE askL X), (19, slE askL Y), (20, i64 n), (21, i64 i)], [.arr 3 [i64 c0, u32 w0, u32 m0] 0, .arr 3 [i64 c0, u32 w0, u32 m0] 0]⟩
theorem ap2_step (o c0 w0 m0 : Int) (h : Bool) (X Y : List Asked) (n i : Nat) (hn : n < X.length) (hl : X.length ≤ 1000) (hp : ¬ (nth X n).sel = o) : Tri C0 ap2B (apS o c0 w0 m0 h X Y n i) .normal (apS o c0 w0 m0 h X Y (n + 1) i) := by
  exact runF_ok (hs := hint [((19,4), {val := some (bl (true))}), ((19,7), {cells := some (askL (nth X n) ++ List.flatMap askL (List.drop (n + (1 : Nat)) X)), sym := true}), ((19,12), {val := some (bl (true))}), ((20,1), {val := some (i64 ((↑n : Int) + (1 : Int)))})]) (f := { ks := [2, 14, 15, 16, 17, 18, 19, 20, 21], l := [0, 1] }) (ps := [bl (decide ((↑n : Int) < (↑X.length : Int))) = bl (true), decide ((0 : Int) ≤ (↑n : Int) ∧ (↑n : Int) < (↑X.length : Int)) = true, ((List.drop ((↑n : Int).toNat * (6 : Nat)) (List.flatMap askL X)) : List AV) = (askL (nth X n) ++ List.flatMap askL (List.drop (n + (1 : Nat)) X)), bl ((nth X n).sel != o) = bl (true), i64 (IntKind.i64.wrap ((↑n : Int) + (1 : Int))) = i64 ((↑n : Int) + (1 : Int)), true = true, true = true, true = true]) (by kernel_rfl) ⟨(bdT (by omega)), (by exact decide_t (by omega)), (by exact flat_nth (sz := 6) (k := n) (fun _ => rfl) (by omega)), (neF (by assumption)), (intE (by exact wrap_i64 (by omega) (by omega))), rfl, rfl, rfl, trivial⟩
theorem ap2_end (o c0 w0 m0 : Int) (h : Bool) (X Y : List Asked) (n i : Nat) (hn : n < X.length) (hl : X.length ≤ 1000) (hp : (nth X n).sel = o) : LoopT C0 ap2B (apS o c0 w0 m0 h X Y n i) (.exit 4) (apS o c0 w0 m0 h X Y n i) := by
  exact LoopT.fin (hs := hint [((19,4), {val := some (bl (true))}), ((19,7), {cells := some (askL (nth X n) ++ List.flatMap askL (List.drop (n + (1 : Nat)) X)), sym := true}), ((19,12), {val := some (bl (false))})]) (f := { ks := [2, 14, 15, 16, 17, 18, 19, 20, 21], l := [0, 1] }) (ps := [bl (decide ((↑n : Int) < (↑X.length : Int))) = bl (true), decide ((0 : Int) ≤ (↑n : Int) ∧ (↑n : Int) < (↑X.length : Int)) = true, ((List.drop ((↑n : Int).toNat * (6 : Nat)) (List.flatMap askL X)) : List AV) = (askL (nth X n) ++ List.flatMap askL (List.drop (n + (1 : Nat)) X)), bl ((nth X n).sel != o) = bl (false), true = true, true = true, true = true]) (by kernel_rfl) ⟨(bdT (by omega)), (by exact decide_t (by omega)), (by exact flat_nth (sz := 6) (k := n) (fun _ => rfl) (by omega)), (neT (by assumption)), rfl, rfl, rfl, trivial⟩ (by decide)
noncomputable def apB : Code := loopOf Try.prog 6 16
theorem ap_skip (o c0 w0 m0 : Int) (h : Bool) (X Y : List Asked) (n i : Nat) (hi : i < Y.length) (hl : Y.length ≤ 1000) (hp : ¬ (nth Y i).sel = o) : Tri C0 apB (apS o c0 w0 m0 h X Y n i) .normal (apS o c0 w0 m0 h X Y n (i + 1)) := by
  exact runF_ok (hs := hint [((16,3), {val := some (bl (true))}), ((18,2), {cells := some (askL (nth Y i) ++ List.flatMap askL (List.drop (i + (1 : Nat)) Y)), sym := true}), ((18,6), {val := some (bl (true))}), ((17,1), {val := some (i64 ((↑i : Int) + (1 : Int)))})]) (f := { ks := [2, 14, 15, 16, 17, 18, 19, 20, 21], l := [0, 1] }) (ps := [bl (decide ((↑i : Int) < (↑Y.length : Int))) = bl (true), decide ((0 : Int) ≤ (↑i : Int) ∧ (↑i : Int) < (↑Y.length : Int)) = true, ((List.drop ((↑i : Int).toNat * (6 : Nat)) (List.flatMap askL Y)) : List AV) = (askL (nth Y i) ++ List.flatMap askL (List.drop (i + (1 : Nat)) Y)), bl ((nth Y i).sel != o) = bl (true), i64 (IntKind.i64.wrap ((↑i : Int) + (1 : Int))) = i64 ((↑i : Int) + (1 : Int)), true = true, true = true, true = true]) (by kernel_rfl) ⟨(bdT (by omega)), (by exact decide_t (by omega)), (by exact flat_nth (sz := 6) (k := i) (fun _ => rfl) (by omega)), (neF (by assumption)), (intE (by exact wrap_i64 (by omega) (by omega))), rfl, rfl, rfl, trivial⟩
theorem ap_hit (o c0 w0 m0 : Int) (h : Bool) (X Y : List Asked) (n n' i : Nat) (hi : i < Y.length) (hl : Y.length ≤ 1000) (hp : (nth Y i).sel = o) (hn : n' < X.length) (hx : X.length ≤ 1000) (he : nth X n' = nth Y i) (L : LoopT C0 ap2B (apS o c0 w0 m0 h X Y n i) (.exit 4) (apS o c0 w0 m0 h X Y n' i)) : Tri C0 apB (apS o c0 w0 m0 h X Y n i) .normal (apS o c0 w0 m0 h X Y (n' + 1) (i + 1)) := by
  exact runF_ok (hs := hint [((16,3), {val := some (bl (true))}), ((18,2), {cells := some (askL (nth Y i) ++ List.flatMap askL (List.drop (i + (1 : Nat)) Y)), sym := true}), ((18,6), {val := some (bl (false))}), ((19,1000), {loop := some ({ ks := [2, 14, 15, 16, 17, 18, 19, 20, 21], l := [0, 1] }, apS o c0 w0 m0 h X Y n i, Ex.exit (4 : Nat), apS o c0 w0 m0 h X Y n' i)}), ((21,4), {val := some (bl (false))}), ((21,7), {cells := some (askL (nth X n') ++ List.flatMap askL (List.drop (n' + (1 : Nat)) X)), sym := true}), ((21,11), {cells := some (askL (nth Y i) ++ List.flatMap askL (List.drop (i + (1 : Nat)) Y)), sym := true}), ((21,14), {val := some (bl (false))}), ((23,1), {val := some (i64 ((↑n' : Int) + (1 : Int)))}), ((17,1), {val := some (i64 ((↑i : Int) + (1 : Int)))})]) (f := { ks := [2, 14, 15, 16, 17, 18, 19, 20, 21], l := [0, 1] }) (ps := [bl (decide ((↑i : Int) < (↑Y.length : Int))) = bl (true), decide ((0 : Int) ≤ (↑i : Int) ∧ (↑i : Int) < (↑Y.length : Int)) = true, ((List.drop ((↑i : Int).toNat * (6 : Nat)) (List.flatMap askL Y)) : List AV) = (askL (nth Y i) ++ List.flatMap askL (List.drop (i + (1 : Nat)) Y)), bl ((nth Y i).sel != o) = bl (false), apS o c0 w0 m0 h X Y n i = apS o c0 w0 m0 h X Y n i, _, true = true, true = true, true = true, bl (decide ((↑n' : Int) ≥ (↑X.length : Int))) = bl (false), decide ((0 : Int) ≤ (↑n' : Int) ∧ (↑n' : Int) < (↑X.length : Int)) = true, ((List.drop ((↑n' : Int).toNat * (6 : Nat)) (List.flatMap askL X)) : List AV) = (askL (nth X n') ++ List.flatMap askL (List.drop (n' + (1 : Nat)) X)), decide ((0 : Int) ≤ (↑i : Int) ∧ (↑i : Int) < (↑Y.length : Int)) = true, ((List.drop ((↑i : Int).toNat * (6 : Nat)) (List.flatMap askL Y)) : List AV) = (askL (nth Y i) ++ List.flatMap askL (List.drop (i + (1 : Nat)) Y)), bl (!((nth X n').asker == (nth Y i).asker && ((nth X n').req == (nth Y i).req && ((nth X n').sel == (nth Y i).sel && ((nth X n').target == (nth Y i).target && ((nth X n').prop == (nth Y i).prop && ((nth X n').time == (nth Y i).time && true))))))) = bl (false), i64 (IntKind.i64.wrap ((↑n' : Int) + (1 : Int))) = i64 ((↑n' : Int) + (1 : Int)), i64 (IntKind.i64.wrap ((↑i : Int) + (1 : Int))) = i64 ((↑i : Int) + (1 : Int)), true = true, true = true, true = true]) (by kernel_rfl) ⟨(bdT (by omega)), (by exact decide_t (by omega)), (by exact flat_nth (sz := 6) (k := i) (fun _ => rfl) (by omega)), (neT (by assumption)), rfl, L, rfl, rfl, rfl, (bdF (by omega)), (by exact decide_t (by omega)), (by exact flat_nth (sz := 6) (k := n') (fun _ => rfl) (by omega)), (by exact decide_t (by omega)), (by exact flat_nth (sz := 6) (k := i) (fun _ => rfl) (by omega)), (bnT (bvT (by (simp [he]; done)))), (intE (by exact wrap_i64 (by omega) (by omega))), (intE (by exact wrap_i64 (by omega) (by omega))), rfl, rfl, rfl, trivial⟩
theorem ap_end (o c0 w0 m0 : Int) (h : Bool) (X Y : List Asked) (n : Nat) : LoopT C0 apB (apS o c0 w0 m0 h X Y n Y.length) (.exit 2) (apS o c0 w0 m0 h X Y n Y.length) := by
  exact LoopT.fin (hs := hint [((16,3), {val := some (bl (false))})]) (f := { ks := [2, 14, 15, 16, 17, 18, 19, 20, 21], l := [0, 1] }) (ps := [bl (decide ((↑Y.length : Int) < (↑Y.length : Int))) = bl (false), true = true, true = true, true = true]) (by kernel_rfl) ⟨(bdF (by omega)), rfl, rfl, rfl, trivial⟩ (by decide)
theorem ap_all (o c0 w0 m0 : Int) (h : Bool) (X Y : List Asked) (hx : X.length ≤ 1000) (hy : Y.length ≤ 1000) (hf : Y.filter (isO o) = X.filter (isO o)) : LoopT C0 apB (apS o c0 w0 m0 h X Y 0 0) (.exit 2) (apS o c0 w0 m0 h X Y (ptN o X Y Y.length) Y.length) :=
  LoopT.count (fun i => apS o c0 w0 m0 h X Y (ptN o X Y i) i) Y.length (fun i hi => by
    obtain ⟨h1, h2⟩ := pt_inv o X Y hf i (by omega)
    rw [drop_nth hi, List.filter_cons] at h1
    show Tri C0 apB (apS o c0 w0 m0 h X Y (ptN o X Y i) i) .normal (apS o c0 w0 m0 h X Y (ptN o X Y (i + 1)) (i + 1))
    by_cases hy : isO o (nth Y i) = true
    · have e : ptN o X Y (i + 1) = nxN o X (ptN o X Y i) + 1 := by rw [ptN, if_pos hy]
      rw [if_pos hy] at h1
      obtain ⟨j, j1, j2, j3, j4⟩ := filter_first h1
      rw [List.length_drop] at j4
      have e2 : nxN o X (ptN o X Y i) = ptN o X Y i + j := by unfold nxN; rw [j1]
      rw [e, e2]
      rw [nth_drop] at j2
      generalize ptN o X Y i = n at *
      have L := LoopT.count (fun k => apS o c0 w0 m0 h X Y (n + k) i) j (fun k hk => by
        have hk2 := (idx_some j1).2.2 k hk
        rw [nth_drop] at hk2
        exact ap2_step o c0 w0 m0 h X Y (n + k) i (by omega) hx (fun q => hk2 (decide_eq_true q))) (ap2_end o c0 w0 m0 h X Y (n + j) i (by omega) hx (by rw [j2]; exact of_decide_eq_true hy)) 0 (by omega)
      exact ap_hit o c0 w0 m0 h X Y n (n + j) i hi (by assumption) (of_decide_eq_true hy) (by omega) hx j2 L
    · have e : ptN o X Y (i + 1) = ptN o X Y i := by rw [ptN, if_neg hy]
      rw [e]
      exact ap_skip o c0 w0 m0 h X Y _ i hi (by assumption) (fun q => hy (decide_eq_true q))) (ap_end o c0 w0 m0 h X Y _) 0 (by omega)
noncomputable def ap4B : Code := loopOf Try.prog 6 24
def ap4S (o : Int) (c0 w0 m0 : Int) (h : Bool) (X : List Asked) (n : Nat) : St := ⟨mkT 149 [(2, u32 o), (14, .ptr 0 0), (15, bl h), (16, .ptr 1 0), (17, bl h), (18, slE askL X), (20, i64 n)], [.arr 3 [i64 c0, u32 w0, u32 m0] 0, .arr 3 [i64 c0, u32 w0, u32 m0] 0]⟩
theorem ap4_step (o c0 w0 m0 : Int) (h : Bool) (X : List Asked) (n : Nat) (hn : n < X.length) (hl : X.length ≤ 1000) (hp : ¬ (nth X n).sel = o) : Tri C0 ap4B (ap4S o c0 w0 m0 h X n) .normal (ap4S o c0 w0 m0 h X (n + 1)) := by
  exact runF_ok (hs := hint [((24,3), {val := some (bl (true))}), ((25,2), {cells := some (askL (nth X n) ++ List.flatMap askL (List.drop (n + (1 : Nat)) X)), sym := true}), ((25,6), {val := some (bl (false))}), ((27,1), {val := some (i64 ((↑n : Int) + (1 : Int)))})]) (f := { ks := [2, 14, 15, 16, 17, 18, 20], l := [0, 1] }) (ps := [bl (decide ((↑n : Int) < (↑X.length : Int))) = bl (true), decide ((0 : Int) ≤ (↑n : Int) ∧ (↑n : Int) < (↑X.length : Int)) = true, ((List.drop ((↑n : Int).toNat * (6 : Nat)) (List.flatMap askL X)) : List AV) = (askL (nth X n) ++ List.flatMap askL (List.drop (n + (1 : Nat)) X)), bl ((nth X n).sel == o) = bl (false), i64 (IntKind.i64.wrap ((↑n : Int) + (1 : Int))) = i64 ((↑n : Int) + (1 : Int)), true = true, true = true, true = true]) (by kernel_rfl) ⟨(bdT (by omega)), (by exact decide_t (by omega)), (by exact flat_nth (sz := 6) (k := n) (fun _ => rfl) (by omega)), (beF (by assumption)), (intE (by exact wrap_i64 (by omega) (by omega))), rfl, rfl, rfl, trivial⟩
theorem ap4_end (o c0 w0 m0 : Int) (h : Bool) (X : List Asked) : LoopT C0 ap4B (ap4S o c0 w0 m0 h X X.length) (.exit 6) (ap4S o c0 w0 m0 h X X.length) := by
  exact LoopT.fin (hs := hint [((24,3), {val := some (bl (false))})]) (f := { ks := [2, 14, 15, 16, 17, 18, 20], l := [0, 1] }) (ps := [bl (decide ((↑X.length : Int) < (↑X.length : Int))) = bl (false), true = true, true = true, true = true]) (by kernel_rfl) ⟨(bdF (by omega)), rfl, rfl, rfl, trivial⟩ (by decide)
theorem ap4_all (o c0 w0 m0 : Int) (h : Bool) (X : List Asked) (n : Nat) (hn : n ≤ X.length) (hl : X.length ≤ 1000) (hf : (X.drop n).filter (isO o) = []) : LoopT C0 ap4B (ap4S o c0 w0 m0 h X n) (.exit 6) (ap4S o c0 w0 m0 h X X.length) := by
  have L := LoopT.count (fun k => ap4S o c0 w0 m0 h X (n + k)) (X.length - n) (fun k hk => by
    have hm : nth (X.drop n) k ∈ X.drop n := nth_mem (by rw [List.length_drop]; omega)
    have := List.filter_eq_nil_iff.1 hf _ hm
    rw [nth_drop] at this
    exact ap4_step o c0 w0 m0 h X (n + k) (by omega) hl (fun q => this (decide_eq_true q))) (by
      have := ap4_end o c0 w0 m0 h X
      rw [show n + (X.length - n) = X.length by omega]
      exact this) 0 (by omega)
  exact L
/-! all -/
noncomputable def ap1B : Code := loopOf Try.prog 6 7
def ap1S (acts : List Act) (a : Act) (o : Int) (t : Tab) (k : Nat) : St := ⟨mkT 149 [(0, slA acts), (2, u32 o), (4, .ptr 0 0), (7, .ptr 1 0), (8, .ptr 2 0), (9, i64 k)], [.arr 8 (actL a) 0, .arr 2 [.mp (t.c.map rowS), slE pendL t.q] 0, .arr 2 [slE recL t.c, slE pendL t.q] 0]⟩
theorem ap1_step (acts : List Act) (a : Act) (o : Int) (t t' : Tab) (s : List Send) (k : Nat) (hk : k < acts.length) (hl : acts.length ≤ 40) (hd : Pu 12 [tabA t, tabR t, A (actL (nth acts k))] (.tup [tabA t', tabR t', slS s, bl true])) : Tri C0 ap1B (ap1S acts a o t k) .normal (ap1S acts a o t' (k + 1)) := by
  exact runF_ok (hs := hint [((7,3), {val := some (bl (true))}), ((9,4), {cells := some (actL (nth acts k) ++ List.flatMap actL (List.drop (k + (1 : Nat)) acts)), sym := true}), ((9,6), {call := some (AV.tup [(tabA t'), (tabR t'), (slS s), (bl true)])}), ((8,1), {val := some (i64 ((↑k : Int) + (1 : Int)))})]) (f := { ks := [0, 2, 4, 7, 8, 9], l := [0, 1, 2] }) (ps := [bl (decide ((↑k : Int) < (↑acts.length : Int))) = bl (true), decide ((0 : Int) ≤ (↑k : Int) ∧ (↑k : Int) < (↑acts.length : Int)) = true, ((List.drop ((↑k : Int).toNat * (8 : Nat)) (List.flatMap actL acts)) : List AV) = (actL (nth acts k) ++ List.flatMap actL (List.drop (k + (1 : Nat)) acts)), _, i64 (IntKind.i64.wrap ((↑k : Int) + (1 : Int))) = i64 ((↑k : Int) + (1 : Int)), true = true, true = true, true = true, true = true]) (by kernel_rfl) ⟨(bdT (by omega)), (by exact decide_t (by omega)), (by exact flat_nth (sz := 8) (k := k) (fun _ => rfl) (by omega)), (hd), (intE (by exact wrap_i64 (by omega) (by omega))), rfl, rfl, rfl, rfl, trivial⟩
theorem ap1_end (acts : List Act) (a : Act) (o : Int) (t : Tab) : LoopT C0 ap1B (ap1S acts a o t acts.length) (.exit 0) (ap1S acts a o t acts.length) := by
  exact LoopT.fin (hs := hint [((7,3), {val := some (bl (false))})]) (f := { ks := [0, 2, 4, 7, 8, 9], l := [0, 1, 2] }) (ps := [bl (decide ((↑acts.length : Int) < (↑acts.length : Int))) = bl (false), true = true, true = true, true = true, true = true]) (by kernel_rfl) ⟨(bdF (by omega)), rfl, rfl, rfl, rfl, trivial⟩ (by decide)
theorem ap1_all (acts : List Act) (ha : ∀ a ∈ acts, AOk a) (hl : acts.length ≤ 40) (a : Act) (o : Int) : LoopT C0 ap1B (ap1S acts a o ⟨[], []⟩ 0) (.exit 0) (ap1S acts a o (runT acts) acts.length) := by
  have L := LoopT.count (fun k => ap1S acts a o (runT (acts.take k)) k) acts.length (fun k hk => by
    obtain ⟨q1, q2⟩ := run_tok acts ha k (by omega) (by omega)
    have e := run_snoc acts k hk
    have hd := done_ok _ q1 (nth acts k) (ha _ (nth_mem hk))
    unfold doneR at hd
    simp only [e]
    exact ap1_step acts a o _ _ _ k hk hl hd) (ap1_end acts a o _) 0 (by omega)
  simp only [List.take_length] at L
  exact L
theorem apart_go (acts : List Act) (a : Act) (o : Int) (hl : acts.length ≤ 40) (h3 : ¬ a.op = 3) (ho : ¬ a.sel = o) (t t' : Tab) (s : List Send) (L1 : LoopT C0 ap1B (ap1S acts a o ⟨[], []⟩ 0) (.exit 0) (ap1S acts a o t acts.length)) (hd : Pu 12 [tabA t, tabR t, A (actL a)] (.tup [tabA t', tabR t', slS s, bl true])) (c0 w0 m0 : Int) (b : Bool) (hO : Pu 10 [tabA t, u32 o] (.tup [A [i64 c0, u32 w0, u32 m0], bl b])) (hO' : Pu 10 [tabA t', u32 o] (.tup [A [i64 c0, u32 w0, u32 m0], bl b])) (X Y : List Asked) (hX : Pu 14 [tabA t] (slE askL X)) (hY : Pu 14 [tabA t'] (slE askL Y)) (n : Nat) (L2 : LoopT C0 apB (apS o c0 w0 m0 b X Y 0 0) (.exit 2) (apS o c0 w0 m0 b X Y n Y.length)) (L3 : LoopT C0 ap4B (ap4S o c0 w0 m0 b X n) (.exit 6) (ap4S o c0 w0 m0 b X X.length)) : Pu 6 [slA acts, A (actL a), u32 o] (bl true) := by
  exact pure_cast (pure_of (hs := hint [((1,0), {call := some ((bl true))}), ((3,3), {val := some (bl (false))}), ((3,9), {val := some (bl (false))}), ((3,13), {val := some (bl (false))}), ((7,1000), {loop := some ({ ks := [0, 2, 4, 7, 8, 9], l := [0, 1, 2], mx := [1, 2] }, ap1S acts a o { c := [], q := [] : Tab } (0 : Nat), Ex.exit (0 : Nat), ap1S acts a o t acts.length)}), ((10,3), {call := some (AV.tup [(tabA t'), (tabR t'), (slS s), (bl true)])}), ((11,2), {call := some (AV.tup [(A [i64 c0, u32 w0, u32 m0]), (bl b)])}), ((12,2), {call := some (AV.tup [(A [i64 c0, u32 w0, u32 m0]), (bl b)])}), ((13,1), {call := some ((slE askL X))}), ((13,3), {call := some ((slE askL Y))}), ((16,1000), {loop := some ({ ks := [2, 14, 15, 16, 17, 18, 19, 20, 21], l := [5, 6] }, apS o c0 w0 m0 b X Y (0 : Nat) (0 : Nat), Ex.exit (2 : Nat), apS o c0 w0 m0 b X Y n Y.length)}), ((24,1000), {loop := some ({ ks := [2, 14, 15, 16, 17, 18, 20], l := [0, 1] }, ap4S o c0 w0 m0 b X n, Ex.exit (6 : Nat), ap4S o c0 w0 m0 b X X.length)}), ((28,3), {val := some (bl (true))})]) (r := bl (b == b)) (ps := [_, bl (decide ((↑acts.length : Int) > (40 : Int))) = bl (false), bl (a.sel == o) = bl (false), bl (a.op == (3 : Int)) = bl (false), ap1S acts a o { c := [], q := [] : Tab } (0 : Nat) = ap1S acts a o { c := [], q := [] : Tab } (0 : Nat), _, true = true, true = true, _, _, _, _, _, apS o c0 w0 m0 b X Y (0 : Nat) (0 : Nat) = apS o c0 w0 m0 b X Y (0 : Nat) (0 : Nat), _, true = true, true = true, true = true, ap4S o c0 w0 m0 b X n = ap4S o c0 w0 m0 b X n, _, true = true, true = true, true = true, bl (c0 == c0 && (w0 == w0 && (m0 == m0 && true))) = bl (true)]) (by kernel_rfl) ⟨(awake_ok), (bdF (by omega)), (beF (by assumption)), (beF (by assumption)), rfl, L1, rfl, rfl, (hd), (hO), (hO'), (hX), (hY), rfl, L2, rfl, rfl, rfl, rfl, L3, rfl, rfl, rfl, (bvT (by (simp; done))), trivial⟩) (by (simp; done))
theorem apart_ok (acts : List Act) (ha : ∀ a ∈ acts, AOk a) (a : Act) (ok : AOk a) (o : Int) (o0 : 0 ≤ o) (o1 : o ≤ 4294967295) : Pu 6 [slA acts, A (actL a), u32 o] (bl true) := by
  by_cases hl : acts.length ≤ 40
  · by_cases ho : a.sel = o
    · exact pure_of (hs := hint [((1,0), {call := some ((bl true))}), ((3,3), {val := some (bl (false))}), ((3,9), {val := some (bl (true))})]) (ps := [_, bl (decide ((↑acts.length : Int) > (40 : Int))) = bl (false), bl (a.sel == o) = bl (true)]) (by kernel_rfl) ⟨(awake_ok), (bdF (by omega)), (beT (by assumption)), trivial⟩
    · by_cases h3 : a.op = 3
      · exact pure_of (hs := hint [((1,0), {call := some ((bl true))}), ((3,3), {val := some (bl (false))}), ((3,9), {val := some (bl (false))}), ((3,13), {val := some (bl (true))})]) (ps := [_, bl (decide ((↑acts.length : Int) > (40 : Int))) = bl (false), bl (a.sel == o) = bl (false), bl (a.op == (3 : Int)) = bl (true)]) (by kernel_rfl) ⟨(awake_ok), (bdF (by omega)), (beF (by assumption)), (beT (by assumption)), trivial⟩
      · obtain ⟨q1, q2⟩ := run_tok acts ha acts.length (by omega) (by omega)
        rw [List.take_length] at q1 q2
        have L1 := ap1_all acts ha hl a o
        have hd := done_ok _ q1 a ok
        unfold doneR at hd
        have q3 := step_tok q1 (by omega) a ok
        have hO := owner_ok _ q1 o o0 o1
        have hO' := owner_ok _ q3 o o0 o1
        rw [step_find _ a o h3 ho] at hO'
        have hX := askL_nil _ q1
        have hY := askL_nil _ q3
        have hf := step_pend (runT acts) a o h3 ho
        have r1 := q1.room
        have r3 := q3.room
        have lx : ((runT acts).q.map (·.a)).length ≤ 1000 := by rw [List.length_map]; omega
        have ly : ((stepD (runT acts) a).1.q.map (·.a)).length ≤ 1000 := by rw [List.length_map]; omega
        obtain ⟨p1, p2⟩ := pt_inv o _ _ hf _ (Nat.le_refl _)
        rw [List.drop_length, List.filter_nil] at p1
        exact apart_go acts a o hl h3 ho _ _ _ L1 hd _ _ _ _ hO hO' _ _ hX hY _ (ap_all o _ _ _ _ _ _ lx ly hf) (ap4_all o _ _ _ _ _ _ p2 lx p1)
  · exact pure_of (hs := hint [((1,0), {call := some ((bl true))}), ((3,3), {val := some (bl (true))})]) (ps := [_, bl (decide ((↑acts.length : Int) > (40 : Int))) = bl (true)]) (by kernel_rfl) ⟨(awake_ok), (bdT (by omega)), trivial⟩
end Go.Proofs.Ythniagmdnogpdaa
