/- The machine of plain values: every operation that only reads or makes. By the prover of this seat. -/
import Derived.Test.YtjjmidhpilmnbaaDoorPm11
set_option linter.unusedVariables false
namespace Go.Pm
open Go Go.RowKit
theorem List.length_replZ (n : Nat) (z : List AV) : (replZ n z).length = n * z.length := by
  unfold replZ
  induction n with
  | zero => simp
  | succ n ih => simp [List.replicate_succ, ih, Nat.add_mul]; omega
section
variable {P : Program} {w0 W : World} {ρ : Nm} {M : Mem} {H : List Bk}
/-- a statement's value, and the memory behind it -/
def Good (P : Program) (w0 : World) (ρ : Nm) (M : Mem) (H : List Bk) (W : World) (s : Sem Next) (v : AV) (w : Ws) : Prop :=
  ∃ n u W' ρ', s.run P W = .ok n W' ∧ (n = .value u ∨ n = .skip ∧ u = undef) ∧ ρ.le ρ' ∧ WR w0 ρ' M (putW H w) W' ∧ VR M ρ' v u ∧ ∀ i x, ρ' i = some x → ρ i = some x ∨ i ∈ w.map (·.1)
theorem Good.same {s : Sem Value} {v : AV} (hw : WR w0 ρ M H W) (h : ∃ y, s.run P W = .ok y W ∧ VR M ρ v y) : Good P w0 ρ M H W (do pure (.value (← s))) v [] := by
  obtain ⟨y, h1, h2⟩ := h
  exact ⟨_, y, W, ρ, by simp only [Sem.run_bind, h1, Result.andThen_ok, Sem.run_pure], .inl rfl, Nm.le.refl _, hw, h2, fun i x h => .inl h⟩
theorem Good.val {s : Sem Value} {v : AV} {w : Ws} (h : ∃ y W' ρ', s.run P W = .ok y W' ∧ ρ.le ρ' ∧ WR w0 ρ' M (putW H w) W' ∧ VR M ρ' v y ∧ ∀ i x, ρ' i = some x → ρ i = some x ∨ i ∈ w.map (·.1)) : Good P w0 ρ M H W (do pure (.value (← s))) v w := by
  obtain ⟨y, W', ρ', h1, h2, h3, h4, h5⟩ := h
  exact ⟨_, y, W', ρ', by simp only [Sem.run_bind, h1, Result.andThen_ok, Sem.run_pure], .inl rfl, h2, h3, h4, h5⟩
/-- a new row of cells, and a value that points to it -/
theorem good_row (hw : WR w0 ρ M H W) {nid : Nat} (hn : ρ nid = none) (T : TypeId) {cs : List AV} {vs us : List Value} (hc : L2 (VR M ρ) cs vs) (h1 : ∀ v ∈ vs, v.oneCell' = true) {L : Nat} (hL : L = cs.length) {v : AV} {y : Value} (hv : VR M (ρ.upd nid (W.heap.size, (vs ++ us).length)) v y) {s : Sem Value}
    (hs : s.run P W = .ok y (W.alloc (.cells (vs ++ us).toArray T))) : Good P w0 ρ M H W (do pure (.value (← s))) v (newsW nid [.arr L cs 0]) := by
  subst hL
  refine .val ⟨y, _, _, hs, Nm.le_upd _ hn, hw.putRow hn T hc h1, hv, fun i x hi => ?_⟩
  by_cases e1 : i = nid
  · right; subst e1; simp [newsW]
  · left; rwa [Nm.upd_ne _ _ e1] at hi
theorem zero_cells_list {z : List AV} {vs : List Value} (hz : L2 (VR M ρ) z vs) (h0 : 0 < vs.length) (n m : Nat) (hnm : n ≤ m) : ∃ a b : List Value, (madeCells vs.toArray (m * vs.length)).toList = a ++ b ∧ L2 (VR M ρ) (replZ n z) a ∧ ((∀ v ∈ vs, v.oneCell' = true) → ∀ v ∈ a, v.oneCell' = true) := by
  have key : ∀ k, (madeCells vs.toArray (k * vs.length)).toList = (List.replicate k vs).flatten := by
    intro k
    apply List.ext_getElem?
    intro i
    induction k generalizing i with
    | zero => simp [madeCells]
    | succ k ih =>
      rw [List.replicate_succ, List.flatten_cons, List.getElem?_append]
      simp only [madeCells, Array.toList_map, Array.toList_range, List.getElem?_map] at ih ⊢
      by_cases hi : i < vs.length
      · rw [if_pos hi, List.getElem?_range (by rw [Nat.add_mul]; omega)]
        simp [Nat.mod_eq_of_lt hi, hi]
      · rw [if_neg hi, ← ih]
        by_cases h2 : i < (k + 1) * vs.length
        · rw [List.getElem?_range h2, List.getElem?_range (by rw [Nat.add_mul] at h2; omega)]
          simp only [Option.map_some, List.size_toArray]
          rw [Nat.mod_eq_sub_mod (by omega)]
        · rw [List.getElem?_eq_none (by simpa using h2), List.getElem?_eq_none (by simp; rw [Nat.add_mul] at h2; omega)]
  refine ⟨(List.replicate n vs).flatten, (List.replicate (m - n) vs).flatten, ?_, ?_, ?_⟩
  · rw [key, ← List.flatten_append, List.replicate_append_replicate]
    congr 2; omega
  · clear hnm
    induction n with
    | zero => exact L2.nil
    | succ n ih =>
      simp only [replZ, List.replicate_succ, List.flatten_cons]
      exact hz.append ih
  · intro h v hv
    simp only [List.mem_flatten, List.mem_replicate] at hv
    obtain ⟨l, ⟨_, rfl⟩, hv⟩ := hv
    exact h v hv
theorem eq_zip {α β : Type} {l : List α} {f : α → β} {i : Nat} {p : α} (h : l[i]? = some p) : (l.map f)[i]? = some (f p) := by simp [h]
/-- the values of a list of operands -/
theorem vals_ok {e : Operand → AV} {a : Act} {xs : List Operand} (he : ∀ x ∈ xs, VR M ρ (e x) (a.eval x)) : L2 (VR M ρ) (xs.map e) (xs.map a.eval) := L2.map xs e a.eval he
theorem parts_ok {e : Operand → AV} {a : Act} {ps : List (Nat × Operand)} (he : ∀ x ∈ ps.map (·.2), VR M ρ (e x) (a.eval x)) :
    ∀ (i : Nat) p q, (ps.map fun p => (p.1, e p.2))[i]? = some p → (ps.map fun p => (p.1, a.eval p.2))[i]? = some q → p.1 = q.1 ∧ VR M ρ p.2 q.2 := by
  intro i p q hp hq
  simp only [List.getElem?_map] at hp hq
  cases h : ps[i]? with
  | none => simp [h] at hp
  | some r =>
    simp [h] at hp hq
    subst hp hq
    exact ⟨rfl, he _ (List.mem_map.2 ⟨r, List.mem_of_getElem? h, rfl⟩)⟩
theorem ok_build {C : Cx} {t : TypeId} {ps : List (Nat × AV)} {qs : List (Nat × Value)} {v : AV} {news : List Bk} {bs : List Bool} {pp : List Prop} (hr : rdBuild C t ps = some (v, news, bs, pp)) (hl : ps.length = qs.length)
    (hq : ∀ (i : Nat) p q, ps[i]? = some p → qs[i]? = some q → p.1 = q.1 ∧ VR M ρ p.2 q.2) : news = [] ∧ ∃ y, (Instr.build t qs.toArray).run C.P W = .ok y W ∧ VR M ρ v y := by
  unfold rdBuild at hr
  split at hr
  · rename_i z fs hz hfs
    split at hr
    · rename_i pl hpl
      simp only [Option.map_eq_some_iff] at hr
      obtain ⟨cs, h1, h2⟩ := hr
      cases h2
      obtain ⟨zv, z1, z2, z3, _⟩ := run_zeroA hz W
      have hm := placesOf_ok hpl W
      obtain ⟨us, f1, f2, f3⟩ := fill_ok (M := M) (ρ := ρ) (pl := fun i => pl[i]?) (pl' := fun i => pl.toArray[i]?) (by intro i; simp) ps qs z cs zv.cells.toList h1 (z2 M ρ) z3 hl hq
      simp only [Array.toArray_toList] at f1
      refine ⟨rfl, .agg us.toArray, ?_, .mkAgg f2 f3⟩
      have hm2 : (fs.mapM fun f => (do pure (f.offset, ← sizeOf f.type) : Sem (Nat × Nat))).run C.P W = .ok pl.toArray W := by
        rw [← Array.toArray_toList (xs := fs), List.mapM_toArray]
        rw [← bind_pure_comp]
        simp only [Sem.run_bind, hm, Result.andThen_ok, Sem.run_pure, Function.comp]
      simp only [Instr.build, Sem.run_bind, z1, Result.andThen_ok, run_underlying hfs, hm2, f1]
      simp
    · cases hr
  · rename_i z el n hz hfs
    split at hr
    · rename_i sz hs
      simp only [Option.map_eq_some_iff] at hr
      obtain ⟨cs, h1, h2⟩ := hr
      cases h2
      obtain ⟨zv, z1, z2, z3, _⟩ := run_zeroA hz W
      obtain ⟨us, f1, f2, f3⟩ := fill_ok (M := M) (ρ := ρ) (pl := fun i => some (i * sz, sz)) (pl' := fun i => some (i * sz, sz)) (by intro i; rfl) ps qs z cs zv.cells.toList h1 (z2 M ρ) z3 hl hq
      simp only [Array.toArray_toList] at f1
      refine ⟨rfl, .agg us.toArray, ?_, .mkAgg f2 f3⟩
      simp only [Instr.build, Sem.run_bind, z1, Result.andThen_ok, run_underlying hfs, run_szOf hs, f1]
      simp
    · cases hr
  · cases hr
end
end Go.Pm
