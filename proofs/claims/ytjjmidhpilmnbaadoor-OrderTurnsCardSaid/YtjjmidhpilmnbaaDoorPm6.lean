/- The machine of plain values: numbers, comparisons. By the prover of this seat. -/
import Derived.Test.YtjjmidhpilmnbaaDoorPm5
set_option linter.unusedVariables false
namespace Go.Pm
open Go Go.RowKit
section
variable {P : Program} {w0 W : World} {ρ : Nm} {M : Mem} {H : List Bk}
theorem part_flat {cs : List Value} {i : Nat} {v : Value} {t : TypeId} {d : TypeDesc} {a : Value} (ht : P.underlying t = some d) (hp : kindOk d a = true) (hv : cs[i]? = some v) : (part t cs.toArray i).run P W = .ok v W := by
  cases d <;> cases a <;> simp [kindOk] at hp <;> simp [part, isAgg, run_underlying ht, hv]
/-- two cells of a plain type -/
theorem eqS_ok {t : TypeId} {d : TypeDesc} (ht : P.underlying t = some d) (n : Nat) {a b : Value} {r : Bool} (h : eqS a b = some r) (hd : kindOk d a = true) : (Op.equalIn (n + 1) t a b).run P W = .ok r W := by
  cases a <;> cases b <;> simp [eqS] at h <;> cases d <;> simp [kindOk] at hd
  · subst h; rw [run_equalIn_bool' W n t _ _ ht]
  · obtain ⟨rfl, rfl⟩ := h; rw [run_equalIn_int W n t _ _ _ _ ht]
  · subst h; rw [run_equalIn_string W n t _ _ ht]
theorem eqF_cons {f : Field} {fs : List Field} {i : Nat} {xs ys : List AV} {r : Bool} (h : eqF P (f :: fs) i xs ys = some r) :
    ∃ a b xs' ys' d p q, xs = .s a :: xs' ∧ ys = .s b :: ys' ∧ P.underlying f.type = some d ∧ f.name ≠ "_" ∧ f.offset = i ∧ kindOk d a = true ∧ eqS a b = some p ∧ eqF P fs (i + 1) xs' ys' = some q ∧ r = (p && q) := by
  cases xs with
  | nil => simp [eqF] at h
  | cons x xs =>
    cases ys with
    | nil => cases x <;> simp [eqF] at h
    | cons y ys =>
      cases x <;> cases y <;> first | (simp [eqF] at h; done) | skip
      rename_i a b
      simp only [eqF] at h
      split at h
      · rename_i d hd
        split at h
        · rename_i hc
          split at h
          · rename_i p q hp hq
            cases h
            exact ⟨a, b, xs, ys, d, p, q, rfl, rfl, hd, hc.1, hc.2.1, hc.2.2, hp, hq, rfl⟩
          · cases h
        · cases h
      · cases h
theorem eqF_ok (n : Nat) (X Y : List Value) : ∀ (fs : List Field) (i : Nat) (xs ys : List AV) (r : Bool), eqF P fs i xs ys = some r → L2 (VR M ρ) xs (X.drop i) → L2 (VR M ρ) ys (Y.drop i) →
    (Op.eqFields (n + 1) X.toArray Y.toArray fs).run P W = .ok r W := by
  intro fs
  induction fs with
  | nil =>
    intro i xs ys r h _ _
    cases xs <;> cases ys <;> simp [eqF] at h
    subst h
    simp [Op.eqFields]
  | cons f fs ih =>
    intro i xs0 ys0 r h hx hy
    obtain ⟨a, b, xs, ys, d, p, q, rfl, rfl, hd, h4, rfl, h6, hp, hq, rfl⟩ := eqF_cons h
    obtain ⟨v, X', e1, r1, t1⟩ := hx.inv_cons
    obtain ⟨u, Y', e2, r2, t2⟩ := hy.inv_cons
    obtain rfl := r1.inv_s
    obtain rfl := r2.inv_s
    have g1 : X[f.offset]? = some v := by
      have : (X.drop f.offset)[0]? = some v := by rw [e1]; rfl
      simpa using this
    have g2 : Y[f.offset]? = some u := by
      have : (Y.drop f.offset)[0]? = some u := by rw [e2]; rfl
      simpa using this
    have d1 : X.drop (f.offset + 1) = X' := by rw [← List.drop_drop, e1]; rfl
    have d2 : Y.drop (f.offset + 1) = Y' := by rw [← List.drop_drop, e2]; rfl
    have hi := ih (f.offset + 1) xs ys q hq (d1 ▸ t1) (d2 ▸ t2)
    have hu : kindOk d u = true := by
      cases v <;> cases u <;> simp [eqS] at hp <;> cases d <;> simp_all [kindOk]
    simp only [Op.eqFields, ne_eq, h4, not_false_eq_true, if_true, Sem.run_bind, part_flat hd h6 g1, part_flat hd hu g2, Result.andThen_ok, eqS_ok hd n hp h6]
    cases p
    · simp
    · simp [hi]
theorem eqAgg_ok {C : Cx} {op : BinOp} {t : TypeId} {x y : Operand} {xs ys : List AV} {b : Bool} (h : eqAgg P t xs ys = some b) {X Y : List Value} (hx : L2 (VR M ρ) xs X) (hy : L2 (VR M ρ) ys Y) :
    (eqGuard op t x y (.agg X.toArray) (.agg Y.toArray)).run P W = .ok () W ∧ (Op.equalIn 10000 t (.agg X.toArray) (.agg Y.toArray)).run P W = .ok b W := by
  unfold eqAgg at h
  split at h
  · rename_i fs hfs
    split at h
    · rename_i hc
      have hf : P.fieldsOf t = fs := by simp [Program.fieldsOf, hfs]
      refine ⟨run_eqGuard_agg W op t x y _ _ hc.2, ?_⟩
      rw [run_equalIn_struct W 9999 t _ _ (by rw [hf]; exact hfs) hc.1, hf]
      exact eqF_ok 9998 X Y fs.toList 0 xs ys b h (by simpa using hx) (by simpa using hy)
    · cases h
  · cases h
end
end Go.Pm
