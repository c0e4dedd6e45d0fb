/- maps.DeleteFunc as a law of the machine of plain values: the bridge. By the prover of this seat. -/
import Derived.Test.YtfalaahbacdbjaaPc
set_option linter.unusedVariables false
set_option linter.unusedSimpArgs false
namespace Go.Proofs.Ytfalaahbacdbjaa
open Go.RowKit Go.Maps Go.Pm
open Go.WideElems (Fit rd rg rd_key rd_val rg_of rd_mk)
def RI (v : Value) : Option (DataW Unit × List MemPlace) := match v with
  | .int .i64 n => some (.lit (.int .i64 n), [])
  | _ => none
theorem RI_int (n : Int) : RI (.int .i64 n) = some (.lit (.int .i64 n), []) := rfl
theorem RI_inv {v : Value} {yd : DataW Unit} {yp : List MemPlace} (h : RI v = some (yd, yp)) : ∃ n, v = .int .i64 n ∧ yd = .lit (.int .i64 n) := by
  unfold RI at h
  split at h
  · rename_i n
    cases h
    exact ⟨n, rfl, rfl⟩
  · cases h
/-- keys of a kind, as plain values and as the model's -/
structure KeyS (P : Program) (kt : TypeId) {α : Type} (mk : α → Value) (ka : α → AV) : Prop where
  vr : ∀ M ρ x, VR M ρ (ka x) (mk x)
  vo : ∀ x, Go.Pm.valOf (ka x) = some (mk x)
  inv : ∀ key kl, keyOf P kt key = some kl → ∃ x, key = mk x ∧ kwf P kt (ka x) = true
  inj : ∀ x y, mk x = mk y → x = y
section
variable {P : Program} {kt : TypeId} {α : Type} {mk : α → Value} {ka : α → AV}
open Classical in
/-- what is struck, by what the kit reads -/
noncomputable def pdD (P : Program) (kt : TypeId) (mk : α → Value) (del : α → Int → Bool) (kl : Lit) (yd : DataW Unit) : Bool :=
  decide (∃ x n, keyOf P kt (mk x) = some kl ∧ yd = .lit (.int .i64 n) ∧ del x n = true)
open Classical in
theorem pdD_eq (S : KeyS P kt mk ka) (K : Keyed P kt) (del : α → Int → Bool) {x : α} {n : Int} {kl : Lit} (h : keyOf P kt (mk x) = some kl) : pdD P kt mk del kl (.lit (.int .i64 n)) = del x n := by
  unfold pdD
  by_cases hd : del x n = true
  · rw [hd]; exact decide_eq_true ⟨x, n, h, rfl, hd⟩
  · rw [show del x n = false by simpa using hd]
    refine decide_eq_false ?_
    rintro ⟨x', n', h1, h2, h3⟩
    obtain rfl := S.inj _ _ (K.inj h1 h)
    injection h2 with h2
    injection h2 with _ h2
    subst h2
    exact hd h3
/-- two lists with one image have another one too, if the first tells the second -/
theorem map_agree {β γ δ : Type} {f : β → γ} {g : β → δ} : ∀ {a b : List β}, (∀ x ∈ a, ∀ y ∈ b, f x = f y → g x = g y) → a.map f = b.map f → a.map g = b.map g
  | [], [], _, _ => rfl
  | [], _ :: _, _, h => by cases h
  | _ :: _, [], _, h => by cases h
  | x :: a, y :: b, h, e => by
    rw [List.map_cons, List.map_cons] at e
    injection e with e1 e2
    rw [List.map_cons, List.map_cons, h x (by simp) y (by simp) e1, map_agree (fun u hu v hv => h u (by simp [hu]) v (by simp [hv])) e2]
def rowV (mk : α → Value) (p : α × Int) : Value × Value := (mk p.1, .int .i64 p.2)
def rowA (ka : α → AV) (p : α × Int) : AV × AV := (ka p.1, .s (.int .i64 p.2))
theorem erel_row (S : KeyS P kt mk ka) (M : Mem) (ρ : Nm) (l : List (α × Int)) : ERel M ρ (l.map (rowA ka)) (l.map (rowV mk)) := by
  refine ⟨by simp, fun i c v h1 h2 => ?_, fun i c v h1 h2 => ?_⟩
  · rw [List.getElem?_map, Option.map_eq_some_iff] at h1 h2
    obtain ⟨p, e1, rfl⟩ := h1
    obtain ⟨q, e2, rfl⟩ := h2
    rw [e1] at e2
    cases e2
    exact S.vr M ρ p.1
  · rw [List.getElem?_map, Option.map_eq_some_iff] at h1 h2
    obtain ⟨p, e1, rfl⟩ := h1
    obtain ⟨q, e2, rfl⟩ := h2
    rw [e1] at e2
    cases e2
    exact .s _ _
theorem erel_inv (S : KeyS P kt mk ka) {M : Mem} {ρ : Nm} {l : List (α × Int)} {pq : List (Value × Value)} (h : ERel M ρ (l.map (rowA ka)) pq) : pq = l.map (rowV mk) := by
  have hlen : l.length = pq.length := by have := h.len; simpa using this
  refine List.ext_getElem? fun i => ?_
  by_cases hi : i < l.length
  · have h1 : (l.map (rowA ka))[i]? = some (rowA ka l[i]) := by simp [hi]
    have h2 : pq[i]? = some (pq[i]'(by omega)) := List.getElem?_eq_getElem (by omega)
    have a1 := Go.Pm.valOf_ok (h.k i _ _ h1 h2) (S.vo _)
    have a2 := (h.v i _ _ h1 h2).inv_s
    rw [h2, List.getElem?_map, List.getElem?_eq_getElem hi]
    simp only [Option.map_some, rowV]
    rw [← a1, ← a2]
  · rw [List.getElem?_eq_none (by omega), List.getElem?_eq_none (by simp; omega)]
end
end Go.Proofs.Ytfalaahbacdbjaa
