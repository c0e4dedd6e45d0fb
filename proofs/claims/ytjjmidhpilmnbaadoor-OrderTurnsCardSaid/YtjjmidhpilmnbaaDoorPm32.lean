/- The machine of plain values: a table of literals fixes its cells. By the prover of this seat. -/
import Derived.Test.YtjjmidhpilmnbaaDoorPm31
import Derived.Lib.LaidTab
set_option linter.unusedVariables false
namespace Go.Pm
open Go Go.RowKit
/-- a row of equal structs of whole numbers, as a datum -/
def rowsD {H : Type} (rows : List (List (IntKind × Int))) : DataW H := .agg (rows.map fun r => .agg (r.map fun p => .lit (.int p.1 p.2)))
section
variable {P : Program} {W : World} {H : Type} {enc : TypeId × Value → H} {spare : Nat → Bool} {held : Bool}
/-- one struct of whole numbers -/
theorem row_open {fuel base : Nat} {t : TypeId} {fs : Array Field} {cs : List Value} {r : List (IntKind × Int)} {p : List MemPlace} (ht : P.underlying t = some (.struct fs)) (hn : fs.size = r.length) (hc : P.cellsOf t = r.length)
    (hf : ∀ (i : Nat) f, fs[i]? = some f → f.offset = i ∧ P.cellsOf f.type = 1 ∧ ∃ k, P.underlying f.type = some (.int k)) (h : DataW.trod enc P W base spare held fuel t cs = some (.agg (r.map fun p => .lit (.int p.1 p.2)), p)) :
    cs = r.map fun p => Value.int p.1 p.2 := by
  obtain ⟨xs, n, _, hx, hl, hxl, hall⟩ := DataW.trod_struct ht h
  rw [hc] at hl
  have hd : xs.map (·.1) = r.map fun p => DataW.lit (.int p.1 p.2) := by
    have := congrArg Prod.fst hx
    simpa using this.symm
  apply List.ext_getElem?
  intro i
  by_cases hi : i < r.length
  · have hfi : i < fs.size := by omega
    obtain ⟨ho, h1, k, hk⟩ := hf i fs[i] (Array.getElem?_eq_getElem hfi)
    have hg := hall i fs[i] (Array.getElem?_eq_getElem hfi)
    rw [ho, h1, List.getElem?_eq_getElem (by omega)] at hg
    obtain ⟨z, hz, hzx, _⟩ := DataW.trod_int hk hg
    have hdi := congrArg (fun l => l[i]?) hd
    simp only [List.getElem?_map, List.getElem?_eq_getElem (show i < xs.length by omega), List.getElem?_eq_getElem hi, Option.map_some, Option.some.injEq] at hdi
    rw [hzx] at hdi
    simp only [DataW.lit.injEq, Lit.int.injEq] at hdi
    have hci : (cs.drop i).take 1 = [cs[i]'(by omega)] := by rw [List.drop_eq_getElem_cons (by omega)]; rfl
    rw [hci] at hz
    simp only [List.cons.injEq, and_true] at hz
    rw [List.getElem?_eq_getElem (by omega), List.getElem?_map, List.getElem?_eq_getElem hi, hz]
    simp [hdi.1, hdi.2]
  · rw [List.getElem?_eq_none (by omega), List.getElem?_eq_none (by simp; omega)]
theorem flat_open {α : Type} {cs : List Value} {sz : Nat} (f : α → List Value) : ∀ (rs : List α) (off : Nat), (∀ (i : Nat) r, rs[i]? = some r → (cs.drop ((off + i) * sz)).take sz = f r) → cs.length = (off + rs.length) * sz → cs.drop (off * sz) = rs.flatMap f := by
  intro rs
  induction rs with
  | nil => intro off _ hl; simp at hl; rw [List.drop_of_length_le (by omega)]; rfl
  | cons r rs ih =>
    intro off h hl
    have h0 := h 0 r rfl
    have h1 := ih (off + 1) (fun i r hi => by rw [show off + 1 + i = off + (i + 1) by omega]; exact h (i + 1) r (by simpa using hi)) (by rw [hl, List.length_cons]; congr 1; omega)
    rw [List.flatMap_cons, ← h1, ← h0, Nat.add_zero, Nat.add_mul, Nat.one_mul, ← List.drop_drop, List.take_append_drop]
/-- rows of structs of whole numbers -/
theorem rows_open {fuel base : Nat} {t e : TypeId} {fs : Array Field} {cs : List Value} {rows : List (List (IntKind × Int))} {sz : Nat} {p : List MemPlace} (ht : P.underlying t = some (.array rows.length e)) (he : P.underlying e = some (.struct fs)) (hce : P.cellsOf e = sz)
    (hct : P.cellsOf t = rows.length * sz) (hrow : ∀ r ∈ rows, r.length = sz) (hsz : fs.size = sz) (hf : ∀ (i : Nat) f, fs[i]? = some f → f.offset = i ∧ P.cellsOf f.type = 1 ∧ ∃ k, P.underlying f.type = some (.int k))
    (h : DataW.trod enc P W base spare held fuel t cs = some (rowsD rows, p)) : cs = rows.flatMap fun r => r.map fun p => Value.int p.1 p.2 := by
  obtain ⟨xs, n, _, hx, hl, hxl, hall⟩ := DataW.trod_array ht h
  have hd : xs.map (·.1) = rows.map fun r => DataW.agg (r.map fun p => .lit (.int p.1 p.2)) := by
    have := congrArg Prod.fst hx
    simpa [rowsD] using this.symm
  have key := flat_open (cs := cs) (sz := sz) (fun r : List (IntKind × Int) => r.map fun p => Value.int p.1 p.2) rows 0 (fun i r hi => by
    have hlt : i < rows.length := (List.getElem?_eq_some_iff.1 hi).1
    have hg := hall i hlt
    rw [hce, List.getElem?_eq_getElem (by omega)] at hg
    have hdi := congrArg (fun l => l[i]?) hd
    simp only [List.getElem?_map, List.getElem?_eq_getElem (show i < xs.length by omega), hi, Option.map_some, Option.some.injEq] at hdi
    have hxi : xs[i]'(by omega) = (DataW.agg (r.map fun p => .lit (.int p.1 p.2)), (xs[i]'(by omega)).2) := Prod.ext hdi rfl
    rw [hxi] at hg
    have hr := hrow r (List.mem_of_getElem? hi)
    rw [Nat.zero_add]
    exact row_open he (by omega) (by omega) hf hg) (by rw [hl, hct]; simp)
  simpa using key
end
end Go.Pm
