/- What the row's list gives: the cells of both tables; what comes in. By the prover of this seat. -/
import Derived.Test.YtjgjcpbkmeillaaDoorTo
set_option linter.unusedVariables false
set_option maxRecDepth 100000
namespace Go.Proofs.YtjgjcpbkmeillaaDoor
open Go.RowKit Go.Pm
section
variable {P : Program} {W : World} {H : Type} {enc : TypeId × Value → H} {spare : Nat → Bool} {held : Bool}
/-- an array of whole numbers -/
theorem ints_open {fuel base : Nat} {t e : TypeId} {k : IntKind} {cs : List Value} {ns : List Int} {p : List MemPlace} (ht : P.underlying t = some (.array ns.length e)) (he : P.underlying e = some (.int k)) (hce : P.cellsOf e = 1) (hct : P.cellsOf t = ns.length)
    (h : DataW.trod enc P W base spare held fuel t cs = some (.agg (ns.map fun n => .lit (.int k n)), p)) : cs = ns.map (Value.int k) := by
  obtain ⟨xs, n, _, hx, hl, hxl, hall⟩ := DataW.trod_array ht h
  have hd : xs.map (·.1) = ns.map fun n => DataW.lit (.int k n) := by
    have := congrArg Prod.fst hx
    simpa using this.symm
  rw [hct] at hl
  apply List.ext_getElem?
  intro i
  by_cases hi : i < ns.length
  · have hg := hall i hi
    rw [hce, List.getElem?_eq_getElem (by omega)] at hg
    obtain ⟨z, hz, hzx, _⟩ := DataW.trod_int he hg
    have hdi := congrArg (fun l => l[i]?) hd
    simp only [List.getElem?_map, List.getElem?_eq_getElem (show i < xs.length by omega), List.getElem?_eq_getElem hi, Option.map_some, Option.some.injEq] at hdi
    rw [hzx] at hdi
    simp only [DataW.lit.injEq, Lit.int.injEq] at hdi
    have hci : (cs.drop (i * 1)).take 1 = [cs[i]'(by omega)] := by rw [Nat.mul_one, List.drop_eq_getElem_cons (by omega)]; rfl
    rw [hci] at hz
    simp only [List.cons.injEq, and_true] at hz
    rw [List.getElem?_eq_getElem (by omega), List.getElem?_map, List.getElem?_eq_getElem hi, hz]
    simp [hdi.2]
  · rw [List.getElem?_eq_none (by omega), List.getElem?_eq_none (by simp; omega)]
end
def spansRows : List (List (IntKind × Int)) := table.map fun s => [(.i64, s.size), (.i64, s.low), (.i64, s.high)]
def vsC : List Value := spansRows.flatMap fun r => r.map fun p => Value.int p.1 p.2
def sizesN : List Int := [1, 2, 4, -1, -2, -4]
def szC : List Value := sizesN.map (Value.int .i64)
def layC (vs : List Value) : Obj → Obj
  | .cells _ t frozen => .cells vs.toArray t frozen
  | o => o
def lay2 (h : Array Obj) : Array Obj := (h.modify 0 (layC szC)).modify 1 (layC vsC)
theorem spans_vs : spansC = vsC.map AV.s := rfl
theorem sizes_vs : sizesC = szC.map AV.s := rfl
theorem cells_ptr {W : World} {nm : String} {g : Nat} {cs : Array Value} {vs : List Value} (hn : Tryd.prog.globalNamed nm = some g) (hvar : W.var? Tryd.prog nm = some cs) (hc : cs.toList = vs) (hone : ∀ u ∈ vs, u.oneCell' = true) {cl : List AV} (he : cl = vs.map AV.s) :
    VR (memOf W) Nm.none (.fptr cl) (.pointer (some ⟨g, 0, none⟩)) := by
  have hcell : ∀ (i : Nat) c, cl[i]? = some c → ∃ v, vs[i]? = some v ∧ c = .s v := by
    intro i c hi
    rw [he, List.getElem?_map, Option.map_eq_some_iff] at hi
    obtain ⟨v, h1, rfl⟩ := hi
    exact ⟨v, h1, rfl⟩
  refine .fptr (fun i => vs.getD i undef) (fun i c hi => ?_) (fun i c hi => ?_)
  · obtain ⟨v, h1, rfl⟩ := hcell i c hi
    have hw := World.var?_cell hn hvar i
    rw [← Array.getElem?_toList, hc, h1] at hw
    rw [Nat.zero_add, List.getD_eq_getElem?_getD, h1]
    exact memOf_cell hw (hone v (List.mem_of_getElem? h1))
  · obtain ⟨v, h1, rfl⟩ := hcell i c hi
    rw [List.getD_eq_getElem?_getD, h1]
    exact .s _ _
theorem glob_ok {W : World} (h : laidMet Tryd.prog [("glazier/order.spans", rowsD spansRows), ("glazier/format.sizes", .agg (sizesN.map fun n => .lit (.int .i64 n)))] W) : GlobR G1 (memOf W) := by
  obtain ⟨ps, hv, _⟩ := h
  obtain ⟨g', t', cs, fuel, p, q, hg', ht', hvar, hd, hrest, _⟩ := hv
  obtain ⟨g2, t2, cs2, fuel2, p2, q2, hg2, ht2, hvar2, hd2, _, _⟩ := hrest
  obtain rfl : g' = 1 := (Option.some.inj ((show Tryd.prog.globalNamed "glazier/order.spans" = some 1 by kernel_rfl).symm.trans hg')).symm
  obtain rfl : g2 = 0 := (Option.some.inj ((show Tryd.prog.globalNamed "glazier/format.sizes" = some 0 by kernel_rfl).symm.trans hg2)).symm
  obtain rfl : t' = 94 := (Option.some.inj ((show (Tryd.prog.globals[1]?).map (·.type) = some 94 by kernel_rfl).symm.trans ht')).symm
  obtain rfl : t2 = 92 := (Option.some.inj ((show (Tryd.prog.globals[0]?).map (·.type) = some 92 by kernel_rfl).symm.trans ht2)).symm
  obtain ⟨fs, hfs, hsz⟩ : ∃ fs, Tryd.prog.underlying 86 = some (.struct fs) ∧ (fs.size = 3 ∧ ∀ (i : Nat) f, fs[i]? = some f → f.offset = i ∧ Tryd.prog.cellsOf f.type = 1 ∧ ∃ k, Tryd.prog.underlying f.type = some (.int k)) := by
    refine ⟨_, Tryd.underlying86, rfl, fun i f hi => ?_⟩
    have hlt := (Array.getElem?_eq_some_iff.1 hi).1
    match i, hlt, hi with
    | 0, _, hi => cases hi; exact ⟨rfl, by kernel_rfl, _, Tryd.underlying3⟩
    | 1, _, hi => cases hi; exact ⟨rfl, by kernel_rfl, _, Tryd.underlying2⟩
    | 2, _, hi => cases hi; exact ⟨rfl, by kernel_rfl, _, Tryd.underlying2⟩
  have hc : cs.toList = vsC := rows_open (rows := spansRows) (sz := 3) Tryd.underlying94 hfs (by kernel_rfl) (by kernel_rfl) (by decide) hsz.1 hsz.2 hd
  have hc2 : cs2.toList = szC := ints_open (ns := sizesN) Tryd.underlying92 Tryd.underlying3 (by kernel_rfl) (by kernel_rfl) hd2
  intro g cs' hG
  unfold G1 at hG
  split at hG
  · rename_i e
    subst e
    cases hG
    exact cells_ptr (by kernel_rfl) hvar2 hc2 (by decide) sizes_vs
  · split at hG
    · rename_i e
      subst e
      cases hG
      exact cells_ptr (by kernel_rfl) hvar hc (by decide) spans_vs
    · cases hG
theorem fits_nums {cs : List AV} (h : Fits (.sl (.int .i64)) cs) : ∃ l : List Int, cs = [slJ l] := by
  obtain ⟨l, h1, _, _⟩ := fits_list (enc := eJ) (Q := fun _ => True) (fun cs hc => by obtain ⟨n, rfl, _⟩ := hc; exact ⟨n, rfl, trivial⟩) h
  exact ⟨l, h1⟩
theorem fits_form {cs : List AV} (h : Fits (.seq (.sl (.int .i64)) (.seq .bool (.seq (.int .i64) .unit))) cs) : ∃ f : Fm, cs = fmC f := by
  obtain ⟨x, y, rfl, h1, x2, y2, rfl, ⟨b, rfl⟩, x3, y3, rfl, ⟨n, rfl, _⟩, rfl⟩ := h
  obtain ⟨l, rfl⟩ := fits_nums h1
  exact ⟨⟨l, b, n⟩, rfl⟩
theorem fits_fields {cs : List AV} (h : Fits (.seq (.sl (.int .i64)) (.seq .str (.seq (.sl (.int .i64)) .unit))) cs) : ∃ x : Fl, cs = flC x := by
  obtain ⟨x, y, rfl, h1, x2, y2, rfl, ⟨b, rfl, _⟩, x3, y3, rfl, h3, rfl⟩ := h
  obtain ⟨l, rfl⟩ := fits_nums h1
  obtain ⟨m, rfl⟩ := fits_nums h3
  exact ⟨⟨l, b, m⟩, rfl⟩
theorem bds16 {n : Int} (hw : (Lit.int .u16 n).wf = true) : 0 ≤ n ∧ n < 65536 := by
  simp [Lit.wf, IntKind.min, IntKind.max, IntKind.signed, IntKind.bits] at hw; omega
theorem bds8 {n : Int} (hw : (Lit.int .u8 n).wf = true) : 0 ≤ n ∧ n < 256 := by
  simp [Lit.wf, IntKind.min, IntKind.max, IntKind.signed, IntKind.bits] at hw; omega
end Go.Proofs.YtjgjcpbkmeillaaDoor
