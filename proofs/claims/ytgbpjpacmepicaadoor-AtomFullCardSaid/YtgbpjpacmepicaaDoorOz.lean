/- What the row's list gives: the names that are there at first; what comes in. By the prover of this seat. -/
import Derived.Test.YtgbpjpacmepicaaDoorOe
set_option linter.unusedVariables false
set_option maxRecDepth 100000
namespace Go.Proofs.YtgbpjpacmepicaaDoor
open Go.RowKit Go.Pm
section
variable {P : Program} {W : World} {H : Type} {enc : TypeId × Value → H} {spare : Nat → Bool} {held : Bool}
theorem str_inj {a b : ByteArray} (h : a.data.toList = b.data.toList) : a = b := by
  apply ByteArray.ext
  exact Array.ext' h
/-- an array of texts -/
theorem strs_open {fuel base : Nat} {t e : TypeId} {cs : List Value} {ss : List ByteArray} {p : List MemPlace} (ht : P.underlying t = some (.array ss.length e)) (he : P.underlying e = some .string) (hce : P.cellsOf e = 1) (hct : P.cellsOf t = ss.length)
    (h : DataW.trod enc P W base spare held fuel t cs = some (.agg (ss.map fun s => .lit (.string s.data.toList)), p)) : cs = ss.map Value.string := by
  obtain ⟨xs, n, _, hx, hl, hxl, hall⟩ := DataW.trod_array ht h
  have hd : xs.map (·.1) = ss.map fun s => DataW.lit (.string s.data.toList) := by
    have := congrArg Prod.fst hx
    simpa using this.symm
  rw [hct] at hl
  apply List.ext_getElem?
  intro i
  by_cases hi : i < ss.length
  · have hg := hall i hi
    rw [hce, List.getElem?_eq_getElem (by omega)] at hg
    obtain ⟨s', hz, hzx, _⟩ := DataW.trod_string he hg
    have hdi := congrArg (fun l => l[i]?) hd
    simp only [List.getElem?_map, List.getElem?_eq_getElem (show i < xs.length by omega), List.getElem?_eq_getElem hi, Option.map_some, Option.some.injEq] at hdi
    rw [hzx] at hdi
    simp only [DataW.lit.injEq, Lit.string.injEq] at hdi
    have hci : (cs.drop (i * 1)).take 1 = [cs[i]'(by omega)] := by rw [Nat.mul_one, List.drop_eq_getElem_cons (by omega)]; rfl
    rw [hci] at hz
    simp only [List.cons.injEq, and_true] at hz
    rw [List.getElem?_eq_getElem (by omega), List.getElem?_map, List.getElem?_eq_getElem hi, hz, str_inj hdi]
    rfl
  · rw [List.getElem?_eq_none (by omega), List.getElem?_eq_none (by simp; omega)]
end
def vsC : List Value := kn.map Value.string
theorem kn_vs : kn.flatMap eS = vsC.map AV.s := rfl
theorem glob_ok {W : World} (h : laidMet Tryd.prog [("glazier/atom.known", .agg (kn.map fun s => .lit (.string s.data.toList)))] W) : GlobR G1 (memOf W) := by
  obtain ⟨ps, ⟨g', t', cs, fuel, p, q, hg', ht', hvar, hd, _, _⟩, _⟩ := h
  obtain rfl : g' = 0 := (Option.some.inj ((show Tryd.prog.globalNamed "glazier/atom.known" = some 0 by kernel_rfl).symm.trans hg')).symm
  obtain rfl : t' = 55 := (Option.some.inj ((show (Tryd.prog.globals[0]?).map (·.type) = some 55 by kernel_rfl).symm.trans ht')).symm
  have hc : cs.toList = vsC := strs_open (ss := kn) Tryd.underlying55 Tryd.underlying9 (by kernel_rfl) (by kernel_rfl) hd
  intro g cs' hG
  unfold G1 at hG
  split at hG
  · rename_i e
    subst e
    cases hG
    have hcell : ∀ (i : Nat) c, (kn.flatMap eS)[i]? = some c → ∃ v, vsC[i]? = some v ∧ c = .s v := by
      intro i c hi
      rw [kn_vs, List.getElem?_map, Option.map_eq_some_iff] at hi
      obtain ⟨v, h1, rfl⟩ := hi
      exact ⟨v, h1, rfl⟩
    refine .fptr (fun i => vsC.getD i undef) (fun i c hi => ?_) (fun i c hi => ?_)
    · obtain ⟨v, h1, rfl⟩ := hcell i c hi
      have hw := World.var?_cell (show Tryd.prog.globalNamed "glazier/atom.known" = some 0 by kernel_rfl) hvar i
      rw [← Array.getElem?_toList, hc, h1] at hw
      rw [Nat.zero_add, List.getD_eq_getElem?_getD, h1]
      refine memOf_cell hw ?_
      have : ∀ u ∈ vsC, u.oneCell' = true := by decide
      exact this v (List.mem_of_getElem? h1)
    · obtain ⟨v, h1, rfl⟩ := hcell i c hi
      rw [List.getD_eq_getElem?_getD, h1]
      exact .s _ _
  · cases hG
theorem fits_u32 {cs : List AV} (h : Fits (.int .u32) cs) : ∃ n : Int, cs = [u32 n] ∧ 0 ≤ n ∧ n ≤ 4294967295 := by
  obtain ⟨n, rfl, hw⟩ := h
  simp [Lit.wf, IntKind.min, IntKind.max, IntKind.signed, IntKind.bits] at hw
  exact ⟨n, rfl, by omega, by omega⟩
theorem fits_u16 {cs : List AV} (h : Fits (.int .u16) cs) : ∃ n : Int, cs = [u16 n] ∧ 0 ≤ n ∧ n ≤ 65535 := by
  obtain ⟨n, rfl, hw⟩ := h
  simp [Lit.wf, IntKind.min, IntKind.max, IntKind.signed, IntKind.bits] at hw
  exact ⟨n, rfl, by omega, by omega⟩
theorem bds32 {n : Int} (hw : (Lit.int .u32 n).wf = true) : 0 ≤ n ∧ n ≤ 4294967295 := by
  simp [Lit.wf, IntKind.min, IntKind.max, IntKind.signed, IntKind.bits] at hw; omega
theorem bds16 {n : Int} (hw : (Lit.int .u16 n).wf = true) : 0 ≤ n ∧ n ≤ 65535 := by
  simp [Lit.wf, IntKind.min, IntKind.max, IntKind.signed, IntKind.bits] at hw; omega
theorem fits_strs {cs : List AV} (h : Fits (.sl .str) cs) : ∃ l : List ByteArray, cs = [slS l] := by
  obtain ⟨l, h1, _, _⟩ := fits_list (enc := eS) (Q := fun _ => True) (fun cs hc => by obtain ⟨s, rfl, _⟩ := hc; exact ⟨s, rfl, trivial⟩) h
  exact ⟨l, h1⟩
theorem fits_bos {cs : List AV} (h : Fits (.sl .bool) cs) : ∃ l : List Bool, cs = [slB l] := by
  obtain ⟨l, h1, _, _⟩ := fits_list (enc := eBo) (Q := fun _ => True) (fun cs hc => by obtain ⟨b, rfl⟩ := hc; exact ⟨b, rfl, trivial⟩) h
  exact ⟨l, h1⟩
end Go.Proofs.YtgbpjpacmepicaaDoor
