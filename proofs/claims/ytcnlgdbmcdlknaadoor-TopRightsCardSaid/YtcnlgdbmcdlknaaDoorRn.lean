/- The law of rights, whole; what the row's list gives; what comes in. By the prover of this seat. -/
import Derived.Test.YtcnlgdbmcdlknaaDoorRm
import Derived.Test.YtcnlgdbmcdlknaaDoorRows
set_option linter.unusedVariables false
set_option linter.unusedSimpArgs false
set_option maxRecDepth 100000
set_option maxHeartbeats 4000000
namespace Go.Proofs.YtcnlgdbmcdlknaaDoor.Tr
open Go.RowKit Go.Pm
theorem rights_ok (ls : List Wn) (hw : WOk ls ∧ ls.length ≤ 9223372036854775807) (S : List Sel) (ho : SOk S) (n : Int) : Pure Tryd.prog GT 3 [slW ls, slS S, i64 n] (bl true) [] := by
  obtain ⟨K, U, ids, b, k, -, hM, -, hm⟩ := made_ok ls hw.1 hw.2
  have hm := lift_H hm
  cases b with
  | false => exact rights_f ls S n K U ids hm
  | true =>
    by_cases h1 : ls.length ≤ 10
    · by_cases h2 : S.length ≤ 10
      · have hr := hM.rng
        have hf := hM.few
        obtain ⟨f, hq⟩ := request_any n
        have h := sel_keeps ids S ho h2 (by omega) hr.2 S.length (by omega)
        exact rights_g ls S n (inB n) K U ids _ _ f hm h1 h2 (lift hq) (ts_all n K U ids S h2 ho (by omega) (by omega) hr.2) (tc_all hM h n)
      · exact rights_s ls S n K U ids hm h1 h2
    · exact rights_l ls S n K U ids hm h1
section
variable {P : Program} {W : World} {H : Type} {enc : TypeId × Value → H} {spare : Nat → Bool} {held : Bool}
/-- an array of whole numbers -/
theorem ints_open {fuel base : Nat} {t e : TypeId} {k : IntKind} {cs : List Value} {ns : List Int} {p : List MemPlace} (ht : P.underlying t = some (.array ns.length e)) (he : P.underlying e = some (.int k)) (hce : P.cellsOf e = 1) (hct : P.cellsOf t = ns.length)
    (h : DataW.trod enc P W base spare held fuel t cs = some (.agg (ns.map fun n => .lit (.int k n)), p)) : cs = ns.map (Value.int k) := by
  obtain ⟨xs, n, _, hx, hl, hxl, hall⟩ := DataW.trod_array ht h
  have hd : xs.map (·.1) = ns.map fun n => DataW.lit (.int k n) := by
    have := congrArg Prod.fst hx
    simpa using this.symm
  rw [hct] at hl
  apply List.ext_getElem?
  intro i
  by_cases hi : i < ns.length
  · have hg := hall i hi
    rw [hce, List.getElem?_eq_getElem (by omega)] at hg
    obtain ⟨z, hz, hzx, _⟩ := DataW.trod_int he hg
    have hdi := congrArg (fun l => l[i]?) hd
    simp only [List.getElem?_map, List.getElem?_eq_getElem (show i < xs.length by omega), List.getElem?_eq_getElem hi, Option.map_some, Option.some.injEq] at hdi
    rw [hzx] at hdi
    simp only [DataW.lit.injEq, Lit.int.injEq] at hdi
    have hci : (cs.drop (i * 1)).take 1 = [cs[i]'(by omega)] := by rw [Nat.mul_one, List.drop_eq_getElem_cons (by omega)]; rfl
    rw [hci] at hz
    simp only [List.cons.injEq, and_true] at hz
    rw [List.getElem?_eq_getElem (by omega), List.getElem?_map, List.getElem?_eq_getElem hi, hz]
    simp [hdi.2]
  · rw [List.getElem?_eq_none (by omega), List.getElem?_eq_none (by simp; omega)]
end
def spaceN : List Int := (List.range 256).map fun i => if Lib.isSp (UInt8.ofNat i) then 1 else 0
def spC : List Value := spaceN.map (Value.int .u8)
def ruC : List Value := rulesL.map (Value.int .u8)
theorem space_vs : spaceC = spC.map AV.s := by
  unfold spaceC spC spaceN
  rw [List.map_map, List.map_map]
  rfl
theorem rules_vs : rulesC = ruC.map AV.s := rfl
theorem cells_ptr {W : World} {nm : String} {g : Nat} {cs : Array Value} {vs : List Value} (hn : Tryd.prog.globalNamed nm = some g) (hvar : W.var? Tryd.prog nm = some cs) (hc : cs.toList = vs) (hone : ∀ u ∈ vs, u.oneCell' = true) {cl : List AV} (he : cl = vs.map AV.s) :
    VR (memOf W) Nm.none (.fptr cl) (.pointer (some ⟨g, 0, none⟩)) := by
  have hcell : ∀ (i : Nat) c, cl[i]? = some c → ∃ v, vs[i]? = some v ∧ c = .s v := by
    intro i c hi
    rw [he, List.getElem?_map, Option.map_eq_some_iff] at hi
    obtain ⟨v, h1, rfl⟩ := hi
    exact ⟨v, h1, rfl⟩
  refine .fptr (fun i => vs.getD i undef) (fun i c hi => ?_) (fun i c hi => ?_)
  · obtain ⟨v, h1, rfl⟩ := hcell i c hi
    have hw := World.var?_cell hn hvar i
    rw [← Array.getElem?_toList, hc, h1] at hw
    rw [Nat.zero_add, List.getD_eq_getElem?_getD, h1]
    exact memOf_cell hw (hone v (List.mem_of_getElem? h1))
  · obtain ⟨v, h1, rfl⟩ := hcell i c hi
    rw [List.getD_eq_getElem?_getD, h1]
    exact .s _ _
theorem one_ints (k : IntKind) (l : List Int) : ∀ u ∈ l.map (Value.int k), u.oneCell' = true := by
  intro u hu
  obtain ⟨n, _, rfl⟩ := List.mem_map.1 hu
  rfl
theorem glob_ok {W : World} (h : laidMet Tryd.prog Rows.topRightsRow.laid W) : GlobR GT (memOf W) := by
  obtain ⟨ps, hv, _⟩ := h
  obtain ⟨g1, t1, cs1, f1, p1, q1, hg1, ht1, hvar1, hd1, hrest1, _⟩ := hv
  obtain ⟨g2, t2, cs2, f2, p2, q2, hg2, ht2, hvar2, hd2, hrest2, _⟩ := hrest1
  obtain ⟨g3, t3, cs3, f3, p3, q3, hg3, ht3, hvar3, hd3, _, _⟩ := hrest2
  obtain rfl : g1 = 0 := (Option.some.inj ((show Tryd.prog.globalNamed "glazier/rights.rules" = some 0 by kernel_rfl).symm.trans hg1)).symm
  obtain rfl : g3 = 1 := (Option.some.inj ((show Tryd.prog.globalNamed "strings.asciiSpace" = some 1 by kernel_rfl).symm.trans hg3)).symm
  obtain rfl : t1 = 132 := (Option.some.inj ((show (Tryd.prog.globals[0]?).map (·.type) = some 132 by kernel_rfl).symm.trans ht1)).symm
  obtain rfl : t3 = 143 := (Option.some.inj ((show (Tryd.prog.globals[1]?).map (·.type) = some 143 by kernel_rfl).symm.trans ht3)).symm
  have c1 : cs1.toList = ruC := ints_open (ns := rulesL) Tryd.underlying132 Tryd.underlying5 (by kernel_rfl) (by kernel_rfl) hd1
  have c3 : cs3.toList = spC := ints_open (ns := spaceN) Tryd.underlying143 Tryd.underlying5 (by kernel_rfl) (by kernel_rfl) hd3
  intro g cs' hG
  unfold GT at hG
  split at hG
  · rename_i e
    subst e
    cases hG
    exact cells_ptr (by kernel_rfl) hvar1 c1 (one_ints _ _) rules_vs
  · split at hG
    · rename_i e
      subst e
      cases hG
      exact cells_ptr (by kernel_rfl) hvar3 c3 (one_ints _ _) space_vs
    · cases hG
theorem bds8 {n : Int} (hw : (Lit.int .u8 n).wf = true) : 0 ≤ n ∧ n ≤ 255 := by
  simp [Lit.wf, IntKind.min, IntKind.max, IntKind.signed, IntKind.bits] at hw; omega
theorem fits_wn {cs : List AV} (h : Fits (.sl (.seq (.int .u8) (.seq (.int .u8) .unit))) cs) : ∃ l : List Wn, cs = [slW l] ∧ (WOk l ∧ l.length ≤ 9223372036854775807) := by
  obtain ⟨l, h1, h3, h2⟩ := fits_list (enc := eW) (Q := fun w => 0 ≤ w.c ∧ w.c ≤ 255 ∧ 0 ≤ w.u ∧ w.u ≤ 255) (fun cs hc => by
    obtain ⟨x1, y1, rfl, ⟨a, rfl, ha⟩, x2, y2, rfl, ⟨b, rfl, hb⟩, rfl⟩ := hc
    exact ⟨⟨a, b⟩, rfl, (bds8 ha).1, (bds8 ha).2, (bds8 hb).1, (bds8 hb).2⟩) h
  exact ⟨l, h1, h2, by unfold maxLen at h3; omega⟩
theorem fits_sel {cs : List AV} (h : Fits (.sl (.seq (.int .u8) (.seq (.int .u8) (.seq (.int .i64) .unit)))) cs) : ∃ l : List Sel, cs = [slS l] ∧ SOk l := by
  obtain ⟨l, h1, h3, h2⟩ := fits_list (enc := eS) (Q := fun w => 0 ≤ w.c ∧ w.c ≤ 255 ∧ 0 ≤ w.on ∧ w.on ≤ 255) (fun cs hc => by
    obtain ⟨x1, y1, rfl, ⟨a, rfl, ha⟩, x2, y2, rfl, ⟨b, rfl, hb⟩, x3, y3, rfl, ⟨c, rfl, hc⟩, rfl⟩ := hc
    exact ⟨⟨a, b, c⟩, rfl, (bds8 ha).1, (bds8 ha).2, (bds8 hb).1, (bds8 hb).2⟩) h
  exact ⟨l, h1, h2⟩
/-- the ranges of unicode.White_Space -/
def whiteN : List Int := [9, 13, 1, 32, 133, 101, 160, 5760, 5600, 8192, 8202, 1, 8232, 8233, 1, 8239, 8287, 48, 12288, 12288, 1]
end Go.Proofs.YtcnlgdbmcdlknaaDoor.Tr
