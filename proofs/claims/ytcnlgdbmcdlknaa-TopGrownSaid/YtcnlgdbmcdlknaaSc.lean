/- Sorts of own rows: rectangles, numbers. By the prover of this seat. -/
import Derived.Test.YtcnlgdbmcdlknaaSb
set_option linter.unusedVariables false
set_option linter.unusedSimpArgs false
set_option maxRecDepth 100000
namespace Go.Proofs.Ytcnlgdbmcdlknaa.Bn
open Go Go.RowKit Go.Pm
open Go.Sort (putRow grow Holds HoldsK flatK SWO PermIn SortedIn)
open Go.Shelf Go.Lib
theorem eR_V (l : List Rc) : (l.flatMap encV).map AV.s = l.flatMap eR := by
  rw [List.map_flatMap]
  rfl
theorem row_lenV : ∀ l : List Rc, (l.flatMap encV).length = l.length * 4
  | [] => rfl
  | r :: l => by
    rw [List.flatMap_cons, List.length_append, row_lenV l, show (encV r).length = 4 from rfl, List.length_cons]
    omega
theorem flat_list : ∀ (l : List Rc) (t : Nat), t < l.length * 4 → (l.flatMap encV)[t]! = (encV (l.toArray[t / 4]!))[t % 4]!
  | [], t, h => by simp at h
  | r :: l, t, h => by
    rw [List.flatMap_cons]
    by_cases ht : t < 4
    · have h1 : t / 4 = 0 := by omega
      have h2 : t % 4 = t := by omega
      rw [h1, h2]
      have hl : (encV r).length = 4 := rfl
      rw [getElem!_pos _ t (by simp [hl]; omega), List.getElem_append_left (by rw [hl]; exact ht)]
      rw [getElem!_pos _ t (by show t < 4; exact ht)]
      rfl
    · obtain ⟨u, rfl⟩ : ∃ u, t = 4 + u := ⟨t - 4, by omega⟩
      have h1 : (4 + u) / 4 = u / 4 + 1 := by omega
      have h2 : (4 + u) % 4 = u % 4 := by omega
      have hu : u < l.length * 4 := by simp only [List.length_cons] at h; omega
      have ih := flat_list l u hu
      rw [h1, h2]
      have hl : (encV r).length = 4 := rfl
      have hf : (l.flatMap encV).length = l.length * 4 := row_lenV l
      rw [getElem!_pos _ (4 + u) (by simp only [List.length_append, hl, hf]; omega), List.getElem_append_right (by rw [hl]; omega)]
      rw [getElem!_pos _ u (by rw [hf]; exact hu)] at ih
      have e : (4 + u - (encV r).length) = u := by rw [hl]; omega
      have q : ((r :: l).toArray)[u / 4 + 1]! = l.toArray[u / 4]! := by
        simp
      rw [q, ← ih]
      congr 1
theorem flatK_list (d : Array Rc) : (flatK encV 4 d).toList = d.toList.flatMap encV := by
  have hf := row_lenV d.toList
  apply List.ext_getElem
  · rw [hf]; simp
  · intro i h1 h2
    have hi : i < d.size * 4 := by simpa using h1
    have := Go.Sort.get_flatK encV 4 d i hi
    have h3 := flat_list d.toList i (by simpa using hi)
    rw [getElem!_pos _ i (by simpa using h1)] at this
    rw [getElem!_pos _ i h2] at h3
    rw [Array.getElem_toList, this, h3, Array.toArray_toList]
theorem l2_s {M : Mem} {ρ : Nm} (vs : List Value) : L2 (VR M ρ) (vs.map AV.s) vs := by
  have := L2.map vs AV.s id (R := VR M ρ) fun x _ => .s _ _
  simpa using this
theorem one_V (l : List Rc) : ∀ v ∈ l.flatMap encV, v.oneCell' = true := by
  intro v hv
  obtain ⟨r, -, hr⟩ := List.mem_flatMap.1 hv
  simp [encV] at hr
  rcases hr with rfl | rfl | rfl | rfl <;> rfl
theorem splice_full (a b : List AV) (h : b.length = a.length) : splice a 0 b = b := by
  unfold splice
  rw [Nat.zero_add, h]
  simp
/-- as the library sorts them -/
def srtD (cf : Rc → Rc → Int) (l : List Rc) : List Rc := (Go.Sort.pdq (ltOf cf) l.toArray 0 l.length (Lib.bitLen l.length) true true).toList
theorem srt_perm {cf : Rc → Rc → Int} (hO : SWO (ltOf cf)) (l : List Rc) : (srtD cf l).Perm l ∧ (srtD cf l).Pairwise fun a b => ltOf cf b a = false := by
  have h := Go.Sort.pdq_sorts (ltOf cf) hO l.toArray 0 l.length (Lib.bitLen l.length) true true (Nat.zero_le _) (by simp) (Or.inl rfl)
  obtain ⟨⟨p1, -, p3⟩, p4⟩ := h
  unfold srtD
  generalize (Go.Sort.pdq (ltOf cf) l.toArray 0 l.length (Lib.bitLen l.length) true true) = d at p1 p3 p4 ⊢
  have hs : d.size = l.length := by simpa using p1
  refine ⟨?_, ?_⟩
  · have e1 : (d.extract 0 l.length).toList = d.toList := by rw [← hs]; simp
    have e2 : (l.toArray.extract 0 l.length).toList = l := by simp
    rwa [e1, e2] at p3
  · rw [List.pairwise_iff_getElem]
    intro i j hi hj hij
    have := p4 i j (Nat.zero_le _) hij (by simpa [hs] using hj)
    rw [getElem!_pos d i (by simpa using hi), getElem!_pos d j (by simpa using hj)] at this
    simpa using this
theorem srt_len {cf : Rc → Rc → Int} (hO : SWO (ltOf cf)) (l : List Rc) : (srtD cf l).length = l.length := (srt_perm hO l).1.length_eq
theorem sortF_ok (g : Nat) (cf : Rc → Rc → Int) (hO : SWO (ltOf cf)) (hc : ∀ x y W, Calls Try.prog g #[.agg (encV x).toArray, .agg (encV y).toArray] W fun e w' => e = .returned (.int .i64 (cf x y)) ∧ ∃ q os', w' = grow (W.drewN q) os') (eg : ∀ args w, (callFunc g args).run Try.prog w = .ok (.enter g args) w) (l : List Rc) (hl : l.length ≤ 1000000) :
    CallH Try.prog G0 18 [.osl 0 0 l.length 4, .fn (.func g) [] []] [.arr (l.length * 4) (l.flatMap eR) 0] (.tup []) [.arr (l.length * 4) ((srtD cf l).flatMap eR) 0] := by
  refine ⟨by kernel_rfl, fun w0 ρ M W vals hw hg ha => ?_⟩
  obtain ⟨v, us, rfl, q1, q2⟩ := ha.inv_cons
  obtain ⟨fv, us2, rfl, q3, q4⟩ := q2.inv_cons
  obtain rfl : us2 = [] := by have := q4.len; cases us2 <;> simp at this; rfl
  have hfv : fv = .func (.func g) #[] #[] := by
    cases q3 with
    | fn a b c d =>
      rename_i us vs
      cases us <;> cases vs <;> simp at a c
      rfl
  subst hfv
  have none : ∀ p cap, v = .slice p 0 cap → l.length = 0 → Calls Try.prog 18 #[v, .func (.func g) #[] #[]] W fun e W' => ∃ v ρ' M', e = .returned v ∧ M.le M' ∧ ρ.le ρ' ∧ WR w0 ρ' M' [.arr (l.length * 4) ((srtD cf l).flatMap eR) 0] W' ∧ VR M' ρ' (.tup []) v ∧ Fresh M M' w0.heap.size := by
    intro p cap e h0
    obtain rfl := List.eq_nil_of_length_eq_zero h0
    have hs : srtD cf [] = [] := List.eq_nil_of_length_eq_zero (srt_len hO [])
    rw [hs]
    subst e
    have hcon := AnyF.slices_SortFunc_none Try.sortRc p cap (.func (.func g) #[] #[]) W
    change Calls Try.prog 18 _ _ _ at hcon
    refine hcon.mono ?_
    rintro e w' ⟨rfl, rfl⟩
    exact ⟨_, ρ, M, rfl, Mem.le.refl _, Nm.le.refl _, hw, .mkTup (vs := []) L2.nil, Fresh.refl _ _⟩
  generalize hn : l.length = n at q1
  cases q1 with
  | osl_e =>
    have hh := none _ _ rfl hn
    rw [hn] at hh
    exact hh
  | osl h1 h2 h3 =>
    rename_i b s cap
    subst hn
    by_cases h0 : l.length = 0
    · exact none (some ⟨b, 0 + s.base, Option.none⟩) cap (by rw [h0]) h0
    · have hw' : WR w0 ρ M [.arr (l.length * 4) ((flatK encV 4 l.toArray).toList.map .s) 0] W := by
        rw [flatK_list, eR_V]; exact hw
      obtain ⟨hH, hblk⟩ := holds_row (flatK encV 4 l.toArray) hw' h1
      have hcon := AnyQ.slices_SortFunc_eq Try.sortRc 4 Try.isAgg44 Try.sizeOf44 encV (fun _ => rfl) (fun x v hv => one_V [x] v (by simpa using hv)) cf hO g #[] b (0 + s.base) cap l.toArray W eg (fun m os dk _ x y => hc x y _) hH hblk (by simp; omega)
      change Calls Try.prog 18 _ _ _ at hcon
      refine hcon.mono ?_
      rintro e w' ⟨rfl, m, os, rfl⟩
      have hp := srt_perm hO l
      have hlen : ((srtD cf l).flatMap eR).length = l.length * 4 := by rw [row_len (sz := 4) (fun _ => rfl), hp.1.length_eq]
      have hF : (flatK encV 4 (Go.Sort.pdq (ltOf cf) l.toArray 0 l.length (Lib.bitLen l.length) true true)).toList.map AV.s = (srtD cf l).flatMap eR := by rw [flatK_list, eR_V]; rfl
      have hone : ∀ v ∈ (flatK encV 4 (Go.Sort.pdq (ltOf cf) l.toArray 0 l.length (Lib.bitLen l.length) true true)).toList, v.oneCell' = true := by rw [flatK_list]; exact one_V _
      have := wr_sorted hw h1 0 (flatK encV 4 (Go.Sort.pdq (ltOf cf) l.toArray 0 l.length (Lib.bitLen l.length) true true)) (xs := (srtD cf l).flatMap eR) (by rw [← hF]; exact l2_s _) hone (by rw [hlen]; omega) (Nat.le_refl _) m os
      rw [splice_full _ _ (by rw [hlen, row_len (sz := 4) (fun _ => rfl)])] at this
      exact ⟨_, ρ, M, rfl, Mem.le.refl _, Nm.le.refl _, this, .mkTup (vs := []) L2.nil, Fresh.refl _ _⟩
theorem sortX_ok (l : List Rc) (hl : l.length ≤ 1000000) : CallH Try.prog G0 18 [.osl 0 0 l.length 4, .fn (.func 25) [] []] [.arr (l.length * 4) (l.flatMap eR) 0] (.tup []) [.arr (l.length * 4) ((srtD cfX l).flatMap eR) 0] :=
  sortF_ok 25 cfX swoX clX (enters_of Try.func25 (by kernel_rfl) rfl) l hl
theorem sortY_ok (l : List Rc) (hl : l.length ≤ 1000000) : CallH Try.prog G0 18 [.osl 0 0 l.length 4, .fn (.func 19) [] []] [.arr (l.length * 4) (l.flatMap eR) 0] (.tup []) [.arr (l.length * 4) ((srtD cfY l).flatMap eR) 0] :=
  sortF_ok 19 cfY swoY clY (enters_of Try.func19 (by kernel_rfl) rfl) l hl
theorem srtX (l : List Rc) : (srtD cfX l).Perm l ∧ XS (srtD cfX l) := by
  obtain ⟨h1, h2⟩ := srt_perm swoX l
  exact ⟨h1, h2.imp fun {a b} h => by rw [ltX, decide_eq_false_iff_not] at h; omega⟩
theorem srtY (l : List Rc) : (srtD cfY l).Perm l ∧ YS (srtD cfY l) := by
  obtain ⟨h1, h2⟩ := srt_perm swoY l
  exact ⟨h1, h2.imp fun {a b} h => by rw [ltY, decide_eq_false_iff_not] at h; omega⟩
end Go.Proofs.Ytcnlgdbmcdlknaa.Bn
