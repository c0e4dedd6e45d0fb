/- Own rows that are cut short; own rows that the library sorts. By the prover of this seat. -/
import Derived.Test.YtcnlgdbmcdlknaaBc
import Derived.Test.YtcnlgdbmcdlknaaSh
set_option linter.unusedVariables false
set_option linter.unusedSimpArgs false
set_option maxRecDepth 100000
namespace Go.Proofs.Ytcnlgdbmcdlknaa.Bn
open Go Go.RowKit Go.Pm
open Go.Sort (putRow grow Holds HoldsK flatK SWO)
/-- a row seen as shorter than it is -/
theorem wr_trim {w0 W : World} {ρ : Nm} {M : Mem} {H : List Bk} (hw : WR w0 ρ M H W) {i L : Nat} (L' : Nat) {cs : List AV} {fz : Fz} (hB : H[i]? = some (.arr L cs fz)) (hf : fz.n ≤ L') (hL : L' ≤ L) : WR w0 ρ M (H.set i (.arr L' (cs.take L') fz)) W := by
  have hi : i < H.length := (List.getElem?_eq_some_iff.1 hB).1
  have old : ∀ {j B}, (H.set i (.arr L' (cs.take L') fz))[j]? = some B → ∃ B0, H[j]? = some B0 ∧ (B.live → B0.live) ∧ (j = i → B = .arr L' (cs.take L') fz) ∧ (j ≠ i → B = B0) := by
    intro j B h
    rw [List.getElem?_set] at h
    by_cases e : i = j
    · subst e
      rw [if_pos rfl, if_pos hi] at h
      cases h
      exact ⟨_, hB, fun _ => trivial, fun _ => rfl, fun q => absurd rfl q⟩
    · rw [if_neg e] at h
      exact ⟨B, h, id, fun q => absurd q.symm e, fun _ => rfl⟩
  refine ⟨hw.bel, hw.fro, fun j x h => by rw [List.length_set]; exact hw.dom j x h, fun j k b s t B B' h1 h2 h3 h4 h5 h6 => ?_, fun j b s B h1 h2 h3 => ?_, fun j b s B h1 h2 => ?_, fun j b s B h1 h2 h3 => ?_⟩
  · obtain ⟨A, a1, a2, -⟩ := old h3
    obtain ⟨A', b1, b2, -⟩ := old h5
    exact hw.inj j k b s t A A' h1 h2 a1 (a2 h4) b1 (b2 h6)
  · obtain ⟨A, a1, a2, -⟩ := old h2
    exact hw.new j b s A h1 a1 (a2 h3)
  · obtain ⟨A, a1, a2, a3, a4⟩ := old h2
    by_cases e : j = i
    · rw [a3 e]
      subst e
      have hbr := hw.blk j b s _ h1 hB
      obtain ⟨k1, k2, ⟨cur, e, fr, k3, k4, k5, k6⟩, k7, k8⟩ := hbr
      refine ⟨by rw [List.length_take]; omega, by omega, ⟨cur, e, fr, k3, k4, k5, fun q c hc => ?_⟩, fun o v hv => ?_, k8⟩
      · rw [List.getElem?_take] at hc
        split at hc
        · exact k6 q c hc
        · cases hc
      · have := k7 o v hv
        exact ⟨this.1, by omega⟩
    · rw [a4 e]
      exact hw.blk j b s A h1 a1
  · obtain ⟨A, a1, a2, -⟩ := old h2
    exact hw.apart j b s A h1 a1 (a2 h3)
theorem CallH.trim {P : Program} {G : Nat → Option (List AV)} {f : FuncId} {args : List AV} {H H' : List Bk} {r : AV} (h : CallH P G f args H r H') {i L : Nat} (L' : Nat) {cs : List AV} {fz : Fz} (hB : H'[i]? = some (.arr L cs fz)) (hf : fz.n ≤ L') (hL : L' ≤ L) {cs' : List AV} (hc : cs.take L' = cs') {H2 : List Bk} (hH : H'.set i (.arr L' cs' fz) = H2) : CallH P G f args H r H2 :=
  ⟨h.1, fun w0 ρ M W vals hw hg ha => (h.2 w0 ρ M W vals hw hg ha).mono fun e w' hh => by
    obtain ⟨v, ρ', M', q0, q1, q2, q3, q4, q5⟩ := hh
    subst hc hH
    exact ⟨v, ρ', M', q0, q1, q2, wr_trim q3 L' hB hf hL, q4, q5⟩⟩
theorem Tri.trim {C : Cx} {c : Code} {st : St} {e : Ex} {t : List AV} {H' : List Bk} (h : Tri C c st e ⟨t, H'⟩) {i L : Nat} (L' : Nat) {cs : List AV} {fz : Fz} (hB : H'[i]? = some (.arr L cs fz)) (hf : fz.n ≤ L') (hL : L' ≤ L) {cs' : List AV} (hc : cs.take L' = cs') {H2 : List Bk} (hH : H'.set i (.arr L' cs' fz) = H2) : Tri C c st e ⟨t, H2⟩ :=
  fun w0 ρ M a W hR => Code.wp_mono (fun x a' W' hh => by
    obtain ⟨q0, ρ', M', q1, q2, q3, q4⟩ := hh
    subst hc hH
    exact ⟨q0, ρ', M', q1, q2, q3, ⟨q4.slots, wr_trim q4.wr L' hB hf hL, q4.glob, by show C.keep ≤ (H'.set i _).length; rw [List.length_set]; exact q4.keep, q4.defers⟩⟩) (h w0 ρ M a W hR)
/-- a row whose cells were laid anew, draws on and blocks on -/
theorem wr_sorted {w0 W : World} {ρ : Nm} {M : Mem} {L b : Nat} {s : Sz} {cs xs : List AV} {fz : Fz} (hw : WR w0 ρ M [.arr L cs fz] W) (hid : ρ 0 = some (b, s)) (o : Nat) (F : Array Value) (hl : L2 (VR M ρ) xs F.toList) (one : ∀ v ∈ F.toList, v.oneCell' = true) (hfit : o + xs.length ≤ L) (hfz : fz.n ≤ o) (n : Nat) (os : Array Obj) :
    WR w0 ρ M [.arr L (splice cs o xs) fz] (grow (putRow id (Go.Sort.ahead W n) b (o + s.base) F) os) := by
  obtain ⟨k1, k2, ⟨cur, e, fr, k3, k4, k5, k6⟩, k7, k8⟩ := hw.blk 0 b s _ hid rfl
  have hF : F.size = xs.length := by rw [hl.len]; simp
  have hb : b < W.heap.size := (Array.getElem?_eq_some_iff.1 k3).1
  have h2 : (putRow id W b (o + s.base) F).heap[b]? = some (.cells (Sort.putCells id (o + s.base) F cur) e fr) := by
    show (W.heap.modify b (Sort.onCells (Sort.putCells id (o + s.base) F)))[b]? = _
    rw [Array.getElem?_modify, if_pos rfl, k3]
    rfl
  have h5 : ∀ k, k ≠ b → (putRow id W b (o + s.base) F).heap[k]? = W.heap[k]? := by
    intro k hk
    show (W.heap.modify b (Sort.onCells (Sort.putCells id (o + s.base) F)))[k]? = _
    rw [Array.getElem?_modify, if_neg (fun q => hk q.symm)]
  have hs : (Sort.putCells id (o + s.base) F cur).size = cur.size := by simp [Sort.putCells]
  have h4 : ∀ j : Nat, (Sort.putCells id (o + s.base) F cur)[j]? = if o + s.base ≤ j ∧ j < o + s.base + F.toList.length then F.toList[j - (o + s.base)]? else cur[j]? := by
    intro j
    unfold Sort.putCells
    rw [Array.getElem?_mapIdx]
    by_cases hj : j < cur.size
    · rw [Array.getElem?_eq_getElem hj, Option.map_some]
      by_cases q : o + s.base ≤ j ∧ j < o + s.base + F.size
      · rw [if_pos q, if_pos (by simpa using q)]
        rw [Array.getElem?_toList, getElem!_pos F _ (by omega), Array.getElem?_eq_getElem (by omega)]
        rfl
      · rw [if_neg q, if_neg (by simpa using q)]
    · rw [Array.getElem?_eq_none (by omega), Option.map_none, if_neg (by simp only [Array.length_toList]; omega)]
  have hw1 : WR w0 ρ M [.arr L (splice cs o xs) fz] (putRow id W b (o + s.base) F) :=
    hw.setRow hid rfl hl one hfit hfz k3 hs h4 h2 h5 ⟨rfl, rfl, rfl, by show W.heap.size ≤ (W.heap.modify b _).size; simp⟩
  have e : grow (putRow id (Go.Sort.ahead W n) b (o + s.base) F) os = grow (Go.Sort.ahead (putRow id W b (o + s.base) F) n) os := rfl
  rw [e]
  have hb2 : Below w0.heap.size (putRow id W b (o + s.base) F) (grow (Go.Sort.ahead (putRow id W b (o + s.base) F) n) os) := ⟨rfl, rfl, rfl, by show _ ≤ (_ ++ os).size; simp [Go.Sort.ahead], fun k hk => by
    have := hw1.bel.size
    show (((putRow id W b (o + s.base) F).heap) ++ os)[k]? = _
    rw [Array.getElem?_append_left (by omega)]⟩
  refine hw1.world (hw1.bel.trans hb2) fun k hk => ?_
  show (((putRow id W b (o + s.base) F).heap) ++ os)[k]? = _
  rw [Array.getElem?_append_left hk]
/-- a row's cells, one by one -/
theorem holds_row {w0 W : World} {ρ : Nm} {M : Mem} {L b : Nat} {s : Sz} {fz : Fz} (vs : Array Value) (hw : WR w0 ρ M [.arr L (vs.toList.map .s) fz] W) (hid : ρ 0 = some (b, s)) : Holds id W b (0 + s.base) vs ∧ b < W.heap.size := by
  obtain ⟨k1, k2, ⟨cur, e, fr, k3, k4, k5, k6⟩, k7, k8⟩ := hw.blk 0 b s _ hid rfl
  refine ⟨fun j hj => ?_, (Array.getElem?_eq_some_iff.1 k3).1⟩
  have hL : L = vs.size := by rw [k1]; simp
  obtain ⟨u, hu, -, hv⟩ := k6 j (.s vs[j]) (by simp [hj])
  have := hv.inv_s
  have hlt : j + s.base < cur.size := by omega
  refine ⟨?_, ?_⟩
  · simp only [World.cell?]
    rw [k3]
    simp only [Nat.zero_add, id]
    rw [Nat.add_comm s.base j, hu, this, getElem!_pos vs j hj]
    simp
  · have := k5 (0 + s.base + j) (by omega)
    simp only [World.frozen?]
    rw [k3]
    simpa using this
end Go.Proofs.Ytcnlgdbmcdlknaa.Bn
