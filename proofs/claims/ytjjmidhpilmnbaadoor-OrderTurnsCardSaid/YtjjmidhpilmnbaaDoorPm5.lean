/- The machine of plain values: operations that only read, and what they yield. By the prover of this seat. -/
import Derived.Test.YtjjmidhpilmnbaaDoorPm4
set_option linter.unusedVariables false
namespace Go.Pm
open Go Go.RowKit
theorem add_flat (b off j : Nat) : Addr.add ⟨b, off, none⟩ j = ⟨b, off + j, none⟩ := by unfold Addr.add; split <;> simp_all
theorem choose_list {R : AV → Value → Prop} {Q : Nat → Value → Prop} : ∀ (cs : List AV) (k : Nat), (∀ (i : Nat) c, cs[i]? = some c → ∃ w, R c w ∧ Q (k + i) w) → ∃ vs, L2 R cs vs ∧ ∀ (i : Nat) v, vs[i]? = some v → Q (k + i) v := by
  intro cs
  induction cs with
  | nil => intro k _; exact ⟨[], L2.nil, fun i v h => by simp at h⟩
  | cons c cs ih =>
    intro k h
    obtain ⟨w, h1, h2⟩ := h 0 c rfl
    obtain ⟨vs, h3, h4⟩ := ih (k + 1) (fun i c' hc => by
      obtain ⟨w', a, b⟩ := h (i + 1) c' (by simpa using hc)
      exact ⟨w', a, by rw [Nat.add_assoc, Nat.add_comm 1 i]; exact b⟩)
    refine ⟨w :: vs, L2.cons h1 h3, fun i v hv => ?_⟩
    cases i with
    | zero => simp at hv; subst hv; exact h2
    | succ i => have := h4 i v (by simpa using hv); rwa [Nat.add_assoc, Nat.add_comm 1 i] at this
theorem run_szOf {P : Program} {t : TypeId} {n : Nat} (h : szOf P t = some n) (w : World) : (sizeOf t).run P w = .ok n w := by
  unfold szOf at h
  cases hi : P.info? t with
  | none => simp [hi] at h
  | some i => simp [hi] at h; simp [sizeOf, typeInfo, hi, h]
theorem run_aggB {P : Program} {t : TypeId} {b : Bool} (h : aggB P t = some b) (w : World) : (isAgg t).run P w = .ok b w := by
  unfold aggB at h
  cases hi : P.underlying t with
  | none => simp [hi] at h
  | some d => simp [hi] at h; subst h; cases d <;> simp [isAgg, run_underlying hi, aggD]
theorem run_zeroA {P : Program} {t : TypeId} {z : List AV} (h : zeroA P t = some z) (w : World) : ∃ v, (zeroValue t).run P w = .ok v w ∧ (∀ M ρ, L2 (VR M ρ) z v.cells.toList) ∧ (∀ u ∈ v.cells.toList, u.oneCell' = true) ∧ ∃ i, P.info? t = some i ∧ i.zero = some v := by
  unfold zeroA at h
  cases hi : P.info? t with
  | none => simp [hi] at h
  | some i =>
    cases hz : i.zero with
    | none => simp [hi, hz] at h
    | some v =>
      simp only [hi, hz] at h
      split at h
      · rename_i h1
        cases h
        exact ⟨v, by simp [zeroValue, typeInfo, hi, hz], fun M ρ => by simpa using L2.map v.cells.toList ofC id fun x _ => ofC_ok M ρ x, fun u hu => List.all_eq_true.1 h1 u hu, i, rfl, hz⟩
      · cases h
section
variable {P : Program} {w0 W : World} {ρ : Nm} {M : Mem} {H : List Bk}
/-- the cells behind a pointer -/
theorem cells_at (hw : WR w0 ρ M H W) {x : AV} {u : Value} (hx : VR M ρ x u) {cs : List AV}
    (h : derefA (fun j => H[j]?) x = some cs) :
    ∃ A : Addr, u = .pointer (some A) ∧ ∀ (i : Nat) c, cs[i]? = some c → ∃ v, W.cell? (A.add i) = some v ∧ v.oneCell' = true ∧ VR M ρ c v := by
  cases hx with
  | ptr h1 =>
    rename_i id off b sz
    simp only [derefA] at h
    split at h
    · rename_i L cs0 fz hb
      cases h
      obtain ⟨h2, h3, ⟨cur, e, fr, h4, h5, h6, h7⟩, h8⟩ := hw.blk _ _ _ _ h1 hb
      refine ⟨_, rfl, fun i c hc => ?_⟩
      rw [List.getElem?_drop] at hc
      obtain ⟨v, a, b, d⟩ := h7 _ c hc
      exact ⟨v, by rw [add_flat]; simpa [World.cell?, h4] using a, b, d⟩
    · cases h
  | fptr_e =>
    simp [derefA] at h
    subst h
    exact ⟨_, rfl, fun i c hc => by simp at hc⟩
  | fptr f h1 h2 =>
    simp [derefA] at h
    subst h
    refine ⟨_, rfl, fun i c hc => ?_⟩
    obtain ⟨a, b⟩ := hw.fro.cell _ _ _ (h1 i c hc)
    exact ⟨f i, by rw [add_flat]; exact a, b, (h2 i c hc).mono (Mem.le.refl M) (Nm.none_le ρ)⟩
  | _ => cases h
theorem takeE_some : ∀ {n : Nat} {cs xs : List AV}, takeE n cs = some xs → xs.length = n ∧ cs.take n = xs := by
  intro n
  induction n with
  | zero => intro cs xs h; simp [takeE] at h; subst h; simp
  | succ n ih =>
    intro cs xs h
    cases cs with
    | nil => simp [takeE] at h
    | cons c cs =>
      simp only [takeE, Option.map_eq_some_iff] at h
      obtain ⟨ys, h1, rfl⟩ := h
      obtain ⟨h2, h3⟩ := ih h1
      exact ⟨by simp [h2], by simp [h3]⟩
theorem load_agg {t : TypeId} {sz : Nat} (hs : szOf P t = some sz) (ha : aggB P t = some true) {A : Addr} {cs xs : List AV} (hc : ∀ (i : Nat) c, cs[i]? = some c → ∃ v, W.cell? (A.add i) = some v ∧ v.oneCell' = true ∧ VR M ρ c v)
    (hl : xs.length = sz) (hx : cs.take sz = xs) : ∃ v, (Instr.loadAt t (.pointer (some A))).run P W = .ok v W ∧ VR M ρ (.agg xs) v := by
  obtain ⟨vs, h1, h2⟩ := choose_list (R := VR M ρ) (Q := fun i v => W.cell? (A.add i) = some v ∧ v.oneCell' = true) xs 0 (fun i c hi => by
    have : cs[i]? = some c := by
      rw [← hx, List.getElem?_take] at hi
      split at hi
      · exact hi
      · cases hi
    obtain ⟨v, a, b, d⟩ := hc i c this
    exact ⟨v, d, by rw [Nat.zero_add]; exact ⟨a, b⟩⟩)
  simp only [Nat.zero_add] at h2
  have hr := run_loadCells_list (P := P) W A vs (fun j v hj => (h2 j v hj).1)
  rw [← h1.len, hl] at hr
  refine ⟨.agg vs.toArray, ?_, .mkAgg h1 fun u hu => ?_⟩
  · simp [Instr.loadAt, Instr.sureAddr, loadVar, run_aggB ha, run_szOf hs, hr]
  · obtain ⟨i, hi⟩ := List.mem_iff_getElem?.1 hu
    exact (h2 i u hi).2
theorem load_one {t : TypeId} (ha : aggB P t = some false) {A : Addr} {cs : List AV} {c : AV} (hc : ∀ (i : Nat) c, cs[i]? = some c → ∃ v, W.cell? (A.add i) = some v ∧ v.oneCell' = true ∧ VR M ρ c v)
    (h0 : cs[0]? = some c) : ∃ v, (Instr.loadAt t (.pointer (some A))).run P W = .ok v W ∧ VR M ρ c v := by
  obtain ⟨v, h1, _, h2⟩ := hc 0 c h0
  have e : A.add 0 = A := by simp [Addr.add]
  rw [e] at h1
  exact ⟨v, by simp [Instr.loadAt, Instr.sureAddr, loadVar, run_aggB ha, load, Sem.run, h1], h2⟩
theorem ok_load {C : Cx} {h : Hint} {t : TypeId} {x v : AV} {news : List Bk} {bs : List Bool} {ps : List Prop} (hw : WR w0 ρ M H W) (hr : rdLoad C (fun j => H[j]?) h t x = some (v, news, bs, ps)) (hp : allP ps) {u : Value} (hx : VR M ρ x u) :
    news = [] ∧ ∃ y, (Instr.loadAt t u).run C.P W = .ok y W ∧ VR M ρ v y := by
  unfold rdLoad at hr
  split at hr
  · rename_i sz ag cs hs ha hcs
    obtain ⟨A, rfl, hA⟩ := cells_at hw hx hcs
    unfold loadV at hr
    split at hr
    · split at hr
      · rename_i xs hh
        split at hr
        · rename_i hl
          cases hr
          exact ⟨rfl, load_agg hs ha hA hl (hl ▸ hp.1)⟩
        · cases hr
      · split at hr
        · rename_i xs h1
          cases hr
          obtain ⟨h3, h4⟩ := takeE_some h1
          exact ⟨rfl, load_agg hs ha hA h3 h4⟩
        · cases hr
    · split at hr
      · rename_i c hh
        cases hr
        exact ⟨rfl, load_one ha hA (by
          have := hp.1
          cases cs with
          | nil => simp at this
          | cons c' cs => simp at this; simp [this])⟩
      · cases hr
      · split at hr
        · cases hr
          exact ⟨rfl, load_one ha hA rfl⟩
        · cases hr
  · cases hr
theorem pureP_run {α : Type} : ∀ {s : Sem α} {v : α}, pureP P s = some v → ∀ W, s.run P W = .ok v W
  | .pure a, v, h, W => by simp [pureP] at h; subst h; rfl
  | .program k, v, h, W => by
    simp only [pureP] at h
    simpa [Sem.run] using pureP_run h W
  | .load .., _, h, _ | .store .., _, h, _ | .new .., _, h, _ | .shape .., _, h, _ | .freeze .., _, h, _ | .frozen .., _, h, _ | .getObj .., _, h, _ | .setObj .., _, h, _ | .choose .., _, h, _ | .sys .., _, h, _ | .mark .., _, h, _ | .halt .., _, h, _ => by simp [pureP] at h
end
end Go.Pm
