/- The machine of plain values: what a function hands back; a state seen more weakly; functions without own blocks. By the prover of this seat. -/
import Derived.Test.YtjjmidhpilmnbaaDoorPm27
set_option linter.unusedVariables false
namespace Go.Pm
open Go Go.RowKit
def frzT (g : Nat → Option Bk) : AV → AV
  | .tup vs => .tup (vs.map (frzA g))
  | x => frzA g x
def idsT : AV → List Nat
  | .tup vs => vs.flatMap idsA
  | x => idsA x
/-- a function upon values that nobody writes any more: what it hands back, nobody writes any more -/
def pureRun (P : Program) (G : Nat → Option (List AV)) (hs : Nat → Nat → Hint) (f : FuncId) (args : List AV) : Option (AV × List Prop) :=
  match fnRun P G hs f args [] with
  | some (r, H, ps) => if ((idsT r).all fun i => ((H[i]?).map pureB).getD false) = true ∧ pureT (frzT (fun j => H[j]?) r) = true then some (frzT (fun j => H[j]?) r, ps) else none
  | none => none
/-- the same, where the cells are as said -/
def pureSaid (P : Program) (G : Nat → Option (List AV)) (hs : Nat → Nat → Hint) (f : FuncId) (args : List AV) : Option (AV × List Prop) :=
  match fnRun P G hs f args [] with
  | some (r, H, ps) => some (frzT (fun j => H[j]?) r, ps ++ [((idsT r).all fun i => ((H[i]?).map pureB).getD false) = true, pureT (frzT (fun j => H[j]?) r) = true])
  | none => none
section
variable {P : Program} {w0 W : World} {ρ : Nm} {M : Mem} {H : List Bk}
theorem frzT_ok (hw : WR w0 ρ M H W) {F : List Nat} {x : AV} {v : Value} (hv : VR M ρ x v) (hF : ∀ i ∈ idsT x, i ∈ F ∧ ((H[i]?).map pureB).getD false = true) (hp : pureT (frzT (fun j => H[j]?) x) = true) :
    VR (frzM M ρ H W F) Nm.none (frzT (fun j => H[j]?) x) v := by
  by_cases ha : ∃ cs, x = .tup cs
  · obtain ⟨cs, rfl⟩ := ha
    obtain ⟨vs, rfl, h1⟩ := hv.inv_tup
    simp only [frzT, pureT] at hp ⊢
    refine .mkTup ⟨by simpa using h1.len, fun i c v hc hv' => ?_⟩
    simp only [List.getElem?_map, Option.map_eq_some_iff] at hc
    obtain ⟨c0, hc0, rfl⟩ := hc
    refine frzA_ok hw (h1.at_ i c0 v hc0 hv') (fun j hj => hF j ?_) ?_
    · simp only [idsT, List.mem_flatMap]
      exact ⟨c0, List.mem_of_getElem? hc0, hj⟩
    · exact List.all_eq_true.1 hp _ (List.mem_map.2 ⟨c0, List.mem_of_getElem? hc0, rfl⟩)
  · have e1 : frzT (fun j => H[j]?) x = frzA (fun j => H[j]?) x := by cases x <;> first | rfl | exact absurd ⟨_, rfl⟩ ha
    have e2 : idsT x = idsA x := by cases x <;> first | rfl | exact absurd ⟨_, rfl⟩ ha
    rw [e1] at hp ⊢
    rw [e2] at hF
    refine frzA_ok hw hv hF ?_
    have hna : ∀ cs, frzA (fun j => H[j]?) x ≠ .tup cs := by
      intro cs
      cases x <;> simp [frzA, frzC] <;> (split <;> simp)
    generalize frzA (fun j => H[j]?) x = y at hp hna
    cases y <;> first | exact hp | exact absurd rfl (hna _)
theorem pure_core {G : Nat → Option (List AV)} {f : FuncId} {args : List AV} {r : AV} (hc : CallH P G f args [] r H) (h1 : ((idsT r).all fun i => ((H[i]?).map pureB).getD false) = true) (h2 : pureT (frzT (fun j => H[j]?) r) = true) : Pure P G f args (frzT (fun j => H[j]?) r) [] := by
  refine ⟨hc.1, fun w0 ρ M W vals hw hg hargs => ?_⟩
  refine (hc.2 w0 ρ M W vals hw hg hargs).mono fun e w' hh => ?_
  obtain ⟨v, ρ', M', rfl, q1, q2, q3, q4, q5⟩ := hh
  obtain ⟨hwk, hfr⟩ := q3.mark (idsT r)
  have hno : ∀ i x, ρ i = some x → False := fun i x hi => by have := hw.dom i x hi; simp at this
  refine ⟨v, ρ, _, rfl, q1.trans (frzM_le M' ρ' H w' (idsT r)), Nm.le.refl _, ⟨hwk.bel, hwk.fro, fun i x hi => (hno i x hi).elim, fun i j b s t B B' hi => (hno i _ hi).elim, fun i b s B hi => (hno i _ hi).elim, fun i b s B hi => (hno i _ hi).elim⟩, ?_, q5.trans hfr⟩
  exact (frzT_ok q3 q4 (fun i hi => ⟨hi, List.all_eq_true.1 h1 i hi⟩) h2).mono (Mem.le.refl _) (Nm.none_le _)
/-- THE LAW OF A FUNCTION THAT IS RECKONED -/
theorem pure_of {G : Nat → Option (List AV)} {hs : Nat → Nat → Hint} {f : FuncId} {args : List AV} {r : AV} {ps : List Prop} (h : pureRun P G hs f args = some (r, ps)) (hp : allP ps) : Pure P G f args r [] := by
  unfold pureRun at h
  split at h
  · rename_i r0 H ps0 hr
    split at h
    · rename_i hc
      cases h
      exact pure_core (fnRun_ok hr hp).1 hc.1 hc.2
    · cases h
  · cases h
theorem pure_said {G : Nat → Option (List AV)} {hs : Nat → Nat → Hint} {f : FuncId} {args : List AV} {r : AV} {ps : List Prop} (h : pureSaid P G hs f args = some (r, ps)) (hp : allP ps) : Pure P G f args r [] := by
  unfold pureSaid at h
  split at h
  · rename_i r0 H ps0 hr
    cases h
    obtain ⟨h1, h2⟩ := allP_append hp
    exact pure_core (fnRun_ok hr h1).1 h2.1 h2.2.1
  · cases h
/-! a state seen more weakly: numbers of blocks given anew, slots forgotten -/
def renC (l : List Nat) : AV → AV
  | .osl i o n k => .osl (l.getD i 0) o n k
  | .ptr i o => .ptr (l.getD i 0) o
  | .omp i => .omp (l.getD i 0)
  | x => x
def renA (l : List Nat) : AV → AV
  | .agg cs => .agg (cs.map (renC l))
  | .tup cs => .tup (cs.map fun c => match c with | .agg ds => .agg (ds.map (renC l)) | x => renC l x)
  | .fn f a b => .fn f (a.map fun c => match c with | .agg ds => .agg (ds.map (renC l)) | x => renC l x) (b.map fun c => match c with | .agg ds => .agg (ds.map (renC l)) | x => renC l x)
  | x => renC l x
end
end Go.Pm
