/- The machine of plain values: functions. By the prover of this seat. -/
import Derived.Test.YtjjmidhpilmnbaaDoorPm26
set_option linter.unusedVariables false
namespace Go.Pm
open Go Go.RowKit
def resA (C : Cx) (st : St) : ResultVar → Option AV
  | .tmp t => st.t[t]?
  | .cell a T => match rdLoad C (fun j => st.h[j]?) {} T (st.t.getD a .any) with
    | some (v, _, _, _) => some v
    | none => none
def resL (C : Cx) (st : St) : List ResultVar → Option (List AV)
  | [] => some []
  | r :: rs => match resA C st r, resL C st rs with
    | some v, some vs => some (v :: vs)
    | _, _ => none
def oneOf : List AV → AV
  | [v] => v
  | vs => .tup vs
/-- a function's body, reckoned: what it yields, what it leaves, what is to be shown -/
def fnRun (P : Program) (G : Nat → Option (List AV)) (hs : Nat → Nat → Hint) (f : FuncId) (args : List AV) (H : List Bk) : Option (AV × List Bk × List Prop) :=
  match P.funcs[f]? with
  | some fn => match fn.body with
    | some c => match run ⟨P, G, H.length⟩ hs c ⟨args ++ List.replicate (fn.ntmps - args.length) (.tup []), H⟩ with
      | some (.exit _, _, _) => none
      | some (_, st, ps) => match resL ⟨P, G, H.length⟩ st fn.results.toList with
        | some vs => if H.length ≤ st.h.length ∧ (fn.name == "runtime.NumGoroutine") = false then some (oneOf vs, st.h, ps) else none
        | none => none
      | none => none
    | none => none
  | none => none
def rvGet (tmps : Array Value) : ResultVar → Sem Value
  | .tmp t => pure (tmps.getD t undef)
  | .cell a t => do loadVar t (← asAddr (tmps.getD a undef))
theorem results_get (fn : Func) (tmps : Array Value) : results fn tmps = (do let vs ← fn.results.mapM (rvGet tmps); pure (if h : vs.size = 1 then vs[0] else .tuple vs)) := by
  unfold results
  congr 1
section
variable {P : Program} {w0 W : World} {ρ : Nm} {M : Mem}
theorem rdLoad_allP {C : Cx} {g : Nat → Option Bk} {t : TypeId} {x v : AV} {news : List Bk} {bs : List Bool} {ps : List Prop} (h : rdLoad C g {} t x = some (v, news, bs, ps)) : ps = [] := by
  unfold rdLoad at h
  split at h
  · rename_i sz ag cs _ _ _
    cases ag
    · simp only [loadV] at h
      cases cs <;> simp at h
      first | exact h.2.2.2 | exact h.2.2.2.symm
    · simp only [loadV] at h
      split at h
      · cases h; rfl
      · cases h
  · cases h
theorem res_ok {C : Cx} {st : St} {a : Act} (hR : Rel C w0 ρ M st a W) : ∀ (rs : List ResultVar) (vs : List AV), resL C st rs = some vs → ∃ us : List Value, L2 (VR M ρ) vs us ∧
    (rs.mapM (rvGet a.tmps)).run C.P W = .ok us W := by
  intro rs
  induction rs with
  | nil => intro vs h; simp [resL] at h; subst h; exact ⟨[], L2.nil, by simp⟩
  | cons r rs ih =>
    intro vs h
    unfold resL at h
    split at h
    · rename_i v vs' hv hvs
      cases h
      obtain ⟨us, h1, h2⟩ := ih vs' hvs
      have one : ∃ u, VR M ρ v u ∧ (rvGet a.tmps r).run C.P W = .ok u W := by
        cases r with
        | tmp t =>
          simp only [resA] at hv
          obtain ⟨u, hu, hr⟩ := hR.slots.get hv
          refine ⟨u, hr, ?_⟩
          have : a.tmps[t]? = some u := by simpa using hu
          simp [rvGet, Array.getD_eq_getD_getElem?, this]
        | cell x T =>
          simp only [resA] at hv
          split at hv
          · rename_i v' news bs ps hl
            cases hv
            have hx : VR M ρ (st.t.getD x .any) (a.tmps.getD x undef) := eval_ok (C := C) hR.slots hR.glob (.tmp x)
            obtain ⟨_, u, hu, hr⟩ := ok_load hR.wr hl (by rw [rdLoad_allP hl]; trivial) hx
            refine ⟨u, hr, ?_⟩
            have hp : ∃ A, a.tmps.getD x undef = .pointer (some A) := by
              unfold rdLoad at hl
              split at hl
              · rename_i sz ag cs _ _ hcs
                obtain ⟨A, hA, _⟩ := cells_at hR.wr hx hcs
                exact ⟨A, hA⟩
              · cases hl
            obtain ⟨A, hd⟩ := hp
            rw [hd] at hu
            simp only [rvGet, hd, asAddr]
            simpa [Instr.loadAt, Instr.sureAddr] using hu
          · cases hv
      obtain ⟨u, u1, u2⟩ := one
      exact ⟨u :: us, L2.cons u1 h1, by simp only [List.mapM_cons, Sem.run_bind, u2, Result.andThen_ok, h2, Sem.run_pure]⟩
    · cases h
theorem fnRun_ok {P : Program} {G : Nat → Option (List AV)} {hs : Nat → Nat → Hint} {f : FuncId} {args : List AV} {H H' : List Bk} {r : AV} {ps : List Prop} (h : fnRun P G hs f args H = some (r, H', ps)) (hp : allP ps) : CallH P G f args H r H' ∧ H.length ≤ H'.length := by
  unfold fnRun at h
  split at h
  · rename_i fn hfn
    split at h
    · rename_i c hc
      split at h
      · cases h
      · rename_i e st ps' hne hrun
        split at h
        · rename_i vs hvs
          split at h
          · rename_i hcc
            obtain ⟨hlen, hname⟩ := hcc
            cases h
            refine ⟨⟨by unfold enterOk; rw [hfn]; simp [hc, hname], ?_⟩, hlen⟩
            intro w0 ρ M W vals hw hg hargs
            have htri := run_ok c _ _ _ _ hrun hp
            have hR : Rel ⟨P, G, H.length⟩ w0 ρ M ⟨args ++ List.replicate (fn.ntmps - args.length) (.tup []), H⟩ { tmps := vals.toArray ++ Array.replicate (fn.ntmps - vals.toArray.size) undef, defers := [] } W := by
              refine ⟨?_, hw, hg, Nat.le_refl _, rfl⟩
              have : (vals.toArray ++ Array.replicate (fn.ntmps - vals.toArray.size) undef).toList = vals ++ List.replicate (fn.ntmps - args.length) undef := by simp [hargs.len]
              rw [this]
              refine hargs.append ⟨by simp, fun i c v h1 h2 => ?_⟩
              rw [List.getElem?_replicate] at h1 h2
              split at h1
              · rename_i hi
                rw [if_pos hi] at h2
                cases h1; cases h2
                exact .mkTup (vs := []) L2.nil
              · cases h1
            refine calls_of_wp hfn hc (Code.wp_mono (fun x a' W' hx => ?_) (htri w0 ρ M _ W hR))
            obtain ⟨rfl, ρ', M', q1, q2, q3, q4⟩ := hx
            obtain ⟨us, hus, hrs⟩ := res_ok q4 _ _ hvs
            have hle : ρ.le ρ' := fun i x hi => q2 i (hw.dom i x hi) x hi
            have hres : ∃ u, (results fn a'.tmps).run P W' = .ok u W' ∧ VR M' ρ' (oneOf vs) u := by
              rw [results_get]
              have hm : (fn.results.mapM (rvGet a'.tmps)).run P W' = .ok us.toArray W' := by
                rw [← Array.toArray_toList (xs := fn.results), List.mapM_toArray, ← bind_pure_comp]
                simp only [Sem.run_bind]
                have hrs' : (fn.results.toList.mapM (rvGet a'.tmps)).run P W' = .ok us W' := hrs
                simp only [hrs', Result.andThen_ok, Sem.run_pure, Function.comp]
              simp only [Sem.run_bind]
              simp only [hm, Result.andThen_ok, Sem.run_pure]
              match vs, us, hus with
              | [v], [u], hus =>
                exact ⟨u, by simp, hus.at_ 0 v u rfl rfl⟩
              | [], [], hus => exact ⟨.tuple #[], by simp, .mkTup (vs := []) L2.nil⟩
              | v :: v2 :: vs, u :: u2 :: us, hus => exact ⟨.tuple (u :: u2 :: us).toArray, by simp, .mkTup hus⟩
              | [], u :: us, hus => have := hus.len; simp at this
              | [v], [], hus => have := hus.len; simp at this
              | [v], u :: u2 :: us, hus => have := hus.len; simp at this
              | v :: v2 :: vs, [], hus => have := hus.len; simp at this
              | v :: v2 :: vs, [u], hus => have := hus.len; simp at this
            obtain ⟨u, hu1, hu2⟩ := hres
            have fin : ∃ v ρ' M', Ending.returned u = .returned v ∧ M.le M' ∧ ρ.le ρ' ∧ WR w0 ρ' M' st.h W' ∧ VR M' ρ' (oneOf vs) v ∧ Fresh M M' w0.heap.size := ⟨u, ρ', M', rfl, q1, hle, q4.wr, hu2, q3⟩
            cases e with
            | normal => exact ⟨q4.defers, u, hu1, fin⟩
            | ret => exact ⟨q4.defers, u, hu1, fin⟩
            | exit j => exact (hne j rfl).elim
          · cases h
        · cases h
      · cases h
    · cases h
  · cases h
end
end Go.Pm
