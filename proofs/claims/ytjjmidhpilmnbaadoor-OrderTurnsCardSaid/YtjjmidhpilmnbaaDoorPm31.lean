/- The machine of plain values: loops, for use. By the prover of this seat. -/
import Derived.Test.YtjjmidhpilmnbaaDoorPm30
set_option linter.unusedVariables false
namespace Go.Pm
open Go Go.RowKit
/-- the loop whose first region bears this number -/
def findLoop (r : Nat) : Code → Option Code
  | .loop b => if regKey b = r then some b else findLoop r b
  | .seq a b => match findLoop r a with
    | some c => some c
    | none => findLoop r b
  | .cond _ a b => match findLoop r a with
    | some c => some c
    | none => findLoop r b
  | .block _ b => findLoop r b
  | _ => none
def loopOf (P : Program) (f r : Nat) : Code := match P.funcs[f]? with
  | some fn => match fn.body with
    | some c => (findLoop r c).getD .skip
    | none => .skip
  | none => .skip
/-- slots, those named laid, the others unknown -/
def mkT (n : Nat) (l : List (Nat × AV)) : List AV := (List.range n).map fun i => match l.find? fun p => p.1 == i with
  | some p => p.2
  | none => .any
/-- one round, then the rest -/
theorem LoopT.step {C : Cx} {hs : Nat → Nat → Hint} {c : Code} {st st1 st2 st' : St} {e : Ex} {ps : List Prop} (f : Fg) (h : run C hs c st = some (.normal, st1, ps)) (hp : allP ps) (hf : Pm.forget f st1 = st2) (ha : allP (fgAsk f C.keep st1.h)) (h2 : LoopT C c st2 e st') : LoopT C c st e st' := by
  subst hf
  exact LoopT.next (Tri.forget (run_ok _ _ _ _ _ h hp) ha) h2
/-- the last round -/
theorem LoopT.stop {C : Cx} {hs : Nat → Nat → Hint} {c : Code} {st st' : St} {e : Ex} {ps : List Prop} (h : run C hs c st = some (e, st', ps)) (hp : allP ps) (hne : e ≠ .normal) : LoopT C c st e st' :=
  LoopT.exit (run_ok _ _ _ _ _ h hp) hne
/-- the last round, its end seen more weakly -/
theorem LoopT.stopF {C : Cx} {hs : Nat → Nat → Hint} {c : Code} {st st1 st' : St} {e : Ex} {ps : List Prop} (f : Fg) (h : run C hs c st = some (e, st1, ps)) (hp : allP ps) (hf : Pm.forget f st1 = st') (ha : allP (fgAsk f C.keep st1.h)) (hne : e ≠ .normal) : LoopT C c st e st' := by
  subst hf
  exact LoopT.exit (Tri.forget (run_ok _ _ _ _ _ h hp) ha) hne
/-- a walk, its end seen more weakly -/
def runF (C : Cx) (hs : Nat → Nat → Hint) (f : Fg) (c : Code) (st : St) : Option (Ex × St × List Prop) :=
  match run C hs c st with
  | some (e, st1, ps) => some (e, Pm.forget f st1, ps ++ fgAsk f C.keep st1.h)
  | none => none
theorem runF_ok {C : Cx} {hs : Nat → Nat → Hint} {f : Fg} {c : Code} {st st' : St} {e : Ex} {ps : List Prop} (h : runF C hs f c st = some (e, st', ps)) (hp : allP ps) : Tri C c st e st' := by
  unfold runF at h
  split at h
  · rename_i e1 st1 ps1 hr
    cases h
    obtain ⟨h1, h2⟩ := allP_append hp
    exact Tri.forget (run_ok _ _ _ _ _ hr h1) h2
  · cases h
theorem LoopT.go {C : Cx} {hs : Nat → Nat → Hint} {f : Fg} {c : Code} {st st2 st' : St} {e : Ex} {ps : List Prop} (h : runF C hs f c st = some (.normal, st2, ps)) (hp : allP ps) (h2 : LoopT C c st2 e st') : LoopT C c st e st' := LoopT.next (runF_ok h hp) h2
theorem LoopT.fin {C : Cx} {hs : Nat → Nat → Hint} {f : Fg} {c : Code} {st st' : St} {e : Ex} {ps : List Prop} (h : runF C hs f c st = some (e, st', ps)) (hp : allP ps) (hne : e ≠ .normal) : LoopT C c st e st' := LoopT.exit (runF_ok h hp) hne
end Go.Pm
