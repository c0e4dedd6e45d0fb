/- The machine of plain values: what a call and a piece of code are said to do; a walk that reckons. By the prover of this seat. -/
import Derived.Test.YtjjmidhpilmnbaaDoorPm2
set_option linter.unusedVariables false
namespace Go.Pm
open Go Go.RowKit
def GlobR (G : Nat → Option (List AV)) (M : Mem) : Prop := ∀ g cs, G g = some cs → VR M Nm.none (.fptr cs) (.pointer (some ⟨g, 0, none⟩))
/-- what nobody writes any more is as it was, but for blocks from n on -/
structure Fresh (M M' : Mem) (n : Nat) : Prop where
  cell : ∀ b o v, b < n → M'.cell b o = some v → M.cell b o = some v
  map : ∀ b v, b < n → M'.map b = some v → M.map b = some v
def enterOk (P : Program) (f : FuncId) : Bool :=
  match P.funcs[f]? with
  | some fn => fn.body.isSome && !(fn.name == "runtime.NumGoroutine")
  | none => false
/-- a call with the own blocks H: it yields r, and leaves H' -/
def CallH (P : Program) (G : Nat → Option (List AV)) (f : FuncId) (args : List AV) (H : List Bk) (r : AV) (H' : List Bk) : Prop :=
  enterOk P f = true ∧ ∀ (w0 : World) (ρ : Nm) (M : Mem) (W : World) (vals : List Value), WR w0 ρ M H W → GlobR G M → L2 (VR M ρ) args vals →
    Calls P f vals.toArray W (fun e W' => ∃ v ρ' M', e = .returned v ∧ M.le M' ∧ ρ.le ρ' ∧ WR w0 ρ' M' H' W' ∧ VR M' ρ' r v ∧ Fresh M M' w0.heap.size)
/-- a call upon values that nobody writes any more -/
def Pure (P : Program) (G : Nat → Option (List AV)) (f : FuncId) (args : List AV) (r : AV) (news : List Bk) : Prop := CallH P G f args [] r news
/-- from st the code comes to st', by the way e -/
def Tri (C : Cx) (c : Code) (st : St) (e : Ex) (st' : St) : Prop :=
  ∀ (w0 : World) (ρ : Nm) (M : Mem) (a : Act) (W : World), Rel C w0 ρ M st a W →
    c.wp C.P (fun x a' W' => x = e.to ∧ ∃ ρ' M', M.le M' ∧ (∀ i, i < C.keep → ∀ x, ρ i = some x → ρ' i = some x) ∧ Fresh M M' w0.heap.size ∧ Rel C w0 ρ' M' st' a' W') a W
/-- from st, where a round of a loop over c begins, the loop comes to st' -/
def LoopT (C : Cx) (c : Code) (st : St) (e : Ex) (st' : St) : Prop :=
  ∀ (w0 : World) (ρ : Nm) (M : Mem) (a : Act) (W : World), Rel C w0 ρ M st a W → ∀ (b : Frame) (k : List Item) (cs : List Frame), ∃ x a' W',
    (x = e.to ∧ ∃ ρ' M', M.le M' ∧ (∀ i, i < C.keep → ∀ x, ρ i = some x → ρ' i = some x) ∧ Fresh M M' w0.heap.size ∧ Rel C w0 ρ' M' st' a' W') ∧ Arrives C.P (lone (b.at a (.code c :: .inLoop c :: k)) cs W) b k cs x a' W'
def pureC0 : AV → Bool
  | .s _ | .sl _ _ | .sx _ _ | .nsl | .fptr _ | .mp _ => true
  | _ => false
def pureF : AV → Bool
  | .agg cs => cs.all pureC0
  | x => pureC0 x
def pureC : AV → Bool
  | .fn _ a b => a.all pureF && b.all pureF
  | x => pureC0 x
def pureA : AV → Bool
  | .agg cs => cs.all pureC
  | x => pureC x
def pureT : AV → Bool
  | .tup vs => vs.all pureA
  | x => pureA x
def pureB : Bk → Bool
  | .arr _ cs _ => cs.all pureC
  | .map es _ => es.all fun p => pureA p.1 && pureA p.2
  | .dead => false
def shiftC (n : Nat) : AV → AV
  | .osl id o l k => .osl (n + id) o l k
  | .ptr id o => .ptr (n + id) o
  | .omp id => .omp (n + id)
  | .fn f a b => if a.all pureF && b.all pureF then .fn f a b else .any
  | .agg _ => .any
  | .tup _ => .any
  | x => x
def shiftA (n : Nat) : AV → AV
  | .agg cs => .agg (cs.map (shiftC n))
  | x => shiftC n x
def shiftT (n : Nat) : AV → AV
  | .tup vs => .tup (vs.map (shiftA n))
  | x => shiftA n x
/-- a value as one that nobody writes any more -/
def frzC (g : Nat → Option Bk) : AV → AV
  | .osl id off n k => match g id with
    | some (.arr _ cs _) => .sl n ((cs.drop off).take (n * k))
    | _ => .any
  | .nsl => .sl 0 []
  | .omp id => match g id with
    | some (.map es _) => .mp es
    | _ => .any
  | .fn f a b => if a.all pureF && b.all pureF then .fn f a b else .any
  | .ptr _ _ => .any
  | .agg _ => .any
  | .tup _ => .any
  | x => x
def frzA (g : Nat → Option Bk) : AV → AV
  | .agg cs => .agg (cs.map (frzC g))
  | x => frzC g x
/-- the same, but a slice without room stays one -/
def frzK (g : Nat → Option Bk) : AV → AV
  | .nsl => .nsl
  | x => frzA g x
def markB : Bk → Bk
  | .arr L cs _ => .arr L cs L
  | .map es _ => .map es true
  | .dead => .dead
def markW (g : Nat → Option Bk) : List Nat → Ws
  | [] => []
  | i :: r => match g i with
    | some (.arr L cs fz) => (i, markB (.arr L cs fz)) :: markW g r
    | some (.map es fz) => (i, markB (.map es fz)) :: markW g r
    | _ => markW g r
/-- the arguments are these when nobody writes them any more -/
def FrzR (g : Nat → Option Bk) (ids : List Nat) (a b : AV) : Prop :=
  ∀ (M M' : Mem) (ρ : Nm) (v : Value), VR M ρ a v → M.le M' →
    (∀ i b s L cs fz, i ∈ ids → ρ i = some (b, s) → g i = some (.arr L cs fz) → ∀ j c, cs[j]? = some c → ∃ u, M'.cell b j = some u ∧ VR M ρ c u) → VR M' Nm.none b v
def putT (t : List AV) (d : Option Tmp) (v : AV) : List AV :=
  match d with
  | some i => t.set i v
  | none => t
def callOf (e : Operand → AV) : Op → Option (FuncId × List AV)
  | .call c => match c.callee with
    | .value f => match e f with
      | .fn (.func k) pre cap => some (k, pre ++ c.args.toList.map e ++ cap)
      | _ => none
    | _ => none
  | _ => none
abbrev Ev := AV × Ws × List Prop
def conds (h : Hint) (v : AV) (w : Ws) (bs : List Bool) (ps : List Prop) : Option Ev :=
  if h.sym = true ∨ bs.all id = true then
    match h.val with
    | some v' => some (v', w, (if h.sym then bs.map (· = true) else []) ++ ps ++ [v = v'])
    | none => some (v, w, (if h.sym then bs.map (· = true) else []) ++ ps)
  else none
def opEval (C : Cx) (h : Hint) (g : Nat → Option Bk) (nid : Nat) (H : List Bk) (e : Operand → AV) (o : Op) : Option Ev :=
  match h.heap with
  | some (r, H') => match callOf e o with
    | some (f, args) => some (r, newsW 0 H', [CallH C.P C.G f args H r H', H.length ≤ H'.length])
    | none => none
  | none => match h.call with
    | some r => match callOf e o with
      | some (f, args) => match h.args, h.news with
        | none, none => conds h r (markW g (args.flatMap idsA)) [(args.flatMap idsA).all fun i => ((g i).map pureB).getD false, (args.map (frzA g)).all pureA] [Pure C.P C.G f (args.map (frzA g)) r []]
        | none, some news => conds h (shiftT nid r) (markW g (args.flatMap idsA) ++ newsW nid news) [news.all pureB, (args.flatMap idsA).all fun i => ((g i).map pureB).getD false, (args.map (frzA g)).all pureA] [Pure C.P C.G f (args.map (frzA g)) r news]
        | some args', none => conds h r (markW g (args.flatMap idsA)) [(args.flatMap idsA).all fun i => ((g i).map pureB).getD false, args'.all pureA] [Pure C.P C.G f args' r [], args.map (frzK g) = args']
        | some args', some news => conds h (shiftT nid r) (markW g (args.flatMap idsA) ++ newsW nid news) [news.all pureB, (args.flatMap idsA).all fun i => ((g i).map pureB).getD false, args'.all pureA] [Pure C.P C.G f args' r news, args.map (frzK g) = args']
      | none => none
    | none => match rd C g nid e h o with
      | some (v, news, bs, ps) => conds h v (newsW nid news) bs ps
      | none => match wr C g nid e h o with
        | some (v, w, bs, ps) => conds h v w bs ps
        | none => none
def wantA (ops : List Oper) (t : List AV) (o : Oper) : Option Bool :=
  match o.guard with
  | none => some true
  | some (j, want) => match (ops[j]?).bind (·.dst) with
    | some d => match t[d]? with
      | some (.s (.bool b)) => some (b == want)
      | some (.tup []) => some false
      | _ => none
    | none => none
/-- what came of an operation: its value, its writes, which blocks it looked into -/
structure En where
  v : AV
  w : Ws
  r : List Nat
def tr (C : Cx) (hs : Nat → Hint) (ops : List Oper) : Nat → List Oper → List AV → List Bk → Option (List AV × List Bk × List En × List Prop)
  | _, [], t, A => some (t, A, [], [])
  | i, o :: rest, t, A =>
    match wantA ops t o with
    | none => none
    | some false => match tr C hs ops (i + 1) rest (putT t o.dst (.tup [])) A with
      | some (t', A', es, ps) => some (t', A', ⟨.tup [], [], []⟩ :: es, ps)
      | none => none
    | some true => match opEval C (hs i) (fun j => A[j]?) A.length A (evalA C t) o.op with
      | none => none
      | some (v, w, ps) => match tr C hs ops (i + 1) rest (putT t o.dst v) (putW A w) with
        | some (t', A', es, ps') => some (t', A', ⟨v, w, rIds (evalA C t) o.op⟩ :: es, ps ++ ps')
        | none => none
/-- all that stand ahead of each -/
def edgeP (acc : List (List Nat)) (o : Oper) : List Nat := o.after.toList.flatMap fun e => if Region.binds .any e then e.on :: acc.getD e.on [] else []
def predsGo (acc : List (List Nat)) : List Oper → List (List Nat)
  | [] => acc
  | o :: r => predsGo (acc ++ [edgeP acc o]) r
def preds (ops : List Oper) : List (List Nat) := predsGo [] ops
def meets (a b : List Nat) : Bool := a.any fun x => b.contains x
def pairOk (pr : List (List Nat)) (i j : Nat) (x y : En) : Bool :=
  (pr.getD j []).contains i || (!meets (x.w.map (·.1)) (y.r ++ y.w.map (·.1)) && !meets (y.w.map (·.1)) x.r)
def noClash (pr : List (List Nat)) : Nat → List En → Bool
  | _, [] => true
  | i, x :: r => (r.zipIdx (i + 1)).all (fun p => pairOk pr i p.2 x p.1) && noClash pr (i + 1) r
/-- which slots an operation names -/
def named (ops : List Oper) (o : Oper) : List Tmp := o.dst.toList ++ Oper.looksAt ops.toArray o
def slotsOk (ops : List Oper) (pr : List (List Nat)) : Bool :=
  ops.zipIdx.all fun p => ops.zipIdx.all fun q => p.2 == q.2 || (match q.1.dst with
    | some d => !(named ops p.1).contains d || (pr.getD p.2 []).contains q.2 || (pr.getD q.2 []).contains p.2
    | none => true)
def drawOk (P : Program) (hs : Nat → Hint) (ops : List Oper) (es : List En) : Bool :=
  P.follows .mixedOrders && ((List.range ops.length).all fun i => (hs i).heap.isNone) && (ops.zipIdx.all fun p => p.1.after.toList.all fun e => (!Region.binds .any e || decide (e.on < p.2))) && decide ((ops.filterMap (·.dst)).Nodup) && slotsOk ops (preds ops) && noClash (preds ops) 0 es
def posOf : List Nat → Nat → Option Nat
  | [], _ => none
  | i :: r, j => if i = j then some 0 else (posOf r j).map (· + 1)
def reC (l : List Nat) : AV → AV
  | .osl j o n k => match posOf l j with
    | some i => .osl i o n k
    | none => .any
  | .ptr j o => match posOf l j with
    | some i => .ptr i o
    | none => .any
  | .omp j => match posOf l j with
    | some i => .omp i
    | none => .any
  | .nsl => .sl 0 []
  | .fn f a b => if a.all pureF && b.all pureF then .fn f a b else .any
  | .agg _ => .any
  | .tup _ => .any
  | x => x
def reF (l : List Nat) : AV → AV
  | .agg cs => .agg (cs.map (reC l))
  | x => reC l x
def reA (l : List Nat) : AV → AV
  | .fn f a b => .fn f (a.map (reF l)) (b.map (reF l))
  | .tup vs => .tup (vs.map (reF l))
  | x => reF l x
def reB (l : List Nat) : Bk → Bk
  | .arr L cs fz => .arr L (cs.map (reC l)) fz
  | _ => .dead
def ghost (gh : List (Nat × Nat)) (n i : Nat) : Option (Nat × Nat) :=
  match gh with
  | [] => none
  | (s, k) :: r => if s = i then some (n, k) else ghost r (n + 1) i
def fgSlot (f : Fg) (i : Nat) (c : AV) : AV :=
  match ghost f.gh f.l.length i with
  | some (g, k) => match c with
    | .nsl => .osl g 0 0 k
    | _ => .any
  | none => if f.ks.contains i then reA f.l c else .any
def fgSlots (f : Fg) : Nat → List AV → List AV
  | _, [] => []
  | i, c :: r => fgSlot f i c :: fgSlots f (i + 1) r
def fgBlock (f : Fg) (H : List Bk) (j : Nat) : Bk :=
  match H[j]? with
  | some b => if f.mx.contains j then reB f.l b else b
  | none => .dead
def forget (f : Fg) (st : St) : St := ⟨fgSlots f 0 st.t, f.l.map (fgBlock f st.h) ++ f.gh.map fun _ => .arr 0 [] 0⟩
def preOk : Nat → List Nat → Nat → Bool
  | _, _, 0 => true
  | i, j :: r, n + 1 => i == j && preOk (i + 1) r n
  | _, [], _ + 1 => false
/-- what the weaker state asks -/
def fgAsk (f : Fg) (keep : Nat) (H : List Bk) : List Prop :=
  [(decide f.l.Nodup && preOk 0 f.l keep) = true] ++ (f.l.filterMap fun j => if f.mx.contains j then none else match H[j]? with
    | some (.arr L cs fz) => some (pureB (.arr L cs fz) = true)
    | some (.map es fz) => some (pureB (.map es fz) = true)
    | _ => none)
def regKey : Code → Nat
  | .region id _ _ => id
  | .seq a _ => regKey a
  | .cond _ a _ => regKey a
  | .block _ b | .loop b | .scope b => regKey b
  | _ => 0
def loopKey : Nat := 1000
def frzKey : Nat := 2000
/-! block i is written no more: how each value reads then -/
def thC0 (i : Nat) (b : Bk) : AV → AV
  | .osl j off n k => if j = i then (match b with | .arr _ cs _ => .sl n ((cs.drop off).take (n * k)) | _ => .any) else .osl j off n k
  | .ptr j off => if j = i then (match b with | .arr _ cs _ => .fptr (cs.drop off) | _ => .any) else .ptr j off
  | .omp j => if j = i then (match b with | .map es _ => .mp es | _ => .any) else .omp j
  | .agg _ => .any
  | .tup _ => .any
  | .fn f p q => .fn f p q
  | x => x
def thP (i : Nat) (b : Bk) : AV → AV
  | .agg cs => .agg (cs.map (thC0 i b))
  | x => thC0 i b x
def thC (i : Nat) (b : Bk) : AV → AV
  | .fn f p q => .fn f (p.map (thP i b)) (q.map (thP i b))
  | x => thC0 i b x
def thF (i : Nat) (b : Bk) : AV → AV
  | .agg cs => .agg (cs.map (thC i b))
  | x => thC i b x
def thA (i : Nat) (b : Bk) : AV → AV
  | .tup vs => .tup (vs.map (thF i b))
  | x => thF i b x
def thB (i : Nat) (b : Bk) : Bk → Bk
  | .arr L cs fz => .arr L (cs.map (thC i b)) fz
  | .map es fz => .map es fz
  | .dead => .dead
def thBk (i : Nat) (b : Bk) (H : List Bk) (j : Nat) : Bk := if j = i then markB b else thB i b ((H[j]?).getD .dead)
def thSt (i : Nat) (b : Bk) (st : St) : St := ⟨st.t.map (thA i b), (List.range st.h.length).map (thBk i b st.h)⟩
/-- the blocks of a list are written no more, one after the other; what is asked -/
def thAll : List Nat → St → St × List Prop
  | [], st => (st, [])
  | i :: r, st => match st.h[i]? with
    | some (.arr L cs fz) => match thAll r (thSt i (.arr L cs fz) st) with
      | (st', ps) => (st', (pureB (.arr L cs fz) = true) :: ps)
    | some (.map es fz) => match thAll r (thSt i (.map es fz) st) with
      | (st', ps) => (st', (pureB (.map es fz) = true) :: ps)
    | _ => thAll r st
/-- round k's hints -/
def hsR (hs : Nat → Nat → Hint) (k : Nat) : Nat → Nat → Hint := fun r i => hs (r * 1000 + 1 + k) i
def loopGo (f : Nat → St → Option (Ex × St × List Prop)) : Nat → Nat → St → Option (Ex × St × List Prop)
  | 0, _, _ => none
  | n + 1, k, st => match f k st with
    | some (.normal, st1, p1) => match loopGo f n (k + 1) st1 with
      | some (e, st2, p2) => some (e, st2, p1 ++ p2)
      | none => none
    | r => r
def runH (C : Cx) : Code → (Nat → Nat → Hint) → St → Option (Ex × St × List Prop)
  | .skip, hs, st => some (.normal, st, [])
  | .label _, hs, st => some (.normal, st, [])
  | .region id ops draw, hs, st => match thAll (hs id frzKey).frz st with
    | (st0, ps0) => match tr C (hs id) ops.toList 0 ops.toList st0.t st0.h with
      | some (t, A, es, ps) => if draw = false ∨ drawOk C.P (hs id) ops.toList es = true then some (.normal, ⟨t, A⟩, ps0 ++ ps) else none
      | none => none
  | .seq a b, hs, st => match runH C a hs st with
    | some (.normal, st1, p1) => match runH C b hs st1 with
      | some (e, st2, p2) => some (e, st2, p1 ++ p2)
      | none => none
    | r => r
  | .cond c a b, hs, st => match evalA C st.t c with
    | .s (.bool true) => runH C a hs st
    | .s (.bool false) => runH C b hs st
    | _ => none
  | .block id b, hs, st => match runH C b hs st with
    | some (.exit j, st1, p1) => if j = id then some (.normal, st1, p1) else some (.exit j, st1, p1)
    | r => r
  | .loop b, hs, st => match (hs (regKey b) loopKey).loop with
    | some (f, st1, e, st2) => some (e, st2, [forget f st = st1, LoopT C b st1 e st2] ++ fgAsk f C.keep st.h)
    | none => loopGo (fun k st1 => runH C b (hsR hs k) st1) (hs (regKey b) loopKey).unroll 0 st
  | .exit id, hs, st => some (.exit id, st, [])
  | .ret, hs, st => some (.ret, st, [])
  | _, _, _ => none
def run (C : Cx) (hs : Nat → Nat → Hint) (c : Code) (st : St) : Option (Ex × St × List Prop) := runH C c hs st
def allP : List Prop → Prop
  | [] => True
  | p :: r => p ∧ allP r
/-- what is to be shown of a walk -/
def Walk (C : Cx) (hs : Nat → Nat → Hint) (c : Code) (st : St) (Q : Ex → St → Prop) : Prop :=
  match run C hs c st with
  | some (e, st', ps) => allP ps ∧ Q e st'
  | none => False
def hint (l : List ((Nat × Nat) × Hint)) (r i : Nat) : Hint :=
  match l with
  | [] => {}
  | (p, h) :: rest => if p.1 = r ∧ p.2 = i then h else hint rest r i
end Go.Pm
