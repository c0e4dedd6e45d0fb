/- A machine of plain values beside the model's: what a piece of code makes of values that bear no addresses of memory that was there before. The definitions. By the prover of this seat. -/
import Derived.WalkKit
import Derived.Orders
import Derived.Laws.StructEq
set_option linter.unusedVariables false
namespace Go.Pm
open Go
/-- a value: s: the model's own, without addresses; sl: a slice that nobody writes any more, of n elements, its cells; sx: one that is not nil; nsl: a slice without room; osl: a piece of an own block, k cells an element; ptr: into an own block; fptr: to cells that nobody writes any more; mp: a map that nobody writes any more; omp: an own map -/
inductive AV where
  | s (v : Value)
  | agg (cs : List AV)
  | tup (vs : List AV)
  | sl (n : Nat) (cs : List AV)
  | sx (n : Nat) (cs : List AV)
  | nsl
  | osl (id off n k : Nat)
  | ptr (id off : Nat)
  | fptr (cs : List AV)
  | mp (es : List (AV × AV))
  | omp (id : Nat)
  | fn (f : Fn) (pre cap : List AV)
  | any
  deriving Inhabited
/-- an own block: a row of len used cells, the first fz of them shared and so never written again; a map -/
inductive Bk where
  | arr (len : Nat) (cs : List AV) (fz : Nat)
  | map (es : List (AV × AV)) (fz : Bool)
  | dead
  deriving Inhabited
structure St where
  t : List AV
  h : List Bk
inductive Ex where
  | normal | exit (id : Nat) | ret
  deriving DecidableEq
def Ex.to : Ex → Exit
  | .normal => .normal
  | .exit n => .exit n
  | .ret => .ret
/-- what is fixed: the program, what its variables read as, how many blocks keep their numbers -/
structure Cx where
  P : Program
  G : Nat → Option (List AV)
  keep : Nat
/-- how a state is seen more weakly: which slots are kept, which blocks (in their new order), which of these hold numbers of blocks, which slots of slices without room become own slices (with the cells of an element) -/
structure Fg where
  ks : List Nat
  l : List Nat := []
  mx : List Nat := []
  gh : List (Nat × Nat) := []
/-- what the prover says ahead of an operation -/
structure Hint where
  cells : Option (List AV) := none
  val : Option AV := none
  nil : Bool := false
  call : Option AV := none
  news : Option (List Bk) := none
  args : Option (List AV) := none
  sym : Bool := false
  heap : Option (AV × List Bk) := none
  loop : Option (Fg × St × Ex × St) := none
  frz : List Nat := []
  unroll : Nat := 0
def Hint.no : Hint := {}
def pureP {α : Type} (P : Program) : Sem α → Option α
  | .pure a => some a
  | .program k => pureP P (k P)
  | _ => none
def ofC : Value → AV
  | .slice none 0 0 => .nsl
  | .map none => .mp []
  | .slice _ _ _ | .map (some _) | .pointer (some _) | .func _ _ _ | .agg _ | .tuple _ => .any
  | v => .s v
def ofV : Value → AV
  | .agg cs => if cs.toList.all (·.oneCell') then .agg (cs.toList.map ofC) else .any
  | .tuple vs => if vs.size = 0 then .tup [] else .any
  | v => ofC v
def evalA (C : Cx) (t : List AV) : Operand → AV
  | .tmp i => t.getD i .any
  | .const v => ofV v
  | .global g => match C.G g with | some cs => .fptr cs | none => .any
  | .func f => .fn (.func f) [] []
def cellsA : AV → List AV
  | .agg cs => cs
  | v => [v]
def isCell : AV → Bool
  | .agg _ | .tup _ | .any => false
  | .s v => v.oneCell'
  | _ => true
def okCells : AV → Bool
  | .agg _ => true
  | v => isCell v
def splice {α : Type} (cs : List α) (off : Nat) (xs : List α) : List α := cs.take off ++ xs ++ cs.drop (off + xs.length)
def szOf (P : Program) (t : TypeId) : Option Nat := (P.info? t).map (·.size)
def aggD : TypeDesc → Bool
  | .struct _ | .array _ _ => true
  | _ => false
def aggB (P : Program) (t : TypeId) : Option Bool := (P.underlying t).map aggD
def zeroA (P : Program) (t : TypeId) : Option (List AV) :=
  match P.info? t with
  | some i => match i.zero with
    | some v => if v.cells.toList.all (·.oneCell') then some (v.cells.toList.map ofC) else none
    | none => none
  | none => none
def replZ (n : Nat) (z : List AV) : List AV := (List.replicate n z).flatten
def fillA (place : Nat → Option (Nat × Nat)) (cells : List AV) : List (Nat × AV) → Option (List AV)
  | [] => some cells
  | (i, v) :: rest =>
    match place i with
    | none => none
    | some (off, size) =>
      if okCells v = true ∧ (cellsA v).length = size ∧ off + size ≤ cells.length then fillA place (splice cells off (cellsA v)) rest else none
def takeE : Nat → List AV → Option (List AV)
  | 0, _ => some []
  | n + 1, c :: cs => (takeE n cs).map (c :: ·)
  | _ + 1, [] => none
def bytesA (s : ByteArray) : List AV := s.data.toList.map fun b => .s (.int .u8 b.toNat)
def toByte : AV → UInt8
  | .s (.int _ n) => UInt8.ofNat n.toNat
  | _ => 0
def isU8 : AV → Bool
  | .s (.int .u8 n) => decide (0 ≤ n) && decide (n < 256)
  | _ => false
def strA (cs : List AV) : ByteArray := ⟨(cs.map toByte).toArray⟩
def eqS : Value → Value → Option Bool
  | .int k a, .int k' b => if k = k' then some (a == b) else none
  | .bool a, .bool b => some (a == b)
  | .string a, .string b => some (a.toList == b.toList)
  | _, _ => none
def eqL : List AV → List AV → Option Bool
  | [], [] => some true
  | .s a :: xs, .s b :: ys => match eqS a b, eqL xs ys with
    | some p, some q => some (p && q)
    | _, _ => none
  | _, _ => none
def kindOk : TypeDesc → Value → Bool
  | .int _, .int _ _ | .bool, .bool _ | .string, .string _ => true
  | _, _ => false
/-- two structs of plain cells, field by field -/
def eqF (P : Program) : List Field → Nat → List AV → List AV → Option Bool
  | [], _, [], [] => some true
  | f :: fs, i, .s a :: xs, .s b :: ys => match P.underlying f.type with
    | some d => if f.name ≠ "_" ∧ f.offset = i ∧ kindOk d a = true then match eqS a b, eqF P fs (i + 1) xs ys with
      | some p, some q => some (p && q)
      | _, _ => none
      else none
    | none => none
  | _, _, _, _ => none
def eqAgg (P : Program) (t : TypeId) (xs ys : List AV) : Option Bool :=
  match P.underlying t with
  | some (.struct fs) => if P.stoodInHeld t = false ∧ P.eqGuardType P.depth t = false then eqF P fs.toList 0 xs ys else none
  | _ => none
def bnd (o : Option AV) (d : Int) : Option Int :=
  match o with
  | none => some d
  | some (.s (.int _ i)) => some i
  | _ => none
/-- an array's or a slice's cells that an append or a copy takes: how many elements, which cells -/
def srcA (g : Nat → Option Bk) (sz : Nat) : AV → Option (Nat × List AV)
  | .sl m cs => some (m, cs.take (m * sz))
  | .sx m cs => some (m, cs.take (m * sz))
  | .nsl => some (0, [])
  | .osl id off m k => match g id with
    | some (.arr _ cs _) => if k = sz then some (m, (cs.drop off).take (m * sz)) else none
    | _ => none
  | .s (.string b) => if sz = 1 then some (b.size, bytesA b) else none
  | .s (.slice none 0 0) => some (0, [])
  | _ => none
def srcB (g : Nat → Option Bk) : AV → Option (Nat × List AV)
  | .s _ => none
  | x => srcA g 1 x
abbrev Out := AV × List Bk × List Bool × List Prop
def rdBin (C : Cx) (op : BinOp) (xT : TypeId) (x y : Operand) : AV → AV → Option Out
  | .s (.int k a), .s (.int k' b) =>
    match op with
    | .shl => some (.s (.int k (k.wrap (a * 2 ^ min b.toNat k.bits))), [], [decide (0 ≤ b)], [])
    | .shr => some (.s (.int k (a.fdiv (2 ^ min b.toNat k.bits))), [], [decide (0 ≤ b)], [])
    | .quo => if k = k' then some (.s (.int k (k.wrap (a.tdiv b))), [], [decide (b ≠ 0)], []) else none
    | .rem => if k = k' then some (.s (.int k (a.tmod b)), [], [decide (b ≠ 0)], []) else none
    | op => (pureP C.P (binOp op xT (.int k a) (.int k' b))).map fun v => (.s v, [], [], [])
  | .s (.string a), .s (.string b) =>
    match op with
    | .add => some (.s (.string (a ++ b)), [], [decide (a.size + b.size ≤ 9223372036854775807)], [])
    | op => (pureP C.P (binOp op xT (.string a) (.string b))).map fun v => (.s v, [], [], [])
  | .s (.bool a), .s (.bool b) =>
    match op, C.P.underlying xT with
    | .eql, some .bool => some (.s (.bool (a == b)), [], [], [])
    | .neq, some .bool => some (.s (.bool (!(a == b))), [], [], [])
    | _, _ => none
  | .sx _ _, .nsl => match op, y, C.P.underlying xT with
    | .eql, .const (.slice none 0 0), some (.slice _) => some (.s (.bool false), [], [], [])
    | .neq, .const (.slice none 0 0), some (.slice _) => some (.s (.bool true), [], [], [])
    | _, _, _ => none
  | .s (.slice none 0 0), .nsl => match op, y, C.P.underlying xT with
    | .eql, .const (.slice none 0 0), some (.slice _) => some (.s (.bool true), [], [], [])
    | .neq, .const (.slice none 0 0), some (.slice _) => some (.s (.bool false), [], [], [])
    | _, _, _ => none
  | .agg xs, .agg ys => match op, eqAgg C.P xT xs ys with
    | .eql, some b => some (.s (.bool b), [], [], [])
    | .neq, some b => some (.s (.bool (!b)), [], [], [])
    | _, _ => none
  | _, _ => none
def rdConv (C : Cx) (g : Nat → Option Bk) (nid : Nat) (src dst : TypeId) (x : AV) : Option Out :=
  match C.P.underlying src, C.P.underlying dst with
  | some .string, some (.slice e) =>
    match C.P.underlying e, x with
    | some (.int .u8), .s (.string b) => some (.osl nid 0 b.size 1, [.arr b.size (bytesA b) 0], [], [])
    | _, _ => none
  | some (.slice e), some .string =>
    match C.P.underlying e, srcB g x with
    | some (.int .u8), some (m, cs) => some (.s (.string (strA cs)), [], [decide (cs.length = m), cs.all isU8], [])
    | _, _ => none
  | some _, some (.int k) => match x with
    | .s (.int _ n) => some (.s (.int k (k.wrap n)), [], [], [])
    | _ => none
  | some .string, some .string => match x with
    | .s (.string b) => some (.s (.string b), [], [], [])
    | _ => none
  | _, _ => none
def rdIndexAddr (C : Cx) (h : Hint) (t : TypeId) (x : AV) : AV → Option Out
  | .s (.int _ i) =>
    match C.P.underlying t with
    | some (.slice el) => match szOf C.P el with
      | some sz => match x with
        | .sl n cs => match h.cells with
          | some xs => some (.fptr xs, [], [decide (0 ≤ i ∧ i < n)], [cs.drop (i.toNat * sz) = xs])
          | none => some (.fptr (cs.drop (i.toNat * sz)), [], [decide (0 ≤ i ∧ i < n)], [])
        | .osl id off n k => if k = sz then some (.ptr id (off + i.toNat * sz), [], [decide (0 ≤ i ∧ i < n)], []) else none
        | _ => none
      | none => none
    | some (.array len el) => match szOf C.P el with
      | some sz => match x with
        | .ptr id off => some (.ptr id (off + i.toNat * sz), [], [decide (0 ≤ i ∧ i < len)], [])
        | .fptr cs => match h.cells with
          | some xs => some (.fptr xs, [], [decide (0 ≤ i ∧ i < len)], [cs.drop (i.toNat * sz) = xs])
          | none => some (.fptr (cs.drop (i.toNat * sz)), [], [decide (0 ≤ i ∧ i < len)], [])
        | _ => none
      | none => none
    | _ => none
  | _ => none
def derefA (g : Nat → Option Bk) : AV → Option (List AV)
  | .ptr id off => match g id with
    | some (.arr _ cs _) => some (cs.drop off)
    | _ => none
  | .fptr cs => some cs
  | _ => none
def loadV (h : Hint) (sz : Nat) (cs : List AV) : Bool → Option Out
  | true => match h.cells with
    | some xs => if xs.length = sz then some (.agg xs, [], [], [cs.take xs.length = xs]) else none
    | none => match takeE sz cs with
      | some xs => some (.agg xs, [], [], [])
      | none => none
  | false => match h.cells with
    | some [c] => some (c, [], [], [cs.take 1 = [c]])
    | some _ => none
    | none => match cs with
      | c :: _ => some (c, [], [], [])
      | [] => none
def rdLoad (C : Cx) (g : Nat → Option Bk) (h : Hint) (t : TypeId) (x : AV) : Option Out :=
  match szOf C.P t, aggB C.P t, derefA g x with
  | some sz, some ag, some cs => loadV h sz cs ag
  | _, _, _ => none
def slIn (l u m n : Int) (hi mx : Option AV) : Bool := decide (0 ≤ l ∧ l ≤ u ∧ u ≤ m ∧ m ≤ n) && (mx.isNone || hi.isSome)
def pieceA (sz : Nat) (l u : Int) (cs : List AV) : List AV := (cs.drop (l.toNat * sz)).take ((u - l).toNat * sz)
def rdSliceS (g : Nat → Option Bk) (h : Hint) (sz : Nat) (x : AV) (lo hi mx : Option AV) : Option Out :=
  match x with
  | .sl n cs => match bnd lo 0, bnd hi n, bnd mx n with
    | some l, some u, some m => if h.nil then some (.nsl, [], [slIn l u m n hi mx, decide (m = l), mx.isSome], [])
      else match h.cells with
        | some xs => some (.sl (u - l).toNat xs, [], [slIn l u m n hi mx], [pieceA sz l u cs = xs])
        | none => some (.sl (u - l).toNat (pieceA sz l u cs), [], [slIn l u m n hi mx], [])
    | _, _, _ => none
  | .osl id off n k => match bnd lo 0, bnd hi n, bnd mx n with
    | some l, some u, some m => if k = sz then some (.osl id (off + l.toNat * sz) (u - l).toNat sz, [], [slIn l u m n hi mx], []) else none
    | _, _, _ => none
  | .nsl => match bnd lo 0, bnd hi 0, bnd mx 0 with
    | some l, some u, some m => some (.nsl, [], [slIn l u m 0 hi mx], [])
    | _, _, _ => none
  | _ => none
def rdSlice (C : Cx) (g : Nat → Option Bk) (h : Hint) (t : TypeId) (x : AV) (lo hi mx : Option AV) : Option Out :=
  match C.P.underlying t with
  | some .string => match x, mx with
    | .s (.string b), none => match bnd lo 0, bnd hi b.size with
      | some l, some u => some (.s (.string (b.extract l.toNat u.toNat)), [], [slIn l u b.size b.size hi mx], [])
      | _, _ => none
    | _, _ => none
  | some (.slice el) => match szOf C.P el with
    | some sz => rdSliceS g h sz x lo hi mx
    | none => none
  | some (.array n el) => match szOf C.P el, mx with
    | some sz, none => match x with
      | .ptr id off => match g id, bnd lo 0, bnd hi n with
        | some (.arr L _ _), some l, some u => some (.osl id (off + l.toNat * sz) (u - l).toNat sz, [], [slIn l u n n hi mx, decide (off + n * sz ≤ L)], [])
        | _, _, _ => none
      | .fptr cs => match bnd lo 0, bnd hi n with
        | some l, some u => some (.sl (u - l).toNat (pieceA sz l u cs), [], [slIn l u n n hi mx], [])
        | _, _ => none
      | _ => none
    | _, _ => none
  | _ => none
def fieldOf (P : Program) (t : TypeId) (f : Nat) : Option Field :=
  match P.underlying t with
  | some (.struct fs) => fs[f]?
  | _ => none
def partA (C : Cx) (t : TypeId) (cs : List AV) : Option AV :=
  match szOf C.P t, aggB C.P t with
  | some sz, some true => (takeE sz cs).map .agg
  | some _, some false => cs.head?
  | _, _ => none
def placesOf (P : Program) (fs : List Field) : Option (List (Nat × Nat)) :=
  match fs with
  | [] => some []
  | f :: r => match szOf P f.type, placesOf P r with
    | some s, some l => some ((f.offset, s) :: l)
    | _, _ => none
def rdBuild (C : Cx) (t : TypeId) (ps : List (Nat × AV)) : Option Out :=
  match zeroA C.P t, C.P.underlying t with
  | some z, some (.struct fs) => match placesOf C.P fs.toList with
    | some pl => (fillA (pl[·]?) z ps).map fun cs => (.agg cs, [], [], [])
    | none => none
  | some z, some (.array _ el) => match szOf C.P el with
    | some sz => (fillA (fun i => some (i * sz, sz)) z ps).map fun cs => (.agg cs, [], [], [])
    | none => none
  | _, _ => none
def rdBuiltin (C : Cx) (g : Nat → Option Bk) (b : Builtin) (ts : List TypeId) (xs : List AV) : Option Out :=
  match b with
  | .len => match ts, xs with
    | [t], [x] => match C.P.underlying t, x with
      | some .string, .s (.string b) => some (.s (.int .i64 b.size), [], [], [])
      | some (.array n _), _ => some (.s (.int .i64 n), [], [], [])
      | some (.slice _), .sl n _ => some (.s (.int .i64 n), [], [], [])
      | some (.slice _), .sx n _ => some (.s (.int .i64 n), [], [], [])
      | some (.slice _), .nsl => some (.s (.int .i64 0), [], [], [])
      | some (.slice _), .osl _ _ n _ => some (.s (.int .i64 n), [], [], [])
      | some (.map _ _), .mp es => some (.s (.int .i64 es.length), [], [], [])
      | some (.map _ _), .omp id => match g id with
        | some (.map es _) => some (.s (.int .i64 es.length), [], [], [])
        | _ => none
      | _, _ => none
    | _, _ => none
  | .min => match xs with
    | [.s (.int k x), .s (.int _ y)] => some (.s (.int k (if y < x then y else x)), [], [], [])
    | _ => none
  | .max => match xs with
    | [.s (.int k x), .s (.int _ y)] => some (.s (.int k (if y > x then y else x)), [], [], [])
    | _ => none
  | _ => none
/-- an operation that writes nothing that was there: its value, the blocks that it makes, what it asks -/
def rd (C : Cx) (g : Nat → Option Bk) (nid : Nat) (e : Operand → AV) (h : Hint) : Op → Option Out
  | .move x | .assign x => some (e x, [], [], [])
  | .pick c a b => match e c with
    | .s (.bool t) => some (if t then e a else e b, [], [], [])
    | _ => none
  | .alloc T => (zeroA C.P T).map fun z => (.ptr nid 0, [.arr z.length z 0], [], [])
  | .box _ x => if okCells (e x) then some (.ptr nid 0, [.arr (cellsA (e x)).length (cellsA (e x)) 0], [], []) else none
  | .build t ps => rdBuild C t (ps.toList.map fun p => (p.1, e p.2))
  | .buildSlice t len ps => match C.P.underlying t with
    | some (.slice el) => match zeroA C.P el, szOf C.P el with
      | some z, some sz => if z.length = sz ∧ 0 < sz ∧ len * sz ≤ 16777216 then (fillA (fun i => some (i * sz, sz)) (replZ len z) (ps.toList.map fun p => (p.1, e p.2))).map fun cs => (.osl nid 0 len sz, [.arr (len * sz) cs 0], [], []) else none
      | _, _ => none
    | _ => none
  | .load t x => rdLoad C g h t (e x)
  | .nilCheck x => match e x with
    | .ptr id off => some (.ptr id off, [], [], [])
    | .fptr cs => some (.fptr cs, [], [], [])
    | .fn (.func f) a b => some (.fn (.func f) a b, [], [], [])
    | _ => none
  | .binOp op xT x y _ => rdBin C op xT x y (e x) (e y)
  | .unOp op _ x => match e x with
    | .s (.int k n) => (pureP C.P (Op.unary op (.int k n))).map fun v => (.s v, [], [], [])
    | .s (.bool b) => (pureP C.P (Op.unary op (.bool b))).map fun v => (.s v, [], [], [])
    | _ => none
  | .convert src dst x => rdConv C g nid src dst (e x)
  | .makeFunc fn a b => some (.fn fn (a.toList.map e) (b.toList.map e), [], [], [])
  | .makeSlice t l c => match C.P.underlying t with
    | some (.slice el) => match zeroA C.P el, C.P.info? el, e l, e c with
      | some z, some i, .s (.int _ n), .s (.int _ m) => if z.length = i.size ∧ 0 < i.size then match h.cells with
        | some xs => some (.osl nid 0 n.toNat i.size, [.arr (n.toNat * i.size) xs 0], [decide (0 ≤ n ∧ n ≤ m ∧ m * i.bytes ≤ 140737488355328 ∧ m ≤ 140737488355328)], [replZ n.toNat z = xs])
        | none => some (.osl nid 0 n.toNat i.size, [.arr (n.toNat * i.size) (replZ n.toNat z) 0], [decide (0 ≤ n ∧ n ≤ m ∧ m * i.bytes ≤ 140737488355328 ∧ m ≤ 140737488355328)], [])
        else none
      | _, _, _, _ => none
    | _ => none
  | .slice t x lo hi mx => rdSlice C g h t (e x) (lo.map e) (hi.map e) (mx.map e)
  | .fieldAddr t x f => match fieldOf C.P t f with
    | some fd => match szOf C.P fd.type with
      | some sz => if sz = 0 then none else match e x with
        | .ptr id off => some (.ptr id (off + fd.offset), [], [], [])
        | .fptr cs => some (.fptr (cs.drop fd.offset), [], [], [])
        | _ => none
      | none => none
    | none => none
  | .field t x f => match fieldOf C.P t f, e x with
    | some fd, .agg cs => (partA C fd.type (cs.drop fd.offset)).map fun v => (v, [], [], [])
    | _, _ => none
  | .indexAddr t x ix => rdIndexAddr C h t (e x) (e ix)
  | .index t x ix => match C.P.underlying t, e x, e ix with
    | some .string, .s (.string b), .s (.int _ i) => some (.s (.int .u8 (b.data.toList.getD i.toNat 0).toNat), [], [decide (0 ≤ i ∧ i < b.size)], [])
    | some (.array len el), .agg cs, .s (.int _ i) => match szOf C.P el with
      | some sz => match h.cells with
        | some xs => (partA C el xs).map fun v => (v, [], [decide (0 ≤ i ∧ i < len)], [cs.drop (i.toNat * sz) = xs])
        | none => (partA C el (cs.drop (i.toNat * sz))).map fun v => (v, [], [decide (0 ≤ i ∧ i < len)], [])
      | none => none
    | _, _, _ => none
  | .extract x ix => match e x with
    | .tup vs => (vs[ix]?).map fun v => (v, [], [], [])
    | _ => none
  | .call c => match c.callee with
    | .builtin b => rdBuiltin C g b c.argTypes.toList (c.args.toList.map e)
    | _ => none
  | _ => none
def keyB : AV → AV → Bool
  | .s a, .s b => (eqS a b).getD false
  | .agg xs, .agg ys => (eqL xs ys).getD false
  | _, _ => false
def mfind (es : List (AV × AV)) (k : AV) : Option AV := (es.find? fun p => keyB p.1 k).map (·.2)
def mput : List (AV × AV) → AV → AV → List (AV × AV)
  | [], k, v => [(k, v)]
  | p :: r, k, v => if keyB p.1 k then (k, v) :: r else p :: mput r k v
def mdel (es : List (AV × AV)) (k : AV) : List (AV × AV) := es.eraseP fun p => keyB p.1 k
/-- writes to blocks: which, what lies there then -/
abbrev Ws := List (Nat × Bk)
abbrev Eff := AV × Ws × List Bool × List Prop
def putB (H : List Bk) (p : Nat × Bk) : List Bk := (H ++ List.replicate (p.1 + 1 - H.length) Bk.dead).set p.1 p.2
def putW (H : List Bk) (w : Ws) : List Bk := w.foldl putB H
def newsW : Nat → List Bk → Ws
  | _, [] => []
  | n, b :: r => (n, b) :: newsW (n + 1) r
def srcD : TypeDesc → Bool
  | .slice _ | .string => true
  | _ => false
/-- an operation that writes own blocks: its value, what it writes, what it asks -/
def wr (C : Cx) (g : Nat → Option Bk) (nid : Nat) (e : Operand → AV) (h : Hint) : Op → Option Eff
  | .store t x y => match szOf C.P t, e x with
    | some sz, .ptr id off => match g id with
      | some (.arr L cs fz) =>
        if okCells (e y) = true ∧ (cellsA (e y)).length = sz then
          match h.cells with
          | some xs => some (.tup [], [(id, .arr L xs fz)], [decide (off + sz ≤ L), decide (fz ≤ off)], [splice cs off (cellsA (e y)) = xs])
          | none => some (.tup [], [(id, .arr L (splice cs off (cellsA (e y))) fz)], [decide (off + sz ≤ L), decide (fz ≤ off)], [])
        else none
      | _ => none
    | _, _ => none
  | .call c => match c.callee, c.argTypes.toList, c.args.toList.map e with
    | .builtin .append, [t, u], [s, x] => match C.P.underlying t with
      | some (.slice el) => match C.P.info? el, zeroA C.P el, C.P.underlying u with
        | some i, some z, some ud => if z.length = i.size ∧ 0 < i.size ∧ 0 < i.bytes ∧ srcD ud = true then
          match srcA g i.size x with
          | some (m, xs) => match s with
            | .nsl => match h.cells with
              | some zs => some (.osl nid 0 m i.size, [(nid, .arr (m * i.size) zs 0)], [decide (m * i.bytes ≤ 140737488355328), decide (xs.length = m * i.size)], [xs = zs])
              | none => some (.osl nid 0 m i.size, [(nid, .arr (m * i.size) xs 0)], [decide (m * i.bytes ≤ 140737488355328), decide (xs.length = m * i.size)], [])
            | .osl id 0 n k => match g id with
              | some (.arr L cs fz) => if k = i.size then
                match h.cells with
                | some zs => some (.osl nid 0 (n + m) i.size, [(id, .dead), (nid, .arr ((n + m) * i.size) zs fz)], [decide (L = n * i.size ∧ fz ≤ L ∧ L = cs.length), decide ((n + m) * i.bytes ≤ 140737488355328), decide (xs.length = m * i.size)], [cs ++ xs = zs])
                | none => some (.osl nid 0 (n + m) i.size, [(id, .dead), (nid, .arr ((n + m) * i.size) (cs ++ xs) fz)], [decide (L = n * i.size ∧ fz ≤ L ∧ L = cs.length), decide ((n + m) * i.bytes ≤ 140737488355328), decide (xs.length = m * i.size)], [])
                else none
              | _ => none
            | _ => none
          | none => none
          else none
        | _, _, _ => none
      | _ => none
    | .builtin .copy, [t, _], [d, x] => match C.P.underlying t with
      | some (.slice el) => match szOf C.P el with
        | some sz => match srcA g sz x with
          | some (m, xs) => match d with
            | .osl id off n k => match g id with
              | some (.arr L cs fz) => if k = sz then
                match h.cells with
                | some zs => some (.s (.int .i64 (min m n : Nat)), [(id, .arr L zs fz)], [decide (off + n * sz ≤ L), decide (fz ≤ off), decide (xs.length = m * sz)], [splice cs off (xs.take (min m n * sz)) = zs])
                | none => some (.s (.int .i64 (min m n : Nat)), [(id, .arr L (splice cs off (xs.take (min m n * sz))) fz)], [decide (off + n * sz ≤ L), decide (fz ≤ off), decide (xs.length = m * sz)], [])
                else none
              | _ => none
            | .nsl => some (.s (.int .i64 0), [], [decide (xs.length = m * sz)], [])
            | _ => none
          | none => none
        | none => none
      | _ => none
    | _, _, _ => none
  | _ => none
/-- the blocks that an operation looks into -/
def topId : AV → List Nat
  | .osl id _ _ _ | .ptr id _ | .omp id => [id]
  | _ => []
def idsA : AV → List Nat
  | .agg cs => cs.flatMap topId
  | x => topId x
def calleeIds (e : Operand → AV) : Callee → List Nat
  | .value f => match e f with
    | .fn _ p q => p.flatMap idsA ++ q.flatMap idsA
    | _ => []
  | _ => []
def rIds (e : Operand → AV) : Op → List Nat
  | .load _ x | .slice _ x _ _ _ | .convert _ _ x | .store _ x _ | .lookup _ x _ _ | .mapUpdate _ x _ _ | .insert _ x _ _ => topId (e x)
  | .call c => (c.args.toList.flatMap fun x => idsA (e x)) ++ calleeIds e c.callee
  | _ => []
end Go.Pm
