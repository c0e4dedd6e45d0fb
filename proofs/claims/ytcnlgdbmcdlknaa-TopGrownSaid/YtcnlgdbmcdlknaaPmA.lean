/- A machine of plain values beside the model's: what a piece of code makes of values that bear no addresses of memory that was there before. The definitions. By the prover of this seat. The machine of plain values: how its values and its blocks stand to the model's. By the prover of this seat. The machine of plain values: what a call and a piece of code are said to do; a walk that reckons. By the prover of this seat. The machine of plain values: new blocks, written blocks. By the prover of this seat. The machine of plain values: operations that only read, and what they yield. By the prover of this seat. The machine of plain values: numbers, comparisons. By the prover of this seat. The machine of plain values: binary operations, conversions, addresses of elements, pieces. By the prover of this seat. The machine of plain values: addresses of elements, pieces of slices and strings, builtins. By the prover of this seat. The machine of plain values: pieces of slices, arrays and strings. By the prover of this seat. The machine of plain values: structs and arrays laid together, parts, bytes and strings, builtins, new rows. By the prover of this seat. -/
import Derived.WalkKit
import Derived.Orders
import Derived.Laws.StructEq
import Derived.Maps.Keyed
import Derived.DeepKeys4
import Derived.Below
import Derived.Laws.CopyRow
import Derived.Laws.Append
import Derived.Laws.MakeOwn
import Derived.Laws.AppendOwn
set_option linter.unusedVariables false
namespace Go.Pm
open Go
/-- a value: s: the model's own, without addresses; sl: a slice that nobody writes any more, of n elements, its cells; sx: one that is not nil; nsl: a slice without room; osl: a piece of an own block, k cells an element; ptr: into an own block; fptr: to cells that nobody writes any more; mp: a map that nobody writes any more; omp: an own map -/
inductive AV where
  | s (v : Value)
  | agg (cs : List AV)
  | tup (vs : List AV)
  | sl (n : Nat) (cs : List AV)
  | sx (n : Nat) (cs : List AV)
  | nsl
  | osl (id off n k : Nat)
  | ptr (id off : Nat)
  | fptr (cs : List AV)
  | mp (es : List (AV × AV))
  | omp (id : Nat)
  | fn (f : Fn) (pre cap : List AV)
  | any
  deriving Inhabited
/-- how many of a row's first cells are shared; what the row is of, where that is known -/
structure Fz where
  n : Nat
  ty : Option Nat := none
  deriving Inhabited, DecidableEq
@[reducible] instance instFz (n : Nat) : OfNat Fz n := ⟨⟨n, none⟩⟩
instance : Coe Fz Nat := ⟨Fz.n⟩
def Fz.at (f : Fz) (n : Nat) : Fz := ⟨n, f.ty⟩
def Fz.cut (f : Fz) (b : Bool) (o : Nat) : Fz := match b with
  | true => ⟨f.n - o, f.ty⟩
  | false => f
def Fz.el (f : Fz) (t : Nat) : Fz := match f.ty with
  | some u => if u = t then f else ⟨f.n, none⟩
  | none => f
/-- an own block: a row of len used cells, the first fz of them shared and so never written again; a map; a walk over a map that nobody writes any more: what came last, what is still to come -/
inductive Bk where
  | arr (len : Nat) (cs : List AV) (fz : Fz)
  | map (es : List (AV × AV)) (fz : Bool)
  | iter (cur left : List (AV × AV))
  | dead
  deriving Inhabited
structure St where
  t : List AV
  h : List Bk
inductive Ex where
  | normal | exit (id : Nat) | ret
  deriving DecidableEq
def Ex.to : Ex → Exit
  | .normal => .normal
  | .exit n => .exit n
  | .ret => .ret
/-- what is fixed: the program, what its variables read as, how many blocks keep their numbers -/
structure Cx where
  P : Program
  G : Nat → Option (List AV)
  keep : Nat
/-- how a state is seen more weakly: which slots are kept, which blocks (in their new order), which of these hold numbers of blocks, which slots of slices without room become own slices (with the cells of an element); which cells of blocks do -/
structure Fg where
  ks : List Nat
  l : List Nat := []
  mx : List Nat := []
  gh : List (Nat × Nat) := []
  gc : List (Nat × Nat × Nat) := []
  km : List Nat := []
/-- what the prover says ahead of an operation -/
structure Hint where
  cells : Option (List AV) := none
  val : Option AV := none
  nil : Bool := false
  call : Option AV := none
  news : Option (List Bk) := none
  args : Option (List AV) := none
  sym : Bool := false
  heap : Option (AV × List Bk) := none
  loop : Option (Fg × St × Ex × St) := none
  frz : List Nat := []
  unroll : Nat := 0
  loose : Bool := false
  kept : Bool := false
  ents : Option (List (AV × AV)) := none
  /-- a new row is told what it is of -/
  typed : Bool := false
  /-- a call upon some blocks: which, which of them are pure, behind the call, what comes, the blocks behind it -/
  sub : Option (List Nat × List Bool × List Bool × AV × List Bk) := none
  /-- an append to a slice that begins behind its row's beginning: the shared cells are counted from there on -/
  cut : Bool := false
def Hint.tyF (h : Hint) (t : TypeId) : Fz := if h.typed then ⟨0, some t⟩ else 0
def Hint.no : Hint := {}
def pureP {α : Type} (P : Program) : Sem α → Option α
  | .pure a => some a
  | .program k => pureP P (k P)
  | _ => none
def ofC : Value → AV
  | .slice none 0 0 => .nsl
  | .map none => .mp []
  | .slice _ _ _ | .map (some _) | .pointer (some _) | .func _ _ _ | .agg _ | .tuple _ => .any
  | v => .s v
def ofV : Value → AV
  | .agg cs => if cs.toList.all (·.oneCell') then .agg (cs.toList.map ofC) else .any
  | .tuple vs => if vs.size = 0 then .tup [] else .any
  | v => ofC v
def evalA (C : Cx) (t : List AV) : Operand → AV
  | .tmp i => t.getD i .any
  | .const v => ofV v
  | .global g => match C.G g with | some cs => .fptr cs | none => .any
  | .func f => .fn (.func f) [] []
def cellsA : AV → List AV
  | .agg cs => cs
  | v => [v]
def isCell : AV → Bool
  | .agg _ | .tup _ | .any => false
  | .s v => v.oneCell'
  | _ => true
def okCells : AV → Bool
  | .agg _ => true
  | v => isCell v
def splice {α : Type} (cs : List α) (off : Nat) (xs : List α) : List α := cs.take off ++ xs ++ cs.drop (off + xs.length)
/-- a type's zero, cell by cell, as it is -/
def zeroX (P : Program) (t : TypeId) : Option (List AV) :=
  match P.info? t with
  | some i => match i.zero with
    | some v => if v.cells.toList.all (·.oneCell') then some (v.cells.toList.map .s) else none
    | none => none
  | none => none
def szOf (P : Program) (t : TypeId) : Option Nat := (P.info? t).map (·.size)
def aggD : TypeDesc → Bool
  | .struct _ | .array _ _ => true
  | _ => false
def aggB (P : Program) (t : TypeId) : Option Bool := (P.underlying t).map aggD
def zeroA (P : Program) (t : TypeId) : Option (List AV) :=
  match P.info? t with
  | some i => match i.zero with
    | some v => if v.cells.toList.all (·.oneCell') then some (v.cells.toList.map ofC) else none
    | none => none
  | none => none
def replZ (n : Nat) (z : List AV) : List AV := (List.replicate n z).flatten
def fillA (place : Nat → Option (Nat × Nat)) (cells : List AV) : List (Nat × AV) → Option (List AV)
  | [] => some cells
  | (i, v) :: rest =>
    match place i with
    | none => none
    | some (off, size) =>
      if okCells v = true ∧ (cellsA v).length = size ∧ off + size ≤ cells.length then fillA place (splice cells off (cellsA v)) rest else none
def takeE : Nat → List AV → Option (List AV)
  | 0, _ => some []
  | n + 1, c :: cs => (takeE n cs).map (c :: ·)
  | _ + 1, [] => none
def bytesA (s : ByteArray) : List AV := s.data.toList.map fun b => .s (.int .u8 b.toNat)
def toByte : AV → UInt8
  | .s (.int _ n) => UInt8.ofNat n.toNat
  | _ => 0
def isU8 : AV → Bool
  | .s (.int .u8 n) => decide (0 ≤ n) && decide (n < 256)
  | _ => false
def strA (cs : List AV) : ByteArray := ⟨(cs.map toByte).toArray⟩
def eqS : Value → Value → Option Bool
  | .int k a, .int k' b => if k = k' then some (a == b) else none
  | .bool a, .bool b => some (a == b)
  | .string a, .string b => some (a.toList == b.toList)
  | _, _ => none
def eqL : List AV → List AV → Option Bool
  | [], [] => some true
  | .s a :: xs, .s b :: ys => match eqS a b, eqL xs ys with
    | some p, some q => some (p && q)
    | _, _ => none
  | _, _ => none
def kindOk : TypeDesc → Value → Bool
  | .int _, .int _ _ | .bool, .bool _ | .string, .string _ => true
  | _, _ => false
/-- two structs of plain cells, field by field -/
def eqF (P : Program) : List Field → Nat → List AV → List AV → Option Bool
  | [], _, [], [] => some true
  | f :: fs, i, .s a :: xs, .s b :: ys => match P.underlying f.type with
    | some d => if f.name ≠ "_" ∧ f.offset = i ∧ kindOk d a = true then match eqS a b, eqF P fs (i + 1) xs ys with
      | some p, some q => some (p && q)
      | _, _ => none
      else none
    | none => none
  | _, _, _, _ => none
def eqAgg (P : Program) (t : TypeId) (xs ys : List AV) : Option Bool :=
  match P.underlying t with
  | some (.struct fs) => if P.stoodInHeld t = false ∧ P.eqGuardType P.depth t = false then eqF P fs.toList 0 xs ys else none
  | _ => none
def bnd (o : Option AV) (d : Int) : Option Int :=
  match o with
  | none => some d
  | some (.s (.int _ i)) => some i
  | _ => none
/-- an array's or a slice's cells that an append or a copy takes: how many elements, which cells -/
def srcA (g : Nat → Option Bk) (sz : Nat) : AV → Option (Nat × List AV)
  | .sl m cs => some (m, cs.take (m * sz))
  | .sx m cs => some (m, cs.take (m * sz))
  | .nsl => some (0, [])
  | .osl id off m k => match g id with
    | some (.arr _ cs _) => if k = sz then some (m, (cs.drop off).take (m * sz)) else none
    | _ => none
  | .s (.string b) => if sz = 1 then some (b.size, bytesA b) else none
  | .s (.slice none 0 0) => some (0, [])
  | _ => none
def srcB (g : Nat → Option Bk) : AV → Option (Nat × List AV)
  | .s _ => none
  | x => srcA g 1 x
abbrev Out := AV × List Bk × List Bool × List Prop
def rdBin (C : Cx) (op : BinOp) (xT : TypeId) (x y : Operand) : AV → AV → Option Out
  | .s (.int k a), .s (.int k' b) =>
    match op with
    | .shl => some (.s (.int k (k.wrap (a * 2 ^ min b.toNat k.bits))), [], [decide (0 ≤ b)], [])
    | .shr => some (.s (.int k (a.fdiv (2 ^ min b.toNat k.bits))), [], [decide (0 ≤ b)], [])
    | .quo => if k = k' then some (.s (.int k (k.wrap (a.tdiv b))), [], [decide (b ≠ 0)], []) else none
    | .rem => if k = k' then some (.s (.int k (a.tmod b)), [], [decide (b ≠ 0)], []) else none
    | op => (pureP C.P (binOp op xT (.int k a) (.int k' b))).map fun v => (.s v, [], [], [])
  | .s (.string a), .s (.string b) =>
    match op with
    | .add => some (.s (.string (a ++ b)), [], [decide (a.size + b.size ≤ 9223372036854775807)], [])
    | op => (pureP C.P (binOp op xT (.string a) (.string b))).map fun v => (.s v, [], [], [])
  | .s (.bool a), .s (.bool b) =>
    match op, C.P.underlying xT with
    | .eql, some .bool => some (.s (.bool (a == b)), [], [], [])
    | .neq, some .bool => some (.s (.bool (!(a == b))), [], [], [])
    | _, _ => none
  | .sx _ _, .nsl => match op, y, C.P.underlying xT with
    | .eql, .const (.slice none 0 0), some (.slice _) => some (.s (.bool false), [], [], [])
    | .neq, .const (.slice none 0 0), some (.slice _) => some (.s (.bool true), [], [], [])
    | _, _, _ => none
  | .s (.slice none 0 0), .nsl => match op, y, C.P.underlying xT with
    | .eql, .const (.slice none 0 0), some (.slice _) => some (.s (.bool true), [], [], [])
    | .neq, .const (.slice none 0 0), some (.slice _) => some (.s (.bool false), [], [], [])
    | _, _, _ => none
  | .agg xs, .agg ys => match op, eqAgg C.P xT xs ys with
    | .eql, some b => some (.s (.bool b), [], [], [])
    | .neq, some b => some (.s (.bool (!b)), [], [], [])
    | _, _ => none
  | _, _ => none
def rdConv (C : Cx) (g : Nat → Option Bk) (nid : Nat) (src dst : TypeId) (x : AV) : Option Out :=
  match C.P.underlying src, C.P.underlying dst with
  | some .string, some (.slice e) =>
    match C.P.underlying e, x with
    | some (.int .u8), .s (.string b) => some (.osl nid 0 b.size 1, [.arr b.size (bytesA b) 0], [], [])
    | _, _ => none
  | some (.slice e), some .string =>
    match C.P.underlying e, srcB g x with
    | some (.int .u8), some (m, cs) => some (.s (.string (strA cs)), [], [decide (cs.length = m), cs.all isU8], [])
    | _, _ => none
  | some _, some (.int k) => match x with
    | .s (.int _ n) => some (.s (.int k (k.wrap n)), [], [], [])
    | _ => none
  | some .string, some .string => match x with
    | .s (.string b) => some (.s (.string b), [], [], [])
    | _ => none
  | _, _ => none
def rdIndexAddr (C : Cx) (h : Hint) (t : TypeId) (x : AV) : AV → Option Out
  | .s (.int _ i) =>
    match C.P.underlying t with
    | some (.slice el) => match szOf C.P el with
      | some sz => match x with
        | .sl n cs => match h.cells with
          | some xs => some (.fptr xs, [], [decide (0 ≤ i ∧ i < n)], [cs.drop (i.toNat * sz) = xs])
          | none => some (.fptr (cs.drop (i.toNat * sz)), [], [decide (0 ≤ i ∧ i < n)], [])
        | .osl id off n k => if k = sz then some (.ptr id (off + i.toNat * sz), [], [decide (0 ≤ i ∧ i < n)], []) else none
        | _ => none
      | none => none
    | some (.array len el) => match szOf C.P el with
      | some sz => match x with
        | .ptr id off => some (.ptr id (off + i.toNat * sz), [], [decide (0 ≤ i ∧ i < len)], [])
        | .fptr cs => match h.cells with
          | some xs => some (.fptr xs, [], [decide (0 ≤ i ∧ i < len)], [cs.drop (i.toNat * sz) = xs])
          | none => some (.fptr (cs.drop (i.toNat * sz)), [], [decide (0 ≤ i ∧ i < len)], [])
        | _ => none
      | none => none
    | _ => none
  | _ => none
def derefA (g : Nat → Option Bk) : AV → Option (List AV)
  | .ptr id off => match g id with
    | some (.arr _ cs _) => some (cs.drop off)
    | _ => none
  | .fptr cs => some cs
  | _ => none
def loadV (h : Hint) (sz : Nat) (cs : List AV) : Bool → Option Out
  | true => match h.cells with
    | some xs => if xs.length = sz then some (.agg xs, [], [], [cs.take xs.length = xs]) else none
    | none => match takeE sz cs with
      | some xs => some (.agg xs, [], [], [])
      | none => none
  | false => match h.cells with
    | some [c] => some (c, [], [], [cs.take 1 = [c]])
    | some _ => none
    | none => match cs with
      | c :: _ => some (c, [], [], [])
      | [] => none
def rdLoad (C : Cx) (g : Nat → Option Bk) (h : Hint) (t : TypeId) (x : AV) : Option Out :=
  match szOf C.P t, aggB C.P t, derefA g x with
  | some sz, some ag, some cs => loadV h sz cs ag
  | _, _, _ => none
def slIn (l u m n : Int) (hi mx : Option AV) : Bool := decide (0 ≤ l ∧ l ≤ u ∧ u ≤ m ∧ m ≤ n) && (mx.isNone || hi.isSome)
def pieceA (sz : Nat) (l u : Int) (cs : List AV) : List AV := (cs.drop (l.toNat * sz)).take ((u - l).toNat * sz)
def rdSliceS (g : Nat → Option Bk) (h : Hint) (sz : Nat) (x : AV) (lo hi mx : Option AV) : Option Out :=
  match x with
  | .sl n cs => match bnd lo 0, bnd hi n, bnd mx n with
    | some l, some u, some m => if h.nil then some (.nsl, [], [slIn l u m n hi mx, decide (m = l), mx.isSome], [])
      else match h.cells with
        | some xs => some (.sl (u - l).toNat xs, [], [slIn l u m n hi mx], [pieceA sz l u cs = xs])
        | none => some (.sl (u - l).toNat (pieceA sz l u cs), [], [slIn l u m n hi mx], [])
    | _, _, _ => none
  | .osl id off n k => match bnd lo 0, bnd hi n, bnd mx n with
    | some l, some u, some m => if k = sz then some (.osl id (off + l.toNat * sz) (u - l).toNat sz, [], [slIn l u m n hi mx], []) else none
    | _, _, _ => none
  | .nsl => match bnd lo 0, bnd hi 0, bnd mx 0 with
    | some l, some u, some m => some (.nsl, [], [slIn l u m 0 hi mx], [])
    | _, _, _ => none
  | _ => none
def rdSlice (C : Cx) (g : Nat → Option Bk) (h : Hint) (t : TypeId) (x : AV) (lo hi mx : Option AV) : Option Out :=
  match C.P.underlying t with
  | some .string => match x, mx with
    | .s (.string b), none => match bnd lo 0, bnd hi b.size with
      | some l, some u => some (.s (.string (b.extract l.toNat u.toNat)), [], [slIn l u b.size b.size hi mx], [])
      | _, _ => none
    | _, _ => none
  | some (.slice el) => match szOf C.P el with
    | some sz => rdSliceS g h sz x lo hi mx
    | none => none
  | some (.array n el) => match szOf C.P el, mx with
    | some sz, none => match x with
      | .ptr id off => match g id, bnd lo 0, bnd hi n with
        | some (.arr L _ _), some l, some u => some (.osl id (off + l.toNat * sz) (u - l).toNat sz, [], [slIn l u n n hi mx, decide (off + n * sz ≤ L)], [])
        | _, _, _ => none
      | .fptr cs => match bnd lo 0, bnd hi n with
        | some l, some u => some (.sl (u - l).toNat (pieceA sz l u cs), [], [slIn l u n n hi mx], [])
        | _, _ => none
      | _ => none
    | _, _ => none
  | _ => none
def fieldOf (P : Program) (t : TypeId) (f : Nat) : Option Field :=
  match P.underlying t with
  | some (.struct fs) => fs[f]?
  | _ => none
def partA (C : Cx) (t : TypeId) (cs : List AV) : Option AV :=
  match szOf C.P t, aggB C.P t with
  | some sz, some true => (takeE sz cs).map .agg
  | some _, some false => cs.head?
  | _, _ => none
def placesOf (P : Program) (fs : List Field) : Option (List (Nat × Nat)) :=
  match fs with
  | [] => some []
  | f :: r => match szOf P f.type, placesOf P r with
    | some s, some l => some ((f.offset, s) :: l)
    | _, _ => none
def rdBuild (C : Cx) (t : TypeId) (ps : List (Nat × AV)) : Option Out :=
  match zeroA C.P t, C.P.underlying t with
  | some z, some (.struct fs) => match placesOf C.P fs.toList with
    | some pl => (fillA (pl[·]?) z ps).map fun cs => (.agg cs, [], [], [])
    | none => none
  | some z, some (.array _ el) => match szOf C.P el with
    | some sz => (fillA (fun i => some (i * sz, sz)) z ps).map fun cs => (.agg cs, [], [], [])
    | none => none
  | _, _ => none
def rdBuiltin (C : Cx) (g : Nat → Option Bk) (b : Builtin) (ts : List TypeId) (xs : List AV) : Option Out :=
  match b with
  | .len => match ts, xs with
    | [t], [x] => match C.P.underlying t, x with
      | some .string, .s (.string b) => some (.s (.int .i64 b.size), [], [], [])
      | some (.array n _), _ => some (.s (.int .i64 n), [], [], [])
      | some (.slice _), .sl n _ => some (.s (.int .i64 n), [], [], [])
      | some (.slice _), .sx n _ => some (.s (.int .i64 n), [], [], [])
      | some (.slice _), .nsl => some (.s (.int .i64 0), [], [], [])
      | some (.slice _), .s (.slice none 0 0) => some (.s (.int .i64 0), [], [], [])
      | some (.slice _), .osl _ _ n _ => some (.s (.int .i64 n), [], [], [])
      | some (.map _ _), .mp es => some (.s (.int .i64 es.length), [], [], [])
      | some (.map _ _), .omp id => match g id with
        | some (.map es _) => some (.s (.int .i64 es.length), [], [], [])
        | _ => none
      | _, _ => none
    | _, _ => none
  | .min => match xs with
    | [.s (.int k x), .s (.int _ y)] => some (.s (.int k (if y < x then y else x)), [], [], [])
    | _ => none
  | .max => match xs with
    | [.s (.int k x), .s (.int _ y)] => some (.s (.int k (if y > x then y else x)), [], [], [])
    | _ => none
  | _ => none
/-- an operation that writes nothing that was there: its value, the blocks that it makes, what it asks -/
def rd (C : Cx) (g : Nat → Option Bk) (nid : Nat) (e : Operand → AV) (h : Hint) : Op → Option Out
  | .move x | .assign x => some (e x, [], [], [])
  | .pick c a b => match e c with
    | .s (.bool t) => some (if t then e a else e b, [], [], [])
    | _ => none
  | .alloc T => (if h.typed then zeroX C.P T else zeroA C.P T).map fun z => (.ptr nid 0, [.arr z.length z (h.tyF T)], [], [])
  | .box _ x => if okCells (e x) then some (.ptr nid 0, [.arr (cellsA (e x)).length (cellsA (e x)) 0], [], []) else none
  | .build t ps => rdBuild C t (ps.toList.map fun p => (p.1, e p.2))
  | .buildSlice t len ps => match C.P.underlying t with
    | some (.slice el) => match zeroA C.P el, szOf C.P el with
      | some z, some sz => if z.length = sz ∧ 0 < sz ∧ len * sz ≤ 16777216 then (fillA (fun i => some (i * sz, sz)) (replZ len z) (ps.toList.map fun p => (p.1, e p.2))).map fun cs => (.osl nid 0 len sz, [.arr (len * sz) cs 0], [], []) else none
      | _, _ => none
    | _ => none
  | .load t x => rdLoad C g h t (e x)
  | .nilCheck x => match e x with
    | .ptr id off => some (.ptr id off, [], [], [])
    | .fptr cs => some (.fptr cs, [], [], [])
    | .fn (.func f) a b => some (.fn (.func f) a b, [], [], [])
    | _ => none
  | .binOp op xT x y _ => rdBin C op xT x y (e x) (e y)
  | .unOp op _ x => match e x with
    | .s (.int k n) => (pureP C.P (Op.unary op (.int k n))).map fun v => (.s v, [], [], [])
    | .s (.bool b) => (pureP C.P (Op.unary op (.bool b))).map fun v => (.s v, [], [], [])
    | _ => none
  | .convert src dst x => rdConv C g nid src dst (e x)
  | .makeFunc fn a b => some (.fn fn (a.toList.map e) (b.toList.map e), [], [], [])
  | .makeSlice t l c => match C.P.underlying t with
    | some (.slice el) => match zeroA C.P el, C.P.info? el, e l, e c with
      | some z, some i, .s (.int _ n), .s (.int _ m) => if z.length = i.size ∧ 0 < i.size then match h.cells with
        | some xs => some (.osl nid 0 n.toNat i.size, [.arr (n.toNat * i.size) xs 0], [decide (0 ≤ n ∧ n ≤ m ∧ m * i.bytes ≤ 140737488355328 ∧ m ≤ 140737488355328)], [replZ n.toNat z = xs])
        | none => some (.osl nid 0 n.toNat i.size, [.arr (n.toNat * i.size) (replZ n.toNat z) 0], [decide (0 ≤ n ∧ n ≤ m ∧ m * i.bytes ≤ 140737488355328 ∧ m ≤ 140737488355328)], [])
        else none
      | _, _, _, _ => none
    | _ => none
  | .slice t x lo hi mx => rdSlice C g h t (e x) (lo.map e) (hi.map e) (mx.map e)
  | .fieldAddr t x f => match fieldOf C.P t f with
    | some fd => match szOf C.P fd.type with
      | some sz => if sz = 0 then none else match e x with
        | .ptr id off => some (.ptr id (off + fd.offset), [], [], [])
        | .fptr cs => some (.fptr (cs.drop fd.offset), [], [], [])
        | _ => none
      | none => none
    | none => none
  | .field t x f => match fieldOf C.P t f, e x with
    | some fd, .agg cs => (partA C fd.type (cs.drop fd.offset)).map fun v => (v, [], [], [])
    | _, _ => none
  | .indexAddr t x ix => rdIndexAddr C h t (e x) (e ix)
  | .index t x ix => match C.P.underlying t, e x, e ix with
    | some .string, .s (.string b), .s (.int _ i) => some (.s (.int .u8 (b.data.toList.getD i.toNat 0).toNat), [], [decide (0 ≤ i ∧ i < b.size)], [])
    | some (.array len el), .agg cs, .s (.int _ i) => match szOf C.P el with
      | some sz => match h.cells with
        | some xs => (partA C el xs).map fun v => (v, [], [decide (0 ≤ i ∧ i < len)], [cs.drop (i.toNat * sz) = xs])
        | none => (partA C el (cs.drop (i.toNat * sz))).map fun v => (v, [], [decide (0 ≤ i ∧ i < len)], [])
      | none => none
    | _, _, _ => none
  | .extract x ix => match e x with
    | .tup vs => (vs[ix]?).map fun v => (v, [], [], [])
    | _ => none
  | .call c => match c.callee with
    | .builtin b => rdBuiltin C g b c.argTypes.toList (c.args.toList.map e)
    | _ => none
  | _ => none
def keyB : AV → AV → Bool
  | .s a, .s b => (eqS a b).getD false
  | .agg xs, .agg ys => (eqL xs ys).getD false
  | _, _ => false
def mfind (es : List (AV × AV)) (k : AV) : Option AV := (es.find? fun p => keyB p.1 k).map (·.2)
def mput : List (AV × AV) → AV → AV → List (AV × AV)
  | [], k, v => [(k, v)]
  | p :: r, k, v => if keyB p.1 k then (k, v) :: r else p :: mput r k v
def mdel (es : List (AV × AV)) (k : AV) : List (AV × AV) := es.eraseP fun p => keyB p.1 k
/-- writes to blocks: which, what lies there then -/
abbrev Ws := List (Nat × Bk)
abbrev Eff := AV × Ws × List Bool × List Prop
def putB (H : List Bk) (p : Nat × Bk) : List Bk := (H ++ List.replicate (p.1 + 1 - H.length) Bk.dead).set p.1 p.2
def putW (H : List Bk) (w : Ws) : List Bk := w.foldl putB H
def newsW : Nat → List Bk → Ws
  | _, [] => []
  | n, b :: r => (n, b) :: newsW (n + 1) r
def srcD : TypeDesc → Bool
  | .slice _ | .string => true
  | _ => false
/-- an operation that writes own blocks: its value, what it writes, what it asks -/
def wr (C : Cx) (g : Nat → Option Bk) (nid : Nat) (e : Operand → AV) (h : Hint) : Op → Option Eff
  | .store t x y => match szOf C.P t, e x with
    | some sz, .ptr id off => match g id with
      | some (.arr L cs fz) =>
        if okCells (e y) = true ∧ (cellsA (e y)).length = sz then
          match h.cells with
          | some xs => some (.tup [], [(id, .arr L xs fz)], [decide (off + sz ≤ L), decide (fz ≤ off)], [splice cs off (cellsA (e y)) = xs])
          | none => some (.tup [], [(id, .arr L (splice cs off (cellsA (e y))) fz)], [decide (off + sz ≤ L), decide (fz ≤ off)], [])
        else none
      | _ => none
    | _, _ => none
  | .call c => match c.callee, c.argTypes.toList, c.args.toList.map e with
    | .builtin .append, [t, u], [s, x] => match C.P.underlying t with
      | some (.slice el) => match C.P.info? el, zeroA C.P el, C.P.underlying u with
        | some i, some z, some ud => if z.length = i.size ∧ 0 < i.size ∧ 0 < i.bytes ∧ srcD ud = true then
          match srcA g i.size x with
          | some (m, xs) => match s with
            | .nsl => match h.cells with
              | some zs => some (.osl nid 0 m i.size, [(nid, .arr (m * i.size) zs (h.tyF el))], [decide (m * i.bytes ≤ 140737488355328), decide (xs.length = m * i.size)], [xs = zs])
              | none => some (.osl nid 0 m i.size, [(nid, .arr (m * i.size) xs (h.tyF el))], [decide (m * i.bytes ≤ 140737488355328), decide (xs.length = m * i.size)], [])
            | .s (.slice none 0 0) => match h.cells with
              | some zs => some (.osl nid 0 m i.size, [(nid, .arr (m * i.size) zs (h.tyF el))], [decide (m * i.bytes ≤ 140737488355328), decide (xs.length = m * i.size)], [xs = zs])
              | none => some (.osl nid 0 m i.size, [(nid, .arr (m * i.size) xs (h.tyF el))], [decide (m * i.bytes ≤ 140737488355328), decide (xs.length = m * i.size)], [])
            | .osl id off n k => match g id with
              | some (.arr L cs fz) => if k = i.size then
                match h.cells with
                | some zs => some (.osl nid 0 (n + m) i.size, [(id, .dead), (nid, .arr ((n + m) * i.size) zs ((fz.el el).cut h.cut off))], [decide (L = n * i.size + off ∧ fz ≤ L ∧ L = cs.length), decide ((n + m) * i.bytes ≤ 140737488355328), decide (xs.length = m * i.size)], [cs.drop off ++ xs = zs])
                | none => some (.osl nid 0 (n + m) i.size, [(id, .dead), (nid, .arr ((n + m) * i.size) (cs.drop off ++ xs) ((fz.el el).cut h.cut off))], [decide (L = n * i.size + off ∧ fz ≤ L ∧ L = cs.length), decide ((n + m) * i.bytes ≤ 140737488355328), decide (xs.length = m * i.size)], [])
                else none
              | _ => none
            | _ => none
          | none => none
          else none
        | _, _, _ => none
      | _ => none
    | .builtin .copy, [t, _], [d, x] => match C.P.underlying t with
      | some (.slice el) => match szOf C.P el with
        | some sz => match srcA g sz x with
          | some (m, xs) => match d with
            | .osl id off n k => match g id with
              | some (.arr L cs fz) => if k = sz then
                match h.cells with
                | some zs => some (.s (.int .i64 (min m n : Nat)), [(id, .arr L zs fz)], [decide (off + n * sz ≤ L), decide (fz ≤ off), decide (xs.length = m * sz)], [splice cs off (xs.take (min m n * sz)) = zs])
                | none => some (.s (.int .i64 (min m n : Nat)), [(id, .arr L (splice cs off (xs.take (min m n * sz))) fz)], [decide (off + n * sz ≤ L), decide (fz ≤ off), decide (xs.length = m * sz)], [])
                else none
              | _ => none
            | .nsl => some (.s (.int .i64 0), [], [decide (xs.length = m * sz)], [])
            | _ => none
          | none => none
        | none => none
      | _ => none
    | .builtin .clear, [t], [d] => match C.P.underlying t with
      | some (.slice el) => match zeroA C.P el with
        | some z => match d with
          | .osl id off n k => match g id with
            | some (.arr L cs fz) => if k = z.length then
              match h.cells with
              | some zs => some (.tup [], [(id, .arr L zs fz)], [decide (off + n * z.length ≤ L), decide (fz ≤ off)], [splice cs off (replZ n z) = zs])
              | none => some (.tup [], [(id, .arr L (splice cs off (replZ n z)) fz)], [decide (off + n * z.length ≤ L), decide (fz ≤ off)], [])
              else none
            | _ => none
          | _ => none
        | none => none
      | _ => none
    | _, _, _ => none
  | _ => none
/-! maps: keys as the model has them -/
def valC : AV → Option Value
  | .s v => some v
  | _ => none
def valsC : List AV → Option (List Value)
  | [] => some []
  | c :: r => match valC c, valsC r with
    | some v, some vs => some (v :: vs)
    | _, _ => none
def valOf : AV → Option Value
  | .s v => some v
  | .agg cs => (valsC cs).map fun vs => .agg vs.toArray
  | _ => none
def plainK : AV → Bool
  | .s (.int _ _) | .s (.bool _) | .s (.string _) => true
  | .agg cs => cs.all fun c => match c with | .s (.int _ _) | .s (.bool _) | .s (.string _) => true | _ => false
  | _ => false
def keyTyB (P : Program) (k : TypeId) : Bool :=
  match P.underlying k with
  | some (.int _) | some .bool | some .string => true
  | some (.struct _) => laidOutB P && (decide (k < P.types.size) && P.keyTypeAt 8 k)
  | _ => false
/-- a key of the type, in its bounds -/
def kwf (P : Program) (k : TypeId) (c : AV) : Bool := plainK c && match valOf c with
  | some v => (keyOf P k v).isSome
  | none => false
def allK (P : Program) (k : TypeId) (es : List (AV × AV)) : Bool := es.all fun p => kwf P k p.1
def entsA (g : Nat → Option Bk) : AV → Option (List (AV × AV))
  | .mp es => some es
  | .omp id => match g id with
    | some (.map es _) => some es
    | _ => none
  | _ => none
def zeroV (P : Program) (t : TypeId) : Option AV :=
  match P.info? t with
  | some i => match i.zero with
    | some v => some (ofV v)
    | none => none
  | none => none
def lookV (ok : Bool) (r : Option AV) (z : AV) : AV :=
  match r with
  | some v => if ok then .tup [v, .s (.bool true)] else v
  | none => if ok then .tup [z, .s (.bool false)] else z
def newMap (C : Cx) (nid : Nat) (t : TypeId) : Option Eff :=
  match C.P.underlying t with
  | some (.map _ _) => some (.omp nid, [(nid, .map [] false)], [], [])
  | _ => none
def setMap (h : Hint) (id : Nat) (es' : List (AV × AV)) (fz : Bool) (bs : List Bool) : Option Eff :=
  match h.ents with
  | some zs => some (.tup [], [(id, .map zs fz)], decide (fz = false) :: bs, [es'.Perm zs])
  | none => some (.tup [], [(id, .map es' fz)], decide (fz = false) :: bs, [])
/-- the operations upon maps -/
def mo (C : Cx) (g : Nat → Option Bk) (nid : Nat) (e : Operand → AV) (h : Hint) : Op → Option Eff
  | .makeMap t none => newMap C nid t
  | .makeMap t (some x) => match e x with
    | .s (.int _ _) => newMap C nid t
    | _ => none
  | .lookup t x k ok => match C.P.underlying t with
    | some (.map kt et) => match zeroV C.P et, entsA g (e x) with
      | some z, some es => some (lookV ok (mfind es (e k)) z, [], [keyTyB C.P kt, kwf C.P kt (e k), allK C.P kt es], [])
      | _, _ => none
    | _ => none
  | .mapUpdate t m k x => match C.P.underlying t, e m with
    | some (.map kt _), .omp id => match g id with
      | some (.map es fz) => setMap h id (mput es (e k) (e x)) fz [keyTyB C.P kt, kwf C.P kt (e k), allK C.P kt es]
      | _ => none
    | _, _ => none
  | .call c => match c.callee, c.argTypes.toList, c.args.toList.map e with
    | .builtin .delete, [t, _], [.omp id, k] => match C.P.underlying t with
      | some (.map kt _) => match g id with
        | some (.map es fz) => setMap h id (mdel es k) fz [keyTyB C.P kt, kwf C.P kt k, allK C.P kt es]
        | _ => none
      | _ => none
    | _, _, _ => none
  | .range t x => match C.P.underlying t, e x with
    | some (.map _ _), .mp es => some (.ptr nid 0, [(nid, .iter [] es)], [], [])
    | _, _ => none
  | .entry x => match e x with
    | .ptr id 0 => match g id with
      | some (.iter [(k, v)] _) => some (.tup [k, v], [], [], [])
      | _ => none
    | _ => none
  | _ => none
/-- the blocks that an operation looks into -/
def topId : AV → List Nat
  | .osl id _ _ _ | .ptr id _ | .omp id => [id]
  | _ => []
def idsA : AV → List Nat
  | .agg cs => cs.flatMap topId
  | x => topId x
def calleeIds (e : Operand → AV) : Callee → List Nat
  | .value f => match e f with
    | .fn _ p q => p.flatMap idsA ++ q.flatMap idsA
    | _ => []
  | _ => []
def rIds (e : Operand → AV) : Op → List Nat
  | .load _ x | .slice _ x _ _ _ | .convert _ _ x | .store _ x _ | .lookup _ x _ _ | .mapUpdate _ x _ _ | .insert _ x _ _ | .entry x => topId (e x)
  | .call c => (c.args.toList.flatMap fun x => idsA (e x)) ++ calleeIds e c.callee
  | _ => []
end Go.Pm

set_option linter.unusedVariables false
namespace Go.Pm
open Go Go.RowKit
/-- memory that nobody writes any more -/
structure Mem where
  cell : Nat → Nat → Option Value
  map : Nat → Option (Array MapEntry × Nat)
  /-- records of a range over a function, while nobody turns them -/
  obj : Nat → Option Obj := fun _ => none
  /-- the heap's size where the function was entered -/
  base : Nat := 0
  /-- what was told of a block when it was noted -/
  oc : Nat → (Nat → Option Value) × Option (Array MapEntry × Nat) := fun _ => (fun _ => none, none)
structure Mem.le (M M' : Mem) : Prop where
  cell : ∀ b o v, M.cell b o = some v → M'.cell b o = some v
  map : ∀ b v, M.map b = some v → M'.map b = some v
  obj : ∀ b v, M.obj b = some v → M'.obj b = some v
  base : M'.base = M.base
  oc : ∀ b o, M.obj b = some o → M'.oc b = M.oc b
theorem Mem.le.refl (M : Mem) : M.le M := ⟨fun _ _ _ h => h, fun _ _ h => h, fun _ _ h => h, rfl, fun _ _ _ => rfl⟩
theorem Mem.le.trans {M M' M'' : Mem} (h : M.le M') (k : M'.le M'') : M.le M'' := ⟨fun b o v e => k.cell b o v (h.cell b o v e), fun b v e => k.map b v (h.map b v e), fun b v e => k.obj b v (h.obj b v e), k.base.trans h.base, fun b o e => (k.oc b o (h.obj b o e)).trans (h.oc b o e)⟩
/-- an own block's size, and where its cells begin -/
structure Sz where
  tot : Nat
  base : Nat := 0
instance : Coe Nat Sz := ⟨fun n => ⟨n, 0⟩⟩
@[reducible] instance instSz (n : Nat) : OfNat Sz n := ⟨⟨n, 0⟩⟩
abbrev Nm := Nat → Option (Nat × Sz)
def Nm.none : Nm := fun _ => Option.none
def Nm.le (ρ ρ' : Nm) : Prop := ∀ i x, ρ i = some x → ρ' i = some x
theorem Nm.le.refl (ρ : Nm) : ρ.le ρ := fun _ _ h => h
theorem Nm.le.trans {ρ ρ' ρ'' : Nm} (h : ρ.le ρ') (k : ρ'.le ρ'') : ρ.le ρ'' := fun i x e => k i x (h i x e)
theorem Nm.none_le (ρ : Nm) : Nm.none.le ρ := fun i x h => by cases h
/-- the model's value v is what a says, where ρ tells which blocks the own ones are, and M what nobody writes any more -/
inductive VR (M : Mem) : Nm → AV → Value → Prop
  | any (ρ v) : VR M ρ .any v
  | s (ρ v) : VR M ρ (.s v) v
  | agg {ρ} {cs : List AV} {vs : List Value} : cs.length = vs.length → (∀ (i : Nat) c v, cs[i]? = some c → vs[i]? = some v → VR M ρ c v) → (∀ v ∈ vs, v.oneCell' = true) → VR M ρ (.agg cs) (.agg vs.toArray)
  | tup {ρ} {cs : List AV} {vs : List Value} : cs.length = vs.length → (∀ (i : Nat) c v, cs[i]? = some c → vs[i]? = some v → VR M ρ c v) → VR M ρ (.tup cs) (.tuple vs.toArray)
  | sl_e {ρ n a cap} : n ≤ cap → (a = none → cap = 0) → VR M ρ (.sl n []) (.slice a n cap)
  | sl {ρ n b off cap} {cs : List AV} (f : Nat → Value) : n ≤ cap → (∀ (i : Nat) c, cs[i]? = some c → M.cell b (off + i) = some (f i)) → (∀ (i : Nat) c, cs[i]? = some c → VR M Nm.none c (f i)) → VR M ρ (.sl n cs) (.slice (some ⟨b, off, none⟩) n cap)
  | sx_e {ρ n A cap} : n ≤ cap → VR M ρ (.sx n []) (.slice (some A) n cap)
  | sx {ρ n b off cap} {cs : List AV} (f : Nat → Value) : n ≤ cap → (∀ (i : Nat) c, cs[i]? = some c → M.cell b (off + i) = some (f i)) → (∀ (i : Nat) c, cs[i]? = some c → VR M Nm.none c (f i)) → VR M ρ (.sx n cs) (.slice (some ⟨b, off, none⟩) n cap)
  | nsl {ρ a} : VR M ρ .nsl (.slice a 0 0)
  | osl_e {ρ id off k a} : VR M ρ (.osl id off 0 k) (.slice a 0 0)
  | osl {ρ id off n k b sz cap} : ρ id = some (b, sz) → n ≤ cap → off + sz.base + cap * k ≤ sz.tot → VR M ρ (.osl id off n k) (.slice (some ⟨b, off + sz.base, none⟩) n cap)
  | ptr {ρ id off b sz} : ρ id = some (b, sz) → VR M ρ (.ptr id off) (.pointer (some ⟨b, off + sz.base, none⟩))
  | fptr_e {ρ a} : VR M ρ (.fptr []) (.pointer (some a))
  | fptr {ρ b off} {cs : List AV} (f : Nat → Value) : (∀ (i : Nat) c, cs[i]? = some c → M.cell b (off + i) = some (f i)) → (∀ (i : Nat) c, cs[i]? = some c → VR M Nm.none c (f i)) → VR M ρ (.fptr cs) (.pointer (some ⟨b, off, none⟩))
  | mp_e {ρ} : VR M ρ (.mp []) (.map none)
  | mp {ρ b} {es : List (AV × AV)} (kv : Array MapEntry × Nat) (pq : List (Value × Value)) : M.map b = some kv → (kv.1.toList.map fun e => (e.key, e.val)).Perm pq → es.length = pq.length → es.Pairwise (fun p q => keyB p.1 q.1 = false) → (∀ (i : Nat) c v, es[i]? = some c → pq[i]? = some v → VR M Nm.none c.1 v.1) → (∀ (i : Nat) c v, es[i]? = some c → pq[i]? = some v → VR M Nm.none c.2 v.2) → VR M ρ (.mp es) (.map (some b))
  | omp {ρ id b sz} : ρ id = some (b, sz) → VR M ρ (.omp id) (.map (some b))
  | fn {ρ f} {xs ys : List AV} {us vs : List Value} : xs.length = us.length → (∀ (i : Nat) c v, xs[i]? = some c → us[i]? = some v → VR M ρ c v) → ys.length = vs.length → (∀ (i : Nat) c v, ys[i]? = some c → vs[i]? = some v → VR M ρ c v) → VR M ρ (.fn f xs ys) (.func f us.toArray vs.toArray)
theorem VR.monoC {M M' : Mem} (hMc : ∀ b o v, M.cell b o = some v → M'.cell b o = some v) (hMm : ∀ b v, M.map b = some v → M'.map b = some v) {ρ : Nm} {a : AV} {v : Value} (h : VR M ρ a v) : ∀ {ρ' : Nm}, ρ.le ρ' → VR M' ρ' a v := by
  induction h with
  | any => exact fun _ => .any _ _
  | s => exact fun _ => .s _ _
  | agg h1 h2 h3 ih => exact fun hr => .agg h1 (fun i c v a b => ih i c v a b hr) h3
  | tup h1 h2 ih => exact fun hr => .tup h1 (fun i c v a b => ih i c v a b hr)
  | sl_e h1 h2 => exact fun _ => .sl_e h1 h2
  | sl f h1 h2 h3 ih => exact fun _ => .sl f h1 (fun i c e => hMc _ _ _ (h2 i c e)) (fun i c e => ih i c e (Nm.le.refl _))
  | sx_e h1 => exact fun _ => .sx_e h1
  | sx f h1 h2 h3 ih => exact fun _ => .sx f h1 (fun i c e => hMc _ _ _ (h2 i c e)) (fun i c e => ih i c e (Nm.le.refl _))
  | nsl => exact fun _ => .nsl
  | osl_e => exact fun _ => .osl_e
  | osl h1 h2 h3 => exact fun hr => .osl (hr _ _ h1) h2 h3
  | ptr h1 => exact fun hr => .ptr (hr _ _ h1)
  | fptr_e => exact fun _ => .fptr_e
  | fptr f h2 h3 ih => exact fun _ => .fptr f (fun i c e => hMc _ _ _ (h2 i c e)) (fun i c e => ih i c e (Nm.le.refl _))
  | mp_e => exact fun _ => .mp_e
  | mp kv pq h1 h2 h3 h6 h4 h5 ih1 ih2 => exact fun _ => .mp kv pq (hMm _ _ h1) h2 h3 h6 (fun i c v a b => ih1 i c v a b (Nm.le.refl _)) (fun i c v a b => ih2 i c v a b (Nm.le.refl _))
  | omp h1 => exact fun hr => .omp (hr _ _ h1)
  | fn h1 h2 h3 h4 ih1 ih2 => exact fun hr => .fn h1 (fun i c v a b => ih1 i c v a b hr) h3 (fun i c v a b => ih2 i c v a b hr)
theorem VR.mono {M M' : Mem} (hM : M.le M') {ρ : Nm} {a : AV} {v : Value} (h : VR M ρ a v) {ρ' : Nm} (hr : ρ.le ρ') : VR M' ρ' a v := h.monoC hM.cell hM.map hr
/-- two lists, place by place -/
structure L2 (R : AV → Value → Prop) (cs : List AV) (vs : List Value) : Prop where
  len : cs.length = vs.length
  at_ : ∀ (i : Nat) c v, cs[i]? = some c → vs[i]? = some v → R c v
section
variable {R : AV → Value → Prop} {cs ds : List AV} {vs us : List Value}
theorem L2.nil : L2 R [] [] := ⟨rfl, fun i c v h => by simp at h⟩
theorem L2.cons {c : AV} {v : Value} (h : R c v) (t : L2 R cs vs) : L2 R (c :: cs) (v :: vs) := by
  refine ⟨by simp [t.len], fun i c' v' a b => ?_⟩
  cases i with
  | zero => simp at a b; subst a b; exact h
  | succ i => exact t.at_ i c' v' (by simpa using a) (by simpa using b)
theorem L2.inv_cons {c : AV} (h : L2 R (c :: cs) vs) : ∃ v vs', vs = v :: vs' ∧ R c v ∧ L2 R cs vs' := by
  cases vs with
  | nil => have := h.len; simp at this
  | cons v vs' => exact ⟨v, vs', rfl, h.at_ 0 c v rfl rfl, ⟨by have := h.len; simpa using this, fun i c' v' a b => h.at_ (i + 1) c' v' (by simpa using a) (by simpa using b)⟩⟩
theorem L2.append (h : L2 R cs vs) (k : L2 R ds us) : L2 R (cs ++ ds) (vs ++ us) := by
  refine ⟨by simp [h.len, k.len], fun i c v a b => ?_⟩
  by_cases hi : i < cs.length
  · rw [List.getElem?_append_left hi] at a
    rw [List.getElem?_append_left (by rw [← h.len]; exact hi)] at b
    exact h.at_ i c v a b
  · rw [List.getElem?_append_right (by omega)] at a
    rw [List.getElem?_append_right (by rw [← h.len]; omega), ← h.len] at b
    exact k.at_ _ c v a b
theorem L2.take (h : L2 R cs vs) (n : Nat) : L2 R (cs.take n) (vs.take n) := by
  refine ⟨by simp [h.len], fun i c v a b => ?_⟩
  rw [List.getElem?_take] at a b
  split at a
  · rename_i hi; rw [if_pos hi] at b; exact h.at_ i c v a b
  · cases a
theorem L2.drop (h : L2 R cs vs) (n : Nat) : L2 R (cs.drop n) (vs.drop n) := by
  refine ⟨by simp [h.len], fun i c v a b => ?_⟩
  rw [List.getElem?_drop] at a b
  exact h.at_ _ c v a b
theorem L2.splice (h : L2 R cs vs) (off : Nat) (k : L2 R ds us) : L2 R (Pm.splice cs off ds) (Pm.splice vs off us) := by
  unfold Pm.splice
  rw [k.len]
  exact ((h.take off).append k).append (h.drop _)
theorem L2.imp {R' : AV → Value → Prop} (h : L2 R cs vs) (f : ∀ c v, R c v → R' c v) : L2 R' cs vs := ⟨h.len, fun i c v a b => f c v (h.at_ i c v a b)⟩
theorem L2.get {i : Nat} {c : AV} (h : L2 R cs vs) (hc : cs[i]? = some c) : ∃ v, vs[i]? = some v ∧ R c v := by
  have hi : i < vs.length := by rw [← h.len]; exact (List.getElem?_eq_some_iff.1 hc).1
  exact ⟨vs[i], by simp [hi], h.at_ i c _ hc (by simp [hi])⟩
theorem L2.set {i : Nat} {c : AV} {v : Value} (h : L2 R cs vs) (hc : R c v) : L2 R (cs.set i c) (vs.set i v) := by
  refine ⟨by simp [h.len], fun j d u a b => ?_⟩
  rw [List.getElem?_set] at a b
  split at a
  · rename_i e; subst e
    rw [if_pos rfl] at b
    split at a
    · cases a
      rw [if_pos (by rw [← h.len]; assumption)] at b
      cases b; exact hc
    · cases a
  · rename_i e
    rw [if_neg e] at b
    exact h.at_ j d u a b
theorem L2.map {α : Type} (l : List α) (f : α → AV) (g : α → Value) (h : ∀ x ∈ l, R (f x) (g x)) : L2 R (l.map f) (l.map g) := by
  induction l with
  | nil => exact L2.nil
  | cons x l ih => exact L2.cons (h x (by simp)) (ih fun y hy => h y (by simp [hy]))
end
theorem VR.inv_agg {M : Mem} {ρ : Nm} {cs : List AV} {v : Value} (h : VR M ρ (.agg cs) v) : ∃ vs : List Value, v = .agg vs.toArray ∧ L2 (VR M ρ) cs vs ∧ ∀ u ∈ vs, u.oneCell' = true := by
  cases h with
  | agg h1 h2 h3 => exact ⟨_, rfl, ⟨h1, h2⟩, h3⟩
theorem VR.inv_tup {M : Mem} {ρ : Nm} {cs : List AV} {v : Value} (h : VR M ρ (.tup cs) v) : ∃ vs : List Value, v = .tuple vs.toArray ∧ L2 (VR M ρ) cs vs := by
  cases h with
  | tup h1 h2 => exact ⟨_, rfl, ⟨h1, h2⟩⟩
theorem VR.inv_s {M : Mem} {ρ : Nm} {x v : Value} (h : VR M ρ (.s x) v) : v = x := by cases h; rfl
theorem VR.mkAgg {M : Mem} {ρ : Nm} {cs : List AV} {vs : List Value} (h : L2 (VR M ρ) cs vs) (h1 : ∀ u ∈ vs, u.oneCell' = true) : VR M ρ (.agg cs) (.agg vs.toArray) := .agg h.len h.at_ h1
theorem VR.mkTup {M : Mem} {ρ : Nm} {cs : List AV} {vs : List Value} (h : L2 (VR M ρ) cs vs) : VR M ρ (.tup cs) (.tuple vs.toArray) := .tup h.len h.at_
theorem VR.cell1 {M : Mem} {ρ : Nm} {a : AV} {v : Value} (h : VR M ρ a v) (hc : isCell a = true) : v.oneCell' = true := by
  cases h <;> first | (simp [isCell] at hc; done) | rfl | (simpa [isCell] using hc)
/-- a value's cells -/
theorem VR.cells {M : Mem} {ρ : Nm} {a : AV} {v : Value} (h : VR M ρ a v) (hc : okCells a = true) : L2 (VR M ρ) (cellsA a) v.cells.toList ∧ ∀ u ∈ v.cells.toList, u.oneCell' = true := by
  by_cases ha : ∃ cs, a = .agg cs
  · obtain ⟨cs, rfl⟩ := ha
    obtain ⟨vs, rfl, h1, h2⟩ := h.inv_agg
    exact ⟨by simpa [cellsA, Value.cells] using h1, by simpa [Value.cells] using h2⟩
  · have e : cellsA a = [a] := by cases a <;> first | rfl | exact absurd ⟨_, rfl⟩ ha
    have hi : isCell a = true := by cases a <;> first | exact hc | exact absurd ⟨_, rfl⟩ ha
    have h1 := h.cell1 hi
    have e2 : v.cells.toList = [v] := by cases v <;> first | rfl | (simp [Value.oneCell'] at h1)
    rw [e, e2]
    exact ⟨L2.cons h L2.nil, by simpa using h1⟩
theorem ofC_ok (M : Mem) (ρ : Nm) (v : Value) : VR M ρ (ofC v) v := by
  cases v with
  | slice a l c =>
    unfold ofC
    split
    · rename_i h; cases h; exact .nsl
    · rename_i h; cases h
    all_goals first | exact .any _ _ | exact .s _ _ | (rename_i h; cases h)
  | map r => cases r with
    | none => exact .mp_e
    | some r => exact .any _ _
  | pointer a => cases a with
    | none => exact .s _ _
    | some a => exact .any _ _
  | func => exact .any _ _
  | agg => exact .any _ _
  | tuple => exact .any _ _
  | bool | int | float | complex | string | chan | nilFunc | iface | nilIface => exact .s _ _
theorem ofV_ok (M : Mem) (ρ : Nm) (v : Value) : VR M ρ (ofV v) v := by
  cases v with
  | agg cs =>
    simp only [ofV]
    split
    · rename_i h
      obtain ⟨l⟩ := cs
      exact .mkAgg (by simpa using L2.map l ofC id fun x _ => ofC_ok M ρ x) (by simpa using h)
    · exact .any _ _
  | tuple vs =>
    simp only [ofV]
    split
    · rename_i h
      have : vs = #[] := Array.eq_empty_of_size_eq_zero h
      subst this
      exact .mkTup (vs := []) L2.nil
    · exact .any _ _
  | _ => simp only [ofV]; exact ofC_ok M ρ _
/-- a map's stamps are each another one, and less than its clock -/
def Tidy (es : Array MapEntry) (clock : Nat) : Prop := es.toList.Pairwise (fun a b => a.born ≠ b.born) ∧ ∀ e ∈ es.toList, e.born < clock
/-- a record of a range over a function -/
def recB : Obj → Bool
  | .loop _ | .deferred _ => true
  | _ => false
/-- memory that nobody writes any more is as it is told -/
structure Fro (M : Mem) (W : World) : Prop where
  cell : ∀ b o v, M.cell b o = some v → W.cell? ⟨b, o, none⟩ = some v ∧ v.oneCell' = true
  map : ∀ b kv, M.map b = some kv → W.heap[b]? = some (.map kv.1 kv.2) ∧ Tidy kv.1 kv.2
  obj : ∀ b o, M.obj b = some o → W.heap[b]? = some o ∧ (∀ i v, M.cell b i = some v → (M.oc b).1 i = some v) ∧ ∀ kv, M.map b = some kv → (M.oc b).2 = some kv
  base : M.base ≤ W.heap.size
theorem Fro.keep {M : Mem} {W W' : World} (h : Fro M W) (hs : W.heap.size ≤ W'.heap.size) (hW : ∀ b, (∃ o v, M.cell b o = some v) ∨ (∃ kv, M.map b = some kv) ∨ (∃ o, M.obj b = some o) → W'.heap[b]? = W.heap[b]?) : Fro M W' :=
  ⟨fun b o v e => ⟨(World.cell?_of_block (w := W) (hW b (.inl ⟨o, v, e⟩))).trans (h.cell b o v e).1, (h.cell b o v e).2⟩, fun b kv e => ⟨(hW b (.inr (.inl ⟨kv, e⟩))).trans (h.map b kv e).1, (h.map b kv e).2⟩, fun b o e => ⟨(hW b (.inr (.inr ⟨o, e⟩))).trans (h.obj b o e).1, (h.obj b o e).2⟩, Nat.le_trans h.base hs⟩
theorem Fz.el_n (f : Fz) (t : Nat) : (f.el t).n = f.n := by
  unfold Fz.el
  split
  · split <;> rfl
  · rfl
theorem Fz.el_ty {f : Fz} {t u : Nat} (h : (f.el t).ty = some u) : u = t ∧ f.ty = some u := by
  unfold Fz.el at h
  split at h
  · rename_i w e
    split at h
    · rename_i e2
      rw [e] at h
      cases h
      exact ⟨e2, e⟩
    · cases h
  · rename_i e
    rw [e] at h
    cases h
theorem Fz.cut_ty {f : Fz} {b : Bool} {o u : Nat} (h : (f.cut b o).ty = some u) : f.ty = some u := by cases b <;> exact h
theorem Fz.cut_n (f : Fz) (t : Nat) (b : Bool) (o : Nat) : f.n ≤ ((f.el t).cut b o).n + o := by
  cases b with
  | true => show f.n ≤ (f.el t).n - o + o; rw [Fz.el_n]; omega
  | false => show f.n ≤ (f.el t).n + o; rw [Fz.el_n]; omega
theorem Hint.tyF_n (h : Hint) (t : TypeId) : (h.tyF t).n = 0 := by unfold Hint.tyF; split <;> rfl
theorem Hint.tyF_ty {h : Hint} {t u : Nat} (e : (h.tyF t).ty = some u) : u = t := by
  unfold Hint.tyF at e
  split at e
  · cases e; rfl
  · cases e
/-- a row is of what it is told to be of -/
def TyR (W : World) (b : Nat) (fz : Fz) : Prop := ∀ T, fz.ty = some T → ∃ cur fr, W.heap[b]? = some (.cells cur T fr)
theorem TyR.keep {W W' : World} {b : Nat} {fz : Fz} (h : TyR W b fz) (hW : W'.heap[b]? = W.heap[b]?) : TyR W' b fz := fun T e => by rw [hW]; exact h T e
theorem TyR.zero {W : World} {b n : Nat} : TyR W b ⟨n, none⟩ := fun T e => by cases e
theorem TyR.set {W W' : World} {b : Nat} {fz : Fz} (h : TyR W b fz) {cur cur' : Array Value} {e : TypeId} {fr fr' : Nat × Nat} (hW : W.heap[b]? = some (.cells cur e fr)) (hW' : W'.heap[b]? = some (.cells cur' e fr')) : TyR W' b fz := fun T q => by
  obtain ⟨c, r, k⟩ := h T q
  rw [hW] at k
  injection k with k
  injection k with _ k _
  subst k
  exact ⟨_, _, hW'⟩
/-- an own block -/
def BR (ρ : Nm) (M : Mem) (W : World) (b : Nat) (sz : Sz) : Bk → Prop
  | .dead => True
  | .arr len cs fz => len = cs.length ∧ len + sz.base ≤ sz.tot ∧ (∃ cur e fr, W.heap[b]? = some (.cells cur e fr) ∧ cur.size = sz.tot ∧ (∀ o, o < sz.tot → (decide (fr.1 ≤ o) && decide (o < fr.2)) = false) ∧
      ∀ (i : Nat) c, cs[i]? = some c → ∃ u, cur[i + sz.base]? = some u ∧ u.oneCell' = true ∧ VR M ρ c u) ∧ (∀ o v, M.cell b o = some v → o < fz.n + sz.base ∧ o < len + sz.base) ∧ TyR W b fz
  | .iter cur left => sz.base = 0 ∧ ∃ (m : Option Nat) (since : Nat) (seen : Array Nat) (last : Nat), W.heap[b]? = some (.mapIter m since seen last) ∧ match m with
      | none => left = [] ∧ cur = []
      | some mb => ∃ kv, M.map mb = some kv ∧ since = kv.2 ∧ last = kv.2 ∧ (∃ rest : List (Value × Value), ((kv.1.toList.filter fun e => !seen.contains e.born).map fun e => (e.key, e.val)).Perm rest ∧ left.length = rest.length ∧
          (∀ (i : Nat) c v, left[i]? = some c → rest[i]? = some v → VR M Nm.none c.1 v.1) ∧ (∀ (i : Nat) c v, left[i]? = some c → rest[i]? = some v → VR M Nm.none c.2 v.2)) ∧
          ∀ c ∈ cur, ∃ e ∈ kv.1.toList, seen.back? = some e.born ∧ VR M Nm.none c.1 e.key ∧ VR M Nm.none c.2 e.val
  | .map es fz => (∃ ents clock, W.heap[b]? = some (.map ents clock) ∧ Tidy ents clock ∧ ∃ pq : List (Value × Value), (ents.toList.map fun e => (e.key, e.val)).Perm pq ∧ es.length = pq.length ∧ es.Pairwise (fun p q => keyB p.1 q.1 = false) ∧
      (∀ (i : Nat) c v, es[i]? = some c → pq[i]? = some v → VR M ρ c.1 v.1) ∧ (∀ (i : Nat) c v, es[i]? = some c → pq[i]? = some v → VR M ρ c.2 v.2)) ∧ ((M.map b).isSome = true → fz = true)
def Bk.live : Bk → Prop
  | .dead => False
  | _ => True
structure WR (w0 : World) (ρ : Nm) (M : Mem) (H : List Bk) (W : World) : Prop where
  bel : Below w0.heap.size w0 W
  fro : Fro M W
  dom : ∀ i x, ρ i = some x → i < H.length
  inj : ∀ i j b s t B B', ρ i = some (b, s) → ρ j = some (b, t) → H[i]? = some B → B.live → H[j]? = some B' → B'.live → i = j
  new : ∀ i b s B, ρ i = some (b, s) → H[i]? = some B → B.live → w0.heap.size ≤ b
  blk : ∀ i b s B, ρ i = some (b, s) → H[i]? = some B → BR ρ M W b s B
  apart : ∀ i b s B, ρ i = some (b, s) → H[i]? = some B → B.live → M.obj b = none
/-- deferred calls that are but the marks of ranges over functions -/
def markOf (b : Nat) : Deferred := { target := .collected b, args := #[] }
def Marks (M : Mem) (l : List Deferred) : Prop := ∃ ds : List Nat, l = ds.map markOf ∧ ds.Nodup ∧ ∀ b ∈ ds, M.base ≤ b ∧ M.obj b = some (.deferred (some []))
theorem Marks.nil (M : Mem) : Marks M [] := ⟨[], rfl, List.nodup_nil, fun b h => by cases h⟩
theorem Marks.mono {M M' : Mem} {l : List Deferred} (h : Marks M l) (hM : M.le M') : Marks M' l := by
  obtain ⟨ds, h1, h2, h3⟩ := h
  exact ⟨ds, h1, h2, fun b hb => ⟨by rw [hM.base]; exact (h3 b hb).1, hM.obj _ _ (h3 b hb).2⟩⟩
structure Rel (C : Cx) (w0 : World) (ρ : Nm) (M : Mem) (st : St) (a : Act) (W : World) : Prop where
  slots : L2 (VR M ρ) st.t a.tmps.toList
  wr : WR w0 ρ M st.h W
  glob : ∀ g cs, C.G g = some cs → VR M Nm.none (.fptr cs) (.pointer (some ⟨g, 0, none⟩))
  keep : C.keep ≤ st.h.length
  defers : Marks M a.defers
theorem eval_ok {C : Cx} {M : Mem} {ρ : Nm} {t : List AV} {a : Act} (hs : L2 (VR M ρ) t a.tmps.toList) (hg : ∀ g cs, C.G g = some cs → VR M Nm.none (.fptr cs) (.pointer (some ⟨g, 0, none⟩))) (x : Operand) : VR M ρ (evalA C t x) (a.eval x) := by
  cases x with
  | tmp i =>
    simp only [evalA, Act.eval]
    cases h : t[i]? with
    | none => simp only [List.getD, h, Option.getD_none]; exact .any _ _
    | some c =>
      obtain ⟨v, hv, hr⟩ := hs.get h
      have e : a.tmps.getD i undef = v := by
        have : a.tmps[i]? = some v := by simpa using hv
        simp [Array.getD_eq_getD_getElem?, this]
      simpa [List.getD, h, e] using hr
  | const v => exact ofV_ok M ρ v
  | global g =>
    simp only [evalA, Act.eval]
    split
    · rename_i cs h; exact (hg g cs h).mono (Mem.le.refl M) (Nm.none_le ρ)
    · exact .any _ _
  | func f => exact .fn (us := []) (vs := []) rfl (fun i c v h => by simp at h) rfl (fun i c v h => by simp at h)
end Go.Pm

set_option linter.unusedVariables false
namespace Go.Pm
open Go Go.RowKit
def GlobR (G : Nat → Option (List AV)) (M : Mem) : Prop := ∀ g cs, G g = some cs → VR M Nm.none (.fptr cs) (.pointer (some ⟨g, 0, none⟩))
/-- what nobody writes any more is as it was, but for blocks from n on -/
structure Fresh (M M' : Mem) (n : Nat) : Prop where
  cell : ∀ b o v, b < n → M'.cell b o = some v → M.cell b o = some v
  map : ∀ b v, b < n → M'.map b = some v → M.map b = some v
  obj : ∀ b o, b < n → M'.obj b = some o → M.obj b = some o
def enterOk (P : Program) (f : FuncId) : Bool :=
  match P.funcs[f]? with
  | some fn => fn.body.isSome && !(fn.name == "runtime.NumGoroutine")
  | none => false
/-- a call with the own blocks H: it yields r, and leaves H' -/
def CallH (P : Program) (G : Nat → Option (List AV)) (f : FuncId) (args : List AV) (H : List Bk) (r : AV) (H' : List Bk) : Prop :=
  enterOk P f = true ∧ ∀ (w0 : World) (ρ : Nm) (M : Mem) (W : World) (vals : List Value), WR w0 ρ M H W → GlobR G M → L2 (VR M ρ) args vals →
    Calls P f vals.toArray W (fun e W' => ∃ v ρ' M', e = .returned v ∧ M.le M' ∧ ρ.le ρ' ∧ WR w0 ρ' M' H' W' ∧ VR M' ρ' r v ∧ Fresh M M' w0.heap.size)
/-- a call upon values that nobody writes any more -/
def Pure (P : Program) (G : Nat → Option (List AV)) (f : FuncId) (args : List AV) (r : AV) (news : List Bk) : Prop := CallH P G f args [] r news
/-- from st the code comes to st', by the way e -/
def Tri (C : Cx) (c : Code) (st : St) (e : Ex) (st' : St) : Prop :=
  ∀ (w0 : World) (ρ : Nm) (M : Mem) (a : Act) (W : World), Rel C w0 ρ M st a W →
    c.wp C.P (fun x a' W' => x = e.to ∧ ∃ ρ' M', M.le M' ∧ (∀ i, i < C.keep → ∀ x, ρ i = some x → ρ' i = some x) ∧ Fresh M M' w0.heap.size ∧ Rel C w0 ρ' M' st' a' W') a W
/-- from st, where a round of a loop over c begins, the loop comes to st' -/
def LoopT (C : Cx) (c : Code) (st : St) (e : Ex) (st' : St) : Prop :=
  ∀ (w0 : World) (ρ : Nm) (M : Mem) (a : Act) (W : World), Rel C w0 ρ M st a W → ∀ (b : Frame) (k : List Item) (cs : List Frame), ∃ x a' W',
    (x = e.to ∧ ∃ ρ' M', M.le M' ∧ (∀ i, i < C.keep → ∀ x, ρ i = some x → ρ' i = some x) ∧ Fresh M M' w0.heap.size ∧ Rel C w0 ρ' M' st' a' W') ∧ Arrives C.P (lone (b.at a (.code c :: .inLoop c :: k)) cs W) b k cs x a' W'
def pureC0 : AV → Bool
  | .s _ | .sl _ _ | .sx _ _ | .nsl | .fptr _ | .mp _ => true
  | _ => false
def pureF : AV → Bool
  | .agg cs => cs.all pureC0
  | x => pureC0 x
def pureC : AV → Bool
  | .fn _ a b => a.all pureF && b.all pureF
  | x => pureC0 x
def pureA : AV → Bool
  | .agg cs => cs.all pureC
  | x => pureC x
def pureT : AV → Bool
  | .tup vs => vs.all pureA
  | x => pureA x
def pureB : Bk → Bool
  | .arr _ cs _ => cs.all pureC
  | .map es _ => es.all fun p => pureA p.1 && pureA p.2
  | .iter _ _ => true
  | .dead => false
def shiftC (n : Nat) : AV → AV
  | .osl id o l k => .osl (n + id) o l k
  | .ptr id o => .ptr (n + id) o
  | .omp id => .omp (n + id)
  | .fn f a b => if a.all pureF && b.all pureF then .fn f a b else .any
  | .agg _ => .any
  | .tup _ => .any
  | x => x
def shiftA (n : Nat) : AV → AV
  | .agg cs => .agg (cs.map (shiftC n))
  | x => shiftC n x
def shiftT (n : Nat) : AV → AV
  | .tup vs => .tup (vs.map (shiftA n))
  | x => shiftA n x
/-- a value as one that nobody writes any more -/
def frzC (g : Nat → Option Bk) : AV → AV
  | .osl id off n k => match g id with
    | some (.arr _ cs _) => .sl n ((cs.drop off).take (n * k))
    | _ => .any
  | .nsl => .sl 0 []
  | .omp id => match g id with
    | some (.map es _) => .mp es
    | _ => .any
  | .fn f a b => if a.all pureF && b.all pureF then .fn f a b else .any
  | .ptr _ _ => .any
  | .agg _ => .any
  | .tup _ => .any
  | x => x
def frzA (g : Nat → Option Bk) : AV → AV
  | .agg cs => .agg (cs.map (frzC g))
  | x => frzC g x
/-- the same, but a slice without room stays one -/
def frzK (g : Nat → Option Bk) : AV → AV
  | .nsl => .nsl
  | x => frzA g x
def markB : Bk → Bk
  | .arr L cs fz => .arr L cs (fz.at L)
  | .map es _ => .map es true
  | .iter c l => .iter c l
  | .dead => .dead
def markW (g : Nat → Option Bk) : List Nat → Ws
  | [] => []
  | i :: r => match g i with
    | some (.arr L cs fz) => (i, markB (.arr L cs fz)) :: markW g r
    | some (.map es fz) => (i, markB (.map es fz)) :: markW g r
    | _ => markW g r
/-- the arguments are these when nobody writes them any more -/
def FrzR (g : Nat → Option Bk) (ids : List Nat) (a b : AV) : Prop :=
  ∀ (M M' : Mem) (ρ : Nm) (v : Value), VR M ρ a v → M.le M' →
    (∀ i b s L cs fz, i ∈ ids → ρ i = some (b, s) → g i = some (.arr L cs fz) → ∀ j c, cs[j]? = some c → ∃ u, M'.cell b j = some u ∧ VR M ρ c u) → VR M' Nm.none b v
def putT (t : List AV) (d : Option Tmp) (v : AV) : List AV :=
  match d with
  | some i => t.set i v
  | none => t
def callOf (e : Operand → AV) : Op → Option (FuncId × List AV)
  | .call c => match c.callee with
    | .value f => match e f with
      | .fn (.func k) pre cap => some (k, pre ++ c.args.toList.map e ++ cap)
      | _ => none
    | _ => none
  | _ => none
abbrev Ev := AV × Ws × List Prop
def conds (h : Hint) (v : AV) (w : Ws) (bs : List Bool) (ps : List Prop) : Option Ev :=
  if h.sym = true ∨ bs.all id = true then
    match h.val with
    | some v' => some (v', w, (if h.sym then bs.map (· = true) else []) ++ ps ++ [v = v'])
    | none => some (v, w, (if h.sym then bs.map (· = true) else []) ++ ps)
  else none
/-- a slice without room as one that nobody writes -/
def looseC : AV → AV
  | .nsl => .sl 0 []
  | x => x
def looseA : AV → AV
  | .agg cs => .agg (cs.map looseC)
  | x => looseC x
def looseT : AV → AV
  | .tup vs => .tup (vs.map looseA)
  | x => looseA x
/-- a value that has none of the memory -/
def groundC : AV → Bool
  | .s _ | .nsl => true
  | _ => false
def groundA : AV → Bool
  | .agg cs => cs.all groundC
  | x => groundC x
def groundT : AV → Bool
  | .tup vs => vs.all groundA
  | x => groundA x
def hasN (x : Nat) : List Nat → Bool
  | [] => false
  | y :: r => Nat.beq x y || hasN x r
/-- a value under other numbers of blocks; what has none is anything -/
def rnK (f : Nat → Option Nat) : AV → AV
  | .osl id o n k => match f id with
    | some j => .osl j o n k
    | none => .any
  | .ptr id o => match f id with
    | some j => .ptr j o
    | none => .any
  | .omp id => match f id with
    | some j => .omp j
    | none => .any
  | .fn _ _ _ => .any
  | .agg _ => .any
  | .tup _ => .any
  | x => x
def rnC (f : Nat → Option Nat) : AV → AV
  | .fn g a b => .fn g (a.map (rnK f)) (b.map (rnK f))
  | x => rnK f x
def rnA (f : Nat → Option Nat) : AV → AV
  | .agg cs => .agg (cs.map (rnC f))
  | x => rnC f x
def rnT (f : Nat → Option Nat) : AV → AV
  | .tup vs => .tup (vs.map (rnA f))
  | x => rnA f x
def rnB (f : Nat → Option Nat) : Bool → Bk → Bk
  | true, B => B
  | false, .arr L cs fz => .arr L (cs.map (rnC f)) fz
  | false, _ => .dead
/-- where a number stands in a list -/
def backN : List Nat → Nat → Option Nat
  | [], _ => none
  | x :: r, i => if Nat.beq x i then some 0 else match backN r i with
    | some j => some (j + 1)
    | none => none
def kapN (ix : List Nat) (n j : Nat) : Option Nat := match ix[j]? with
  | some i => some i
  | none => some (n + (j - ix.length))
def outTl (f : Nat → Option Nat) : List Bool → List Bk → List Bk
  | _, [] => []
  | p, B :: r => rnB f (p.getD 0 false) B :: outTl f (p.drop 1) r
def pureQ : List Bool → List Bk → List Prop
  | true :: p, B :: l => (pureB B = true) :: pureQ p l
  | false :: p, _ :: l => pureQ p l
  | _, _ => []
def nodupN : List Nat → Bool
  | [] => true
  | x :: r => !(backN r x).isSome && nodupN r
/-- the blocks that a call works upon, under its own numbers -/
def selG (f : Nat → Option Nat) (g : Nat → Option Bk) : List Nat → List Bool → List Bk
  | [], _ => []
  | i :: r, p => rnB f (p.getD 0 false) ((g i).getD .dead) :: selG f g r (p.drop 1)
def subW (f : Nat → Option Nat) : List Nat → List Bool → List Bk → Ws
  | i :: r, p, B :: bs => (i, rnB f (p.getD 0 false) B) :: subW f r (p.drop 1) bs
  | _, _, _ => []
def opEval0 (C : Cx) (h : Hint) (g : Nat → Option Bk) (nid : Nat) (H : List Bk) (e : Operand → AV) (o : Op) : Option Ev :=
  match h.heap with
  | some (r, H') => match callOf e o with
    | some (f, args) => some (r, newsW 0 H', [CallH C.P C.G f args H r H', H.length ≤ H'.length])
    | none => none
  | none => match h.sub with
  | some (ix, p, p', r, out) => match callOf e o with
    | some (f, args) => if nodupN ix = true ∧ ix.all (fun i => Nat.blt i nid) = true ∧ Nat.ble ix.length out.length = true then
        some (rnT (kapN ix nid) r, subW (kapN ix nid) ix p' out ++ newsW nid (outTl (kapN ix nid) (p'.drop ix.length) (out.drop ix.length)), CallH C.P C.G f (args.map (rnT (backN ix))) (selG (backN ix) g ix p) r out :: (pureQ p (selG (backN ix) g ix p) ++ pureQ p' out))
      else none
    | none => none
  | none => match h.call with
    | some r => match callOf e o with
      | some (f, args) => match h.args, h.news with
        | none, none => if h.kept = true then conds h r [] [groundT r, (args.flatMap idsA).all fun i => ((g i).map pureB).getD false, (args.map (frzA g)).all pureA] [Pure C.P C.G f (args.map (frzA g)) r []]
          else conds h r (markW g (args.flatMap idsA)) [(args.flatMap idsA).all fun i => ((g i).map pureB).getD false, (args.map (frzA g)).all pureA] [Pure C.P C.G f (args.map (frzA g)) r []]
        | none, some news => conds h (shiftT nid r) (markW g (args.flatMap idsA) ++ newsW nid news) [news.all pureB, (args.flatMap idsA).all fun i => ((g i).map pureB).getD false, (args.map (frzA g)).all pureA] [Pure C.P C.G f (args.map (frzA g)) r news]
        | some args', none => if h.kept = true then conds h r [] [groundT r, (args.flatMap idsA).all fun i => ((g i).map pureB).getD false, args'.all pureA] [Pure C.P C.G f args' r [], args.map (frzK g) = args']
          else conds h r (markW g (args.flatMap idsA)) [(args.flatMap idsA).all fun i => ((g i).map pureB).getD false, args'.all pureA] [Pure C.P C.G f args' r [], args.map (frzK g) = args']
        | some args', some news => conds h (shiftT nid r) (markW g (args.flatMap idsA) ++ newsW nid news) [news.all pureB, (args.flatMap idsA).all fun i => ((g i).map pureB).getD false, args'.all pureA] [Pure C.P C.G f args' r news, args.map (frzK g) = args']
      | none => none
    | none => match rd C g nid e h o with
      | some (v, news, bs, ps) => conds h v (newsW nid news) bs ps
      | none => match wr C g nid e h o with
        | some (v, w, bs, ps) => conds h v w bs ps
        | none => match mo C g nid e h o with
          | some (v, w, bs, ps) => conds h v w bs ps
          | none => none
def opEval (C : Cx) (h : Hint) (g : Nat → Option Bk) (nid : Nat) (H : List Bk) (e : Operand → AV) (o : Op) : Option Ev :=
  match opEval0 C h g nid H e o with
  | some (v, w, ps) => some (if h.loose then looseT v else v, w, ps)
  | none => none
def wantA (ops : List Oper) (t : List AV) (o : Oper) : Option Bool :=
  match o.guard with
  | none => some true
  | some (j, want) => match (ops[j]?).bind (·.dst) with
    | some d => match t[d]? with
      | some (.s (.bool b)) => some (b == want)
      | some (.tup []) => some false
      | _ => none
    | none => none
/-- what came of an operation: its value, its writes, which blocks it looked into -/
structure En where
  v : AV
  w : Ws
  r : List Nat
/-- which blocks an operation looks into -/
def rIdsH (h : Hint) (e : Operand → AV) (o : Op) : List Nat := rIds e o ++ (match h.sub with
  | some q => q.1
  | none => [])
def tr (C : Cx) (hs : Nat → Hint) (ops : List Oper) : Nat → List Oper → List AV → List Bk → Option (List AV × List Bk × List En × List Prop)
  | _, [], t, A => some (t, A, [], [])
  | i, o :: rest, t, A =>
    match wantA ops t o with
    | none => none
    | some false => match tr C hs ops (i + 1) rest (putT t o.dst (.tup [])) A with
      | some (t', A', es, ps) => some (t', A', ⟨.tup [], [], []⟩ :: es, ps)
      | none => none
    | some true => match opEval C (hs i) (fun j => A[j]?) A.length A (evalA C t) o.op with
      | none => none
      | some (v, w, ps) => match tr C hs ops (i + 1) rest (putT t o.dst v) (putW A w) with
        | some (t', A', es, ps') => some (t', A', ⟨v, w, rIdsH (hs i) (evalA C t) o.op⟩ :: es, ps ++ ps')
        | none => none
/-- each once -/
def onceN : List Nat → List Nat
  | [] => []
  | x :: r => if hasN x (onceN r) then onceN r else x :: onceN r
theorem mem_onceN {x : Nat} : ∀ {l : List Nat}, x ∈ onceN l → x ∈ l
  | [], h => h
  | y :: r, h => by
    unfold onceN at h
    split at h
    · exact List.mem_cons_of_mem _ (mem_onceN h)
    · rcases List.mem_cons.1 h with rfl | h
      · exact List.mem_cons_self ..
      · exact List.mem_cons_of_mem _ (mem_onceN h)
def edgeP (acc : List (List Nat)) (o : Oper) : List Nat := onceN (o.after.toList.flatMap fun e => if Region.binds .any e then e.on :: acc.getD e.on [] else [])
def predsGo (acc : List (List Nat)) : List Oper → List (List Nat)
  | [] => acc
  | o :: r => predsGo (acc ++ [edgeP acc o]) r
def preds (ops : List Oper) : List (List Nat) := predsGo [] ops
def meets (a b : List Nat) : Bool := a.any fun x => b.contains x
def pairOk (pr : List (List Nat)) (i j : Nat) (x y : En) : Bool :=
  (pr.getD j []).contains i || (!meets (x.w.map (·.1)) (y.r ++ y.w.map (·.1)) && !meets (y.w.map (·.1)) x.r)
def noClash (pr : List (List Nat)) : Nat → List En → Bool
  | _, [] => true
  | i, x :: r => (r.zipIdx (i + 1)).all (fun p => pairOk pr i p.2 x p.1) && noClash pr (i + 1) r
/-- which slots an operation names -/
def named (ops : List Oper) (o : Oper) : List Tmp := o.dst.toList ++ Oper.looksAt ops.toArray o
def slotsOk (ops : List Oper) (pr : List (List Nat)) : Bool :=
  ops.zipIdx.all fun p => ops.zipIdx.all fun q => p.2 == q.2 || (match q.1.dst with
    | some d => !(named ops p.1).contains d || (pr.getD p.2 []).contains q.2 || (pr.getD q.2 []).contains p.2
    | none => true)
def drawOk (P : Program) (hs : Nat → Hint) (ops : List Oper) (es : List En) : Bool :=
  P.follows .mixedOrders && ((List.range ops.length).all fun i => (hs i).heap.isNone) && (ops.zipIdx.all fun p => p.1.after.toList.all fun e => (!Region.binds .any e || decide (e.on < p.2))) && decide ((ops.filterMap (·.dst)).Nodup) && slotsOk ops (preds ops) && noClash (preds ops) 0 es
def posOf : List Nat → Nat → Option Nat
  | [], _ => none
  | i :: r, j => if i = j then some 0 else (posOf r j).map (· + 1)
def reC (l : List Nat) : AV → AV
  | .osl j o n k => match posOf l j with
    | some i => .osl i o n k
    | none => .any
  | .ptr j o => match posOf l j with
    | some i => .ptr i o
    | none => .any
  | .omp j => match posOf l j with
    | some i => .omp i
    | none => .any
  | .nsl => .sl 0 []
  | .fn f a b => if a.all pureF && b.all pureF then .fn f a b else .any
  | .agg _ => .any
  | .tup _ => .any
  | x => x
def reF (l : List Nat) : AV → AV
  | .agg cs => .agg (cs.map (reC l))
  | x => reC l x
def reA (l : List Nat) : AV → AV
  | .fn f a b => .fn f (a.map (reF l)) (b.map (reF l))
  | .tup vs => .tup (vs.map (reF l))
  | x => reF l x
def ghostC (gc : List (Nat × Nat × Nat)) (n j i : Nat) : Option (Nat × Nat) :=
  match gc with
  | [] => none
  | (b, c, k) :: r => if b = j ∧ c = i then some (n, k) else ghostC r (n + 1) j i
def reCg (f : Fg) (j i : Nat) (c : AV) : AV :=
  match ghostC f.gc (f.l.length + f.gh.length) j i with
  | some (g, k) => match c with
    | .nsl => .osl g 0 0 k
    | _ => .any
  | none => reC f.l c
def reCs (f : Fg) (j : Nat) : Nat → List AV → List AV
  | _, [] => []
  | i, c :: r => reCg f j i c :: reCs f j (i + 1) r
def reB (f : Fg) (j : Nat) : Bk → Bk
  | .arr L cs fz => .arr L (reCs f j 0 cs) fz
  | _ => .dead
def ghost (gh : List (Nat × Nat)) (n i : Nat) : Option (Nat × Nat) :=
  match gh with
  | [] => none
  | (s, k) :: r => if s = i then some (n, k) else ghost r (n + 1) i
def fgSlot (f : Fg) (i : Nat) (c : AV) : AV :=
  match ghost f.gh f.l.length i with
  | some (g, k) => match c with
    | .nsl => .osl g 0 0 k
    | _ => .any
  | none => if f.ks.contains i then reA f.l c else .any
def fgSlots (f : Fg) : Nat → List AV → List AV
  | _, [] => []
  | i, c :: r => fgSlot f i c :: fgSlots f (i + 1) r
def fgBlock (f : Fg) (H : List Bk) (j : Nat) : Bk :=
  match H[j]? with
  | some b => if f.mx.contains j then reB f j b else b
  | none => .dead
def forget (f : Fg) (st : St) : St := ⟨fgSlots f 0 st.t, f.l.map (fgBlock f st.h) ++ (f.gh.map (fun _ => .arr 0 [] 0) ++ f.gc.map fun _ => .arr 0 [] 0)⟩
def preOk : Nat → List Nat → Nat → Bool
  | _, _, 0 => true
  | i, j :: r, n + 1 => i == j && preOk (i + 1) r n
  | _, [], _ + 1 => false
/-- what the weaker state asks -/
def fgAsk (f : Fg) (keep : Nat) (H : List Bk) : List Prop :=
  [(decide f.l.Nodup && preOk 0 f.l keep) = true] ++ (f.l.filterMap fun j => if f.mx.contains j then none else match H[j]? with
    | some (.arr L cs fz) => some (pureB (.arr L cs fz) = true)
    | some (.map es fz) => if f.km.contains j then some (es.map (fun p => (reF f.l p.1, reF f.l p.2)) = es) else some (pureB (.map es fz) = true)
    | _ => none)
def regKey : Code → Nat
  | .region id _ _ => id
  | .seq a _ => regKey a
  | .cond _ a _ => regKey a
  | .block _ b | .loop b | .scope b => regKey b
  | _ => 0
def loopKey : Nat := 1000
def frzKey : Nat := 2000
def rangeKey : Nat := 3000
/-! block i is written no more: how each value reads then -/
def thC0 (i : Nat) (b : Bk) : AV → AV
  | .osl j off n k => if j = i then (match b with | .arr _ cs _ => .sl n ((cs.drop off).take (n * k)) | _ => .any) else .osl j off n k
  | .ptr j off => if j = i then (match b with | .arr _ cs _ => .fptr (cs.drop off) | _ => .any) else .ptr j off
  | .omp j => if j = i then (match b with | .map es _ => .mp es | _ => .any) else .omp j
  | .agg _ => .any
  | .tup _ => .any
  | .fn f p q => .fn f p q
  | x => x
def thP (i : Nat) (b : Bk) : AV → AV
  | .agg cs => .agg (cs.map (thC0 i b))
  | x => thC0 i b x
def thC (i : Nat) (b : Bk) : AV → AV
  | .fn f p q => .fn f (p.map (thP i b)) (q.map (thP i b))
  | x => thC0 i b x
def thF (i : Nat) (b : Bk) : AV → AV
  | .agg cs => .agg (cs.map (thC i b))
  | x => thC i b x
def thA (i : Nat) (b : Bk) : AV → AV
  | .tup vs => .tup (vs.map (thF i b))
  | x => thF i b x
def thB (i : Nat) (b : Bk) : Bk → Bk
  | .arr L cs fz => .arr L (cs.map (thC i b)) fz
  | .map es fz => .map es fz
  | .iter c l => .iter c l
  | .dead => .dead
/-- a map whose values read the block -/
def thM (i : Nat) (b : Bk) : Bk → Bk
  | .map es fz => .map (es.map fun p => (p.1, thF i b p.2)) fz
  | B => thB i b B
def thBk (ms : List Nat) (i : Nat) (b : Bk) (H : List Bk) (j : Nat) : Bk := if j = i then markB b else if ms.contains j then thM i b ((H[j]?).getD .dead) else thB i b ((H[j]?).getD .dead)
def thSt (ms : List Nat) (i : Nat) (b : Bk) (st : St) : St := ⟨st.t.map (thA i b), (List.range st.h.length).map (thBk ms i b st.h)⟩
/-- 1000 * (m + 1) + i: block i, and map m reads it so -/
def frzMs (i : Nat) : List Nat := if i < 1000 then [] else [i / 1000 - 1]
/-- the blocks of a list are written no more, one after the other; what is asked -/
def thAll : List Nat → St → St × List Prop
  | [], st => (st, [])
  | i :: r, st => match st.h[i % 1000]? with
    | some (.arr L cs fz) => match thAll r (thSt (frzMs i) (i % 1000) (.arr L cs fz) st) with
      | (st', ps) => (st', (pureB (.arr L cs fz) = true) :: ps)
    | some (.map es fz) => match thAll r (thSt (frzMs i) (i % 1000) (.map es fz) st) with
      | (st', ps) => (st', (pureB (.map es fz) = true) :: ps)
    | _ => thAll r st
/-- round k's hints -/
def hsR (hs : Nat → Nat → Hint) (k : Nat) : Nat → Nat → Hint := fun r i => hs (r * 1000 + 1 + k) i
def loopGo (f : Nat → St → Option (Ex × St × List Prop)) : Nat → Nat → St → Option (Ex × St × List Prop)
  | 0, _, _ => none
  | n + 1, k, st => match f k st with
    | some (.normal, st1, p1) => match loopGo f n (k + 1) st1 with
      | some (e, st2, p2) => some (e, st2, p1 ++ p2)
      | none => none
    | r => r
def runH (C : Cx) : Code → (Nat → Nat → Hint) → St → Option (Ex × St × List Prop)
  | .skip, hs, st => some (.normal, st, [])
  | .label _, hs, st => some (.normal, st, [])
  | .scope b, hs, st => runH C b hs st
  | .region id ops draw, hs, st => match thAll (hs id frzKey).frz st with
    | (st0, ps0) => match tr C (hs id) ops.toList 0 ops.toList st0.t st0.h with
      | some (t, A, es, ps) => if draw = false ∨ drawOk C.P (hs id) ops.toList es = true then some (.normal, ⟨t, A⟩, ps0 ++ ps) else none
      | none => none
  | .seq a b, hs, st => match runH C a hs st with
    | some (.normal, st1, p1) => match runH C b hs st1 with
      | some (e, st2, p2) => some (e, st2, p1 ++ p2)
      | none => none
    | r => r
  | .cond c a b, hs, st => match evalA C st.t c with
    | .s (.bool true) => runH C a hs st
    | .s (.bool false) => runH C b hs st
    | _ => none
  | .block id b, hs, st => match runH C b hs st with
    | some (.exit j, st1, p1) => if j = id then some (.normal, st1, p1) else some (.exit j, st1, p1)
    | r => r
  | .loop b, hs, st => match (hs (regKey b) loopKey).loop with
    | some (f, st1, e, st2) => some (e, st2, [forget f st = st1, LoopT C b st1 e st2] ++ fgAsk f C.keep st.h)
    | none => loopGo (fun k st1 => runH C b (hsR hs k) st1) (hs (regKey b) loopKey).unroll 0 st
  | .rangeFunc g ps a b, hs, st => match (hs (regKey b) rangeKey).loop with
    | some (f, st1, e, st2) => some (e, st2, [forget f st = st1, Tri C (.rangeFunc g ps a b) st1 e st2] ++ fgAsk f C.keep st.h)
    | none => none
  | .exit id, hs, st => some (.exit id, st, [])
  | .ret, hs, st => some (.ret, st, [])
  | _, _, _ => none
def run (C : Cx) (hs : Nat → Nat → Hint) (c : Code) (st : St) : Option (Ex × St × List Prop) := runH C c hs st
def allP : List Prop → Prop
  | [] => True
  | p :: r => p ∧ allP r
/-- what is to be shown of a walk -/
def Walk (C : Cx) (hs : Nat → Nat → Hint) (c : Code) (st : St) (Q : Ex → St → Prop) : Prop :=
  match run C hs c st with
  | some (e, st', ps) => allP ps ∧ Q e st'
  | none => False
def hint (l : List ((Nat × Nat) × Hint)) (r i : Nat) : Hint :=
  match l with
  | [] => {}
  | (p, h) :: rest => if p.1 = r ∧ p.2 = i then h else hint rest r i
end Go.Pm

set_option linter.unusedVariables false
namespace Go.Pm
open Go Go.RowKit
theorem get_putB (H : List Bk) (n : Nat) (b : Bk) (i : Nat) : (putB H (n, b))[i]? = if i = n then some b else if i < H.length then H[i]? else if i < n then some Bk.dead else none := by
  unfold putB
  simp only [List.getElem?_set]
  by_cases h : n = i
  · subst h
    simp only [if_true]
    rw [if_pos (by simp; omega)]
  · rw [if_neg h, if_neg (Ne.symm h), List.getElem?_append]
    split
    · rfl
    · rename_i h1
      rw [List.getElem?_replicate]
      by_cases h2 : i < n
      · rw [if_pos (by omega), if_pos h2]
      · rw [if_neg (by omega), if_neg h2]
theorem len_putB (H : List Bk) (p : Nat × Bk) : (putB H p).length = max H.length (p.1 + 1) := by
  unfold putB
  simp
  omega
theorem len_putW (w : Ws) : ∀ H : List Bk, H.length ≤ (putW H w).length := by
  induction w with
  | nil => intro H; exact Nat.le_refl _
  | cons p w ih => intro H; exact Nat.le_trans (by rw [len_putB]; omega) (ih (putB H p))
def Nm.upd (ρ : Nm) (i : Nat) (x : Nat × Sz) : Nm := fun j => if j = i then some x else ρ j
theorem Nm.upd_self (ρ : Nm) (i : Nat) (x : Nat × Sz) : ρ.upd i x i = some x := by simp [Nm.upd]
theorem Nm.upd_ne (ρ : Nm) {i j : Nat} (x : Nat × Sz) (h : j ≠ i) : ρ.upd i x j = ρ j := by simp [Nm.upd, h]
theorem Nm.le_upd {ρ : Nm} {i : Nat} (x : Nat × Sz) (h : ρ i = Option.none) : ρ.le (ρ.upd i x) := by
  intro j y hy
  have : j ≠ i := fun e => by subst e; rw [h] at hy; cases hy
  rw [Nm.upd_ne _ _ this]; exact hy
theorem BR.keep {ρ ρ' : Nm} {M : Mem} {W W' : World} {b : Nat} {s : Sz} {B : Bk} (h : BR ρ M W b s B) (hr : ρ.le ρ') (hW : W'.heap[b]? = W.heap[b]?) : BR ρ' M W' b s B := by
  cases B with
  | dead => trivial
  | arr L cs fz =>
    obtain ⟨h1, h2, ⟨cur, e, fr, h3, h4, h5, h6⟩, h7⟩ := h
    exact ⟨h1, h2, ⟨cur, e, fr, hW.trans h3, h4, h5, fun i c hc => by
      obtain ⟨u, a, b, d⟩ := h6 i c hc
      exact ⟨u, a, b, d.mono (Mem.le.refl M) hr⟩⟩, h7.1, h7.2.keep hW⟩
  | map es fz =>
    obtain ⟨⟨ents, clock, h1, ht, pq, h2, h3, h4, h5, h6⟩, h7⟩ := h
    exact ⟨⟨ents, clock, hW.trans h1, ht, pq, h2, h3, h4, fun i c v a b => (h5 i c v a b).mono (Mem.le.refl M) hr, fun i c v a b => (h6 i c v a b).mono (Mem.le.refl M) hr⟩, h7⟩
  | iter cur left =>
    obtain ⟨h0, m, since, seen, last, h1, h2⟩ := h
    exact ⟨h0, m, since, seen, last, hW.trans h1, h2⟩
theorem BR.lt {ρ : Nm} {M : Mem} {W : World} {b : Nat} {s : Sz} {B : Bk} (h : BR ρ M W b s B) (hl : B.live) : b < W.heap.size := by
  cases B with
  | dead => exact hl.elim
  | arr L cs fz =>
    obtain ⟨h1, h2, ⟨cur, e, fr, h3, _⟩, _⟩ := h
    exact (Array.getElem?_eq_some_iff.1 h3).1
  | map es fz =>
    obtain ⟨⟨ents, clock, h1, _⟩, _⟩ := h
    exact (Array.getElem?_eq_some_iff.1 h1).1
  | iter cur left =>
    obtain ⟨_, m, since, seen, last, h1, _⟩ := h
    exact (Array.getElem?_eq_some_iff.1 h1).1
section
variable {w0 W : World} {ρ : Nm} {M : Mem} {H : List Bk}
theorem Fro.lt (h : Fro M W) {b o : Nat} {v : Value} (e : M.cell b o = some v) : b < W.heap.size := World.block_lt_of_cell? W ⟨b, o, none⟩ (h.cell b o v e).1
theorem Fro.ltm (h : Fro M W) {b : Nat} {v : Array MapEntry × Nat} (e : M.map b = some v) : b < W.heap.size := (Array.getElem?_eq_some_iff.1 (h.map b v e).1).1
theorem grew {W W' : World} (hh : ∀ b, b < W.heap.size → W'.heap[b]? = W.heap[b]?) : W.heap.size ≤ W'.heap.size := by
  rcases Nat.eq_zero_or_pos W.heap.size with h | h
  · omega
  · have := hh (W.heap.size - 1) (by omega)
    rw [Array.getElem?_eq_getElem (show W.heap.size - 1 < W.heap.size by omega)] at this
    have := (Array.getElem?_eq_some_iff.1 this).1
    omega
theorem Fro.lto (h : Fro M W) {b : Nat} {o : Obj} (e : M.obj b = some o) : b < W.heap.size := (Array.getElem?_eq_some_iff.1 (h.obj b o e).1).1
theorem WR.world {W' : World} (h : WR w0 ρ M H W) (hb : Below w0.heap.size w0 W') (hh : ∀ b, b < W.heap.size → W'.heap[b]? = W.heap[b]?) : WR w0 ρ M H W' := by
  refine ⟨hb, h.fro.keep (grew hh) fun b hb => hh b ?_, h.dom, h.inj, h.new, fun i b s B h1 h2 => ?_, h.apart⟩
  · rcases hb with ⟨o, v, e⟩ | ⟨kv, e⟩ | ⟨o, e⟩
    · exact h.fro.lt e
    · exact h.fro.ltm e
    · exact h.fro.lto e
  · by_cases hl : B.live
    · have := h.blk i b s B h1 h2
      exact this.keep (Nm.le.refl _) (hh b (this.lt hl))
    · cases B with
      | dead => trivial
      | arr => exact absurd trivial hl
      | map => exact absurd trivial hl
      | iter => exact absurd trivial hl
theorem WR.drew (h : WR w0 ρ M H W) : WR w0 ρ M H W.drew := h.world h.bel.drew fun _ _ => rfl
/-- a new block -/
theorem WR.putG (h : WR w0 ρ M H W) {nid : Nat} (hn : ρ nid = none) {W' : World} (hbel : Below w0.heap.size w0 W') (hsame : ∀ b, b < W.heap.size → W'.heap[b]? = W.heap[b]?) (sz : Sz) (B : Bk) (hB : ∀ ρ' : Nm, ρ.le ρ' → BR ρ' M W' W.heap.size sz B) :
    WR w0 (ρ.upd nid (W.heap.size, sz)) M (putB H (nid, B)) W' := by
  have hw : w0.heap.size ≤ W.heap.size := h.bel.size
  have ha : WR w0 ρ M H W' := h.world hbel hsame
  have hold : ∀ i x, ρ i = some x → i ≠ nid ∧ (putB H (nid, B))[i]? = H[i]? := by
    intro i x hi
    have hne : i ≠ nid := fun e => by subst e; rw [hn] at hi; cases hi
    exact ⟨hne, by rw [get_putB, if_neg hne, if_pos (h.dom i x hi)]⟩
  have hlt : ∀ i b s B', ρ i = some (b, s) → H[i]? = some B' → B'.live → b < W.heap.size := fun i b s B' h1 h2 h3 => (h.blk i b s B' h1 h2).lt h3
  refine ⟨ha.bel, ha.fro, ?_, ?_, ?_, ?_, ?_⟩
  · intro i x hi
    rw [len_putB]
    by_cases e : i = nid
    · subst e; simp only; omega
    · rw [Nm.upd_ne _ _ e] at hi
      have := h.dom i x hi
      omega
  · intro i j b s t B1 B2 hi hj h1 l1 h2 l2
    by_cases e1 : i = nid <;> by_cases e2 : j = nid
    · rw [e1, e2]
    · subst e1
      rw [Nm.upd_self] at hi
      rw [Nm.upd_ne _ _ e2] at hj
      cases hi
      rw [(hold j _ hj).2] at h2
      exact absurd (hlt j _ _ _ hj h2 l2) (by omega)
    · subst e2
      rw [Nm.upd_self] at hj
      rw [Nm.upd_ne _ _ e1] at hi
      cases hj
      rw [(hold i _ hi).2] at h1
      exact absurd (hlt i _ _ _ hi h1 l1) (by omega)
    · rw [Nm.upd_ne _ _ e1] at hi
      rw [Nm.upd_ne _ _ e2] at hj
      rw [(hold i _ hi).2] at h1
      rw [(hold j _ hj).2] at h2
      exact h.inj i j b s t B1 B2 hi hj h1 l1 h2 l2
  · intro i b s B1 hi h1 l1
    by_cases e1 : i = nid
    · subst e1
      rw [Nm.upd_self] at hi
      cases hi; exact hw
    · rw [Nm.upd_ne _ _ e1] at hi
      rw [(hold i _ hi).2] at h1
      exact h.new i b s B1 hi h1 l1
  · intro i b s B1 hi h1
    by_cases e1 : i = nid
    · subst e1
      rw [Nm.upd_self] at hi
      cases hi
      rw [get_putB, if_pos rfl] at h1
      cases h1
      exact hB _ (Nm.le_upd _ hn)
    · rw [Nm.upd_ne _ _ e1] at hi
      rw [(hold i _ hi).2] at h1
      by_cases hl : B1.live
      · exact (ha.blk i b s B1 hi h1).keep (Nm.le_upd _ hn) rfl
      · cases B1 with
        | dead => trivial
        | arr => exact absurd trivial hl
        | map => exact absurd trivial hl
        | iter => exact absurd trivial hl
  · intro i b s B1 hi h1 l1
    by_cases e1 : i = nid
    · subst e1
      rw [Nm.upd_self] at hi
      cases hi
      cases ho : M.obj W.heap.size with
      | none => rfl
      | some o => exact absurd (h.fro.lto ho) (Nat.lt_irrefl _)
    · rw [Nm.upd_ne _ _ e1] at hi
      rw [(hold i _ hi).2] at h1
      exact h.apart i b s B1 hi h1 l1
theorem WR.put (h : WR w0 ρ M H W) {nid : Nat} (hn : ρ nid = none) (o : Obj) (sz : Sz) (B : Bk) (hB : ∀ ρ' : Nm, ρ.le ρ' → BR ρ' M (W.alloc o) W.heap.size sz B) :
    WR w0 (ρ.upd nid (W.heap.size, sz)) M (putB H (nid, B)) (W.alloc o) :=
  h.putG hn (h.bel.alloc h.bel.size o) (fun b hb => Below.heap_alloc _ _ _ hb) sz B hB
/-- a new row of cells -/
theorem WR.putRow (h : WR w0 ρ M H W) {nid : Nat} (hn : ρ nid = none) (T : TypeId) {cs : List AV} {vs us : List Value} (hc : L2 (VR M ρ) cs vs) (h1 : ∀ v ∈ vs, v.oneCell' = true) (fz : Fz := 0) (hty : ∀ u, fz.ty = some u → u = T := by intro u h; cases h) :
    WR w0 (ρ.upd nid (W.heap.size, ⟨(vs ++ us).length, 0⟩)) M (putB H (nid, .arr cs.length cs fz)) (W.alloc (.cells (vs ++ us).toArray T)) := by
  refine h.put hn _ _ _ fun ρ' hr => ⟨rfl, by rw [hc.len]; simp, ⟨(vs ++ us).toArray, T, (0, 0), heap_alloc_new W _, by simp, fun o _ => by simp, fun i c hi => ?_⟩, fun o v e => ?_, fun u e => by cases hty u e; exact ⟨_, _, heap_alloc_new W _⟩⟩
  · obtain ⟨v, hv, hr'⟩ := hc.get hi
    have hlt := (List.getElem?_eq_some_iff.1 hv).1
    exact ⟨v, by show (vs ++ us).toArray[i]? = some v; simp only [List.getElem?_toArray]; rw [List.getElem?_append_left hlt]; exact hv, h1 v (List.mem_of_getElem? hv), hr'.mono (Mem.le.refl M) hr⟩
  · exact absurd (h.fro.lt e) (by omega)
/-- a block of cells that is written: cells from off on -/
theorem WR.setRow (h : WR w0 ρ M H W) {id b : Nat} {sz : Sz} {L : Nat} {fz : Fz} {cs : List AV} (hid : ρ id = some (b, sz)) (hB : H[id]? = some (.arr L cs fz)) {off : Nat} {xs : List AV} {vs : List Value} (hx : L2 (VR M ρ) xs vs) (h1 : ∀ v ∈ vs, v.oneCell' = true)
    (hfit : off + xs.length ≤ L) (hfz : fz ≤ off) {cur : Array Value} {e : TypeId} {fr : Nat × Nat} (hcur : W.heap[b]? = some (.cells cur e fr)) {cur' : Array Value} (hs : cur'.size = cur.size)
    (hc : ∀ i, cur'[i]? = if off + sz.base ≤ i ∧ i < off + sz.base + vs.length then vs[i - (off + sz.base)]? else cur[i]?) {W' : World} (hW : W'.heap[b]? = some (.cells cur' e fr)) (ho : ∀ k, k ≠ b → W'.heap[k]? = W.heap[k]?) (hos : W'.os = W.os ∧ W'.tape = W.tape ∧ W'.output = W.output ∧ W.heap.size ≤ W'.heap.size) :
    WR w0 ρ M (putB H (id, .arr L (splice cs off xs) fz)) W' := by
  obtain ⟨b1, b2, ⟨cur0, e0, fr0, b3, b4, b5, b6⟩, b7⟩ := h.blk id b sz _ hid hB
  rw [hcur] at b3
  cases b3
  have hlid := h.dom id _ hid
  have hlen : (splice cs off xs).length = L := by simp [splice]; omega
  have hget : ∀ i, i < H.length → i ≠ id → (putB H (id, .arr L (splice cs off xs) fz))[i]? = H[i]? := fun i hi hne => by rw [get_putB, if_neg hne, if_pos hi]
  have hself : (putB H (id, .arr L (splice cs off xs) fz))[id]? = some (.arr L (splice cs off xs) fz) := by rw [get_putB, if_pos rfl]
  have hwb : w0.heap.size ≤ b := h.new id b sz _ hid hB trivial
  have hback : ∀ i x B1, ρ i = some x → (putB H (id, .arr L (splice cs off xs) fz))[i]? = some B1 → B1.live → ∃ B2, H[i]? = some B2 ∧ B2.live := by
    intro i x B1 hi h1 l1
    by_cases e1 : i = id
    · subst e1; exact ⟨_, hB, trivial⟩
    · rw [hget i (h.dom i _ hi) e1] at h1; exact ⟨_, h1, l1⟩
  refine ⟨?_, ?_, ?_, ?_, ?_, ?_, ?_⟩
  · exact h.bel.trans ⟨hos.1, hos.2.1, hos.2.2.1, hos.2.2.2, fun k hk => ho k (by omega)⟩
  · refine ⟨fun k o v hk => ?_, fun k kv hk => ?_, fun k o hk => ?_, Nat.le_trans h.fro.base hos.2.2.2⟩
    · obtain ⟨k1, k2⟩ := h.fro.cell k o v hk
      refine ⟨?_, k2⟩
      by_cases e1 : k = b
      · subst e1
        have hlt := b7.1 o v hk
        simp only [World.cell?, hW, hcur] at k1 ⊢
        simp only [Option.isSome_none, Bool.false_eq_true, if_false] at k1 ⊢
        rw [hc, if_neg (by omega)]
        exact k1
      · rw [World.cell?_of_block (w := W) (a := ⟨k, o, none⟩) (ho k e1)]; exact k1
    · obtain ⟨k1, k2⟩ := h.fro.map k kv hk
      have e1 : k ≠ b := fun e => by subst e; rw [hcur] at k1; cases k1
      exact ⟨(ho k e1).trans k1, k2⟩
    · obtain ⟨k1, k2⟩ := h.fro.obj k o hk
      have e1 : k ≠ b := fun e => by subst e; rw [h.apart id k sz _ hid hB trivial] at hk; cases hk
      exact ⟨(ho k e1).trans k1, k2⟩
  · intro i x hi
    rw [len_putB]
    have := h.dom i x hi
    omega
  · intro i j b1 s t B1 B2 hi hj h1 l1 h2 l2
    obtain ⟨_, p1, p2⟩ := hback i _ _ hi h1 l1
    obtain ⟨_, q1, q2⟩ := hback j _ _ hj h2 l2
    exact h.inj i j b1 s t _ _ hi hj p1 p2 q1 q2
  · intro i b1 s B1 hi h1 l1
    obtain ⟨_, p1, p2⟩ := hback i _ _ hi h1 l1
    exact h.new i b1 s _ hi p1 p2
  · intro i b1 s B1 hi h1'
    by_cases e1 : i = id
    · subst e1
      rw [hid] at hi
      cases hi
      rw [hself] at h1'
      cases h1'
      refine ⟨hlen.symm, b2, ⟨cur', e, fr, hW, by rw [hs]; exact b4, b5, fun j c hj => ?_⟩, b7.1, b7.2.set hcur hW⟩
      rw [hc]
      by_cases hin : off ≤ j ∧ j < off + vs.length
      · rw [if_pos (by omega), show j + sz.base - (off + sz.base) = j - off by omega]
        have : xs[j - off]? = some c := by
          have hl := hx.len
          simp only [splice, List.getElem?_append] at hj
          have t1 : (cs.take off).length = off := by simp; omega
          rw [if_pos (by simp; omega), if_neg (by omega)] at hj
          rw [t1] at hj
          exact hj
        obtain ⟨v, hv, hr⟩ := hx.get this
        exact ⟨v, hv, h1 v (List.mem_of_getElem? hv), hr⟩
      · rw [if_neg (by omega)]
        refine b6 j c ?_
        have hl := hx.len
        simp only [splice, List.getElem?_append] at hj
        by_cases hj1 : j < off
        · rw [if_pos (by simp; omega), if_pos (by simp; omega)] at hj
          rw [List.getElem?_take, if_pos hj1] at hj
          exact hj
        · rw [if_neg (by simp; omega), List.getElem?_drop] at hj
          have : off + xs.length + (j - (List.take off cs ++ xs).length) = j := by simp; omega
          rw [this] at hj
          exact hj
    · rw [hget i (h.dom i _ hi) e1] at h1'
      by_cases hl : B1.live
      · have hne : b1 ≠ b := fun eb => by subst eb; exact e1 (h.inj i id b1 s sz _ _ hi hid h1' hl hB trivial)
        exact (h.blk i b1 s B1 hi h1').keep (Nm.le.refl _) (ho b1 hne)
      · cases B1 with
        | dead => trivial
        | arr => exact absurd trivial hl
        | map => exact absurd trivial hl
        | iter => exact absurd trivial hl
  · intro i b1 s B1 hi h1 l1
    obtain ⟨_, p1, p2⟩ := hback i _ _ hi h1 l1
    exact h.apart i b1 s _ hi p1 p2
end
end Go.Pm

set_option linter.unusedVariables false
namespace Go.Pm
open Go Go.RowKit
theorem add_base (b off base j : Nat) : Addr.add ⟨b, off + base, none⟩ j = ⟨b, off + j + base, none⟩ := by
  have e : off + base + j = off + j + base := by omega
  unfold Addr.add
  split <;> simp_all
theorem add_flat (b off j : Nat) : Addr.add ⟨b, off, none⟩ j = ⟨b, off + j, none⟩ := by unfold Addr.add; split <;> simp_all
theorem choose_list {R : AV → Value → Prop} {Q : Nat → Value → Prop} : ∀ (cs : List AV) (k : Nat), (∀ (i : Nat) c, cs[i]? = some c → ∃ w, R c w ∧ Q (k + i) w) → ∃ vs, L2 R cs vs ∧ ∀ (i : Nat) v, vs[i]? = some v → Q (k + i) v := by
  intro cs
  induction cs with
  | nil => intro k _; exact ⟨[], L2.nil, fun i v h => by simp at h⟩
  | cons c cs ih =>
    intro k h
    obtain ⟨w, h1, h2⟩ := h 0 c rfl
    obtain ⟨vs, h3, h4⟩ := ih (k + 1) (fun i c' hc => by
      obtain ⟨w', a, b⟩ := h (i + 1) c' (by simpa using hc)
      exact ⟨w', a, by rw [Nat.add_assoc, Nat.add_comm 1 i]; exact b⟩)
    refine ⟨w :: vs, L2.cons h1 h3, fun i v hv => ?_⟩
    cases i with
    | zero => simp at hv; subst hv; exact h2
    | succ i => have := h4 i v (by simpa using hv); rwa [Nat.add_assoc, Nat.add_comm 1 i] at this
theorem run_szOf {P : Program} {t : TypeId} {n : Nat} (h : szOf P t = some n) (w : World) : (sizeOf t).run P w = .ok n w := by
  unfold szOf at h
  cases hi : P.info? t with
  | none => simp [hi] at h
  | some i => simp [hi] at h; simp [sizeOf, typeInfo, hi, h]
theorem run_aggB {P : Program} {t : TypeId} {b : Bool} (h : aggB P t = some b) (w : World) : (isAgg t).run P w = .ok b w := by
  unfold aggB at h
  cases hi : P.underlying t with
  | none => simp [hi] at h
  | some d => simp [hi] at h; subst h; cases d <;> simp [isAgg, run_underlying hi, aggD]
theorem run_zeroA {P : Program} {t : TypeId} {z : List AV} (h : zeroA P t = some z) (w : World) : ∃ v, (zeroValue t).run P w = .ok v w ∧ (∀ M ρ, L2 (VR M ρ) z v.cells.toList) ∧ (∀ u ∈ v.cells.toList, u.oneCell' = true) ∧ ∃ i, P.info? t = some i ∧ i.zero = some v := by
  unfold zeroA at h
  cases hi : P.info? t with
  | none => simp [hi] at h
  | some i =>
    cases hz : i.zero with
    | none => simp [hi, hz] at h
    | some v =>
      simp only [hi, hz] at h
      split at h
      · rename_i h1
        cases h
        exact ⟨v, by simp [zeroValue, typeInfo, hi, hz], fun M ρ => by simpa using L2.map v.cells.toList ofC id fun x _ => ofC_ok M ρ x, fun u hu => List.all_eq_true.1 h1 u hu, i, rfl, hz⟩
      · cases h
theorem run_zeroX {P : Program} {t : TypeId} {z : List AV} (h : zeroX P t = some z) (w : World) : ∃ v, (zeroValue t).run P w = .ok v w ∧ (∀ M ρ, L2 (VR M ρ) z v.cells.toList) ∧ ∀ u ∈ v.cells.toList, u.oneCell' = true := by
  unfold zeroX at h
  cases hi : P.info? t with
  | none => simp [hi] at h
  | some i =>
    cases hz : i.zero with
    | none => simp [hi, hz] at h
    | some v =>
      simp only [hi, hz] at h
      split at h
      · rename_i h1
        cases h
        exact ⟨v, by simp [zeroValue, typeInfo, hi, hz], fun M ρ => by simpa using L2.map v.cells.toList AV.s id fun x _ => .s _ _, fun u hu => List.all_eq_true.1 h1 u hu⟩
      · cases h
section
variable {P : Program} {w0 W : World} {ρ : Nm} {M : Mem} {H : List Bk}
/-- the cells behind a pointer -/
theorem cells_at (hw : WR w0 ρ M H W) {x : AV} {u : Value} (hx : VR M ρ x u) {cs : List AV}
    (h : derefA (fun j => H[j]?) x = some cs) :
    ∃ A : Addr, u = .pointer (some A) ∧ ∀ (i : Nat) c, cs[i]? = some c → ∃ v, W.cell? (A.add i) = some v ∧ v.oneCell' = true ∧ VR M ρ c v := by
  cases hx with
  | ptr h1 =>
    rename_i id off b sz
    simp only [derefA] at h
    split at h
    · rename_i L cs0 fz hb
      cases h
      obtain ⟨h2, h3, ⟨cur, e, fr, h4, h5, h6, h7⟩, h8⟩ := hw.blk _ _ _ _ h1 hb
      refine ⟨_, rfl, fun i c hc => ?_⟩
      rw [List.getElem?_drop] at hc
      obtain ⟨v, a, b, d⟩ := h7 _ c hc
      exact ⟨v, by rw [add_base]; simpa [World.cell?, h4] using a, b, d⟩
    · cases h
  | fptr_e =>
    simp [derefA] at h
    subst h
    exact ⟨_, rfl, fun i c hc => by simp at hc⟩
  | fptr f h1 h2 =>
    simp [derefA] at h
    subst h
    refine ⟨_, rfl, fun i c hc => ?_⟩
    obtain ⟨a, b⟩ := hw.fro.cell _ _ _ (h1 i c hc)
    exact ⟨f i, by rw [add_flat]; exact a, b, (h2 i c hc).mono (Mem.le.refl M) (Nm.none_le ρ)⟩
  | _ => cases h
theorem takeE_some : ∀ {n : Nat} {cs xs : List AV}, takeE n cs = some xs → xs.length = n ∧ cs.take n = xs := by
  intro n
  induction n with
  | zero => intro cs xs h; simp [takeE] at h; subst h; simp
  | succ n ih =>
    intro cs xs h
    cases cs with
    | nil => simp [takeE] at h
    | cons c cs =>
      simp only [takeE, Option.map_eq_some_iff] at h
      obtain ⟨ys, h1, rfl⟩ := h
      obtain ⟨h2, h3⟩ := ih h1
      exact ⟨by simp [h2], by simp [h3]⟩
theorem load_agg {t : TypeId} {sz : Nat} (hs : szOf P t = some sz) (ha : aggB P t = some true) {A : Addr} {cs xs : List AV} (hc : ∀ (i : Nat) c, cs[i]? = some c → ∃ v, W.cell? (A.add i) = some v ∧ v.oneCell' = true ∧ VR M ρ c v)
    (hl : xs.length = sz) (hx : cs.take sz = xs) : ∃ v, (Instr.loadAt t (.pointer (some A))).run P W = .ok v W ∧ VR M ρ (.agg xs) v := by
  obtain ⟨vs, h1, h2⟩ := choose_list (R := VR M ρ) (Q := fun i v => W.cell? (A.add i) = some v ∧ v.oneCell' = true) xs 0 (fun i c hi => by
    have : cs[i]? = some c := by
      rw [← hx, List.getElem?_take] at hi
      split at hi
      · exact hi
      · cases hi
    obtain ⟨v, a, b, d⟩ := hc i c this
    exact ⟨v, d, by rw [Nat.zero_add]; exact ⟨a, b⟩⟩)
  simp only [Nat.zero_add] at h2
  have hr := run_loadCells_list (P := P) W A vs (fun j v hj => (h2 j v hj).1)
  rw [← h1.len, hl] at hr
  refine ⟨.agg vs.toArray, ?_, .mkAgg h1 fun u hu => ?_⟩
  · simp [Instr.loadAt, Instr.sureAddr, loadVar, run_aggB ha, run_szOf hs, hr]
  · obtain ⟨i, hi⟩ := List.mem_iff_getElem?.1 hu
    exact (h2 i u hi).2
theorem load_one {t : TypeId} (ha : aggB P t = some false) {A : Addr} {cs : List AV} {c : AV} (hc : ∀ (i : Nat) c, cs[i]? = some c → ∃ v, W.cell? (A.add i) = some v ∧ v.oneCell' = true ∧ VR M ρ c v)
    (h0 : cs[0]? = some c) : ∃ v, (Instr.loadAt t (.pointer (some A))).run P W = .ok v W ∧ VR M ρ c v := by
  obtain ⟨v, h1, _, h2⟩ := hc 0 c h0
  have e : A.add 0 = A := by simp [Addr.add]
  rw [e] at h1
  exact ⟨v, by simp [Instr.loadAt, Instr.sureAddr, loadVar, run_aggB ha, load, Sem.run, h1], h2⟩
theorem ok_load {C : Cx} {h : Hint} {t : TypeId} {x v : AV} {news : List Bk} {bs : List Bool} {ps : List Prop} (hw : WR w0 ρ M H W) (hr : rdLoad C (fun j => H[j]?) h t x = some (v, news, bs, ps)) (hp : allP ps) {u : Value} (hx : VR M ρ x u) :
    news = [] ∧ ∃ y, (Instr.loadAt t u).run C.P W = .ok y W ∧ VR M ρ v y := by
  unfold rdLoad at hr
  split at hr
  · rename_i sz ag cs hs ha hcs
    obtain ⟨A, rfl, hA⟩ := cells_at hw hx hcs
    unfold loadV at hr
    split at hr
    · split at hr
      · rename_i xs hh
        split at hr
        · rename_i hl
          cases hr
          exact ⟨rfl, load_agg hs ha hA hl (hl ▸ hp.1)⟩
        · cases hr
      · split at hr
        · rename_i xs h1
          cases hr
          obtain ⟨h3, h4⟩ := takeE_some h1
          exact ⟨rfl, load_agg hs ha hA h3 h4⟩
        · cases hr
    · split at hr
      · rename_i c hh
        cases hr
        exact ⟨rfl, load_one ha hA (by
          have := hp.1
          cases cs with
          | nil => simp at this
          | cons c' cs => simp at this; simp [this])⟩
      · cases hr
      · split at hr
        · cases hr
          exact ⟨rfl, load_one ha hA rfl⟩
        · cases hr
  · cases hr
theorem pureP_run {α : Type} : ∀ {s : Sem α} {v : α}, pureP P s = some v → ∀ W, s.run P W = .ok v W
  | .pure a, v, h, W => by simp [pureP] at h; subst h; rfl
  | .program k, v, h, W => by
    simp only [pureP] at h
    simpa [Sem.run] using pureP_run h W
  | .load .., _, h, _ | .store .., _, h, _ | .new .., _, h, _ | .shape .., _, h, _ | .freeze .., _, h, _ | .frozen .., _, h, _ | .getObj .., _, h, _ | .setObj .., _, h, _ | .choose .., _, h, _ | .sys .., _, h, _ | .mark .., _, h, _ | .halt .., _, h, _ => by simp [pureP] at h
end
end Go.Pm

set_option linter.unusedVariables false
namespace Go.Pm
open Go Go.RowKit
section
variable {P : Program} {w0 W : World} {ρ : Nm} {M : Mem} {H : List Bk}
theorem part_flat {cs : List Value} {i : Nat} {v : Value} {t : TypeId} {d : TypeDesc} {a : Value} (ht : P.underlying t = some d) (hp : kindOk d a = true) (hv : cs[i]? = some v) : (part t cs.toArray i).run P W = .ok v W := by
  cases d <;> cases a <;> simp [kindOk] at hp <;> simp [part, isAgg, run_underlying ht, hv]
/-- two cells of a plain type -/
theorem eqS_ok {t : TypeId} {d : TypeDesc} (ht : P.underlying t = some d) (n : Nat) {a b : Value} {r : Bool} (h : eqS a b = some r) (hd : kindOk d a = true) : (Op.equalIn (n + 1) t a b).run P W = .ok r W := by
  cases a <;> cases b <;> simp [eqS] at h <;> cases d <;> simp [kindOk] at hd
  · subst h; rw [run_equalIn_bool' W n t _ _ ht]
  · obtain ⟨rfl, rfl⟩ := h; rw [run_equalIn_int W n t _ _ _ _ ht]
  · subst h; rw [run_equalIn_string W n t _ _ ht]
theorem eqF_cons {f : Field} {fs : List Field} {i : Nat} {xs ys : List AV} {r : Bool} (h : eqF P (f :: fs) i xs ys = some r) :
    ∃ a b xs' ys' d p q, xs = .s a :: xs' ∧ ys = .s b :: ys' ∧ P.underlying f.type = some d ∧ f.name ≠ "_" ∧ f.offset = i ∧ kindOk d a = true ∧ eqS a b = some p ∧ eqF P fs (i + 1) xs' ys' = some q ∧ r = (p && q) := by
  cases xs with
  | nil => simp [eqF] at h
  | cons x xs =>
    cases ys with
    | nil => cases x <;> simp [eqF] at h
    | cons y ys =>
      cases x <;> cases y <;> first | (simp [eqF] at h; done) | skip
      rename_i a b
      simp only [eqF] at h
      split at h
      · rename_i d hd
        split at h
        · rename_i hc
          split at h
          · rename_i p q hp hq
            cases h
            exact ⟨a, b, xs, ys, d, p, q, rfl, rfl, hd, hc.1, hc.2.1, hc.2.2, hp, hq, rfl⟩
          · cases h
        · cases h
      · cases h
theorem eqF_ok (n : Nat) (X Y : List Value) : ∀ (fs : List Field) (i : Nat) (xs ys : List AV) (r : Bool), eqF P fs i xs ys = some r → L2 (VR M ρ) xs (X.drop i) → L2 (VR M ρ) ys (Y.drop i) →
    (Op.eqFields (n + 1) X.toArray Y.toArray fs).run P W = .ok r W := by
  intro fs
  induction fs with
  | nil =>
    intro i xs ys r h _ _
    cases xs <;> cases ys <;> simp [eqF] at h
    subst h
    simp [Op.eqFields]
  | cons f fs ih =>
    intro i xs0 ys0 r h hx hy
    obtain ⟨a, b, xs, ys, d, p, q, rfl, rfl, hd, h4, rfl, h6, hp, hq, rfl⟩ := eqF_cons h
    obtain ⟨v, X', e1, r1, t1⟩ := hx.inv_cons
    obtain ⟨u, Y', e2, r2, t2⟩ := hy.inv_cons
    obtain rfl := r1.inv_s
    obtain rfl := r2.inv_s
    have g1 : X[f.offset]? = some v := by
      have : (X.drop f.offset)[0]? = some v := by rw [e1]; rfl
      simpa using this
    have g2 : Y[f.offset]? = some u := by
      have : (Y.drop f.offset)[0]? = some u := by rw [e2]; rfl
      simpa using this
    have d1 : X.drop (f.offset + 1) = X' := by rw [← List.drop_drop, e1]; rfl
    have d2 : Y.drop (f.offset + 1) = Y' := by rw [← List.drop_drop, e2]; rfl
    have hi := ih (f.offset + 1) xs ys q hq (d1 ▸ t1) (d2 ▸ t2)
    have hu : kindOk d u = true := by
      cases v <;> cases u <;> simp [eqS] at hp <;> cases d <;> simp_all [kindOk]
    simp only [Op.eqFields, ne_eq, h4, not_false_eq_true, if_true, Sem.run_bind, part_flat hd h6 g1, part_flat hd hu g2, Result.andThen_ok, eqS_ok hd n hp h6]
    cases p
    · simp
    · simp [hi]
theorem eqAgg_ok {C : Cx} {op : BinOp} {t : TypeId} {x y : Operand} {xs ys : List AV} {b : Bool} (h : eqAgg P t xs ys = some b) {X Y : List Value} (hx : L2 (VR M ρ) xs X) (hy : L2 (VR M ρ) ys Y) :
    (eqGuard op t x y (.agg X.toArray) (.agg Y.toArray)).run P W = .ok () W ∧ (Op.equalIn 10000 t (.agg X.toArray) (.agg Y.toArray)).run P W = .ok b W := by
  unfold eqAgg at h
  split at h
  · rename_i fs hfs
    split at h
    · rename_i hc
      have hf : P.fieldsOf t = fs := by simp [Program.fieldsOf, hfs]
      refine ⟨run_eqGuard_agg W op t x y _ _ hc.2, ?_⟩
      rw [run_equalIn_struct W 9999 t _ _ (by rw [hf]; exact hfs) hc.1, hf]
      exact eqF_ok 9998 X Y fs.toList 0 xs ys b h (by simpa using hx) (by simpa using hy)
    · cases h
  · cases h
end
end Go.Pm

set_option linter.unusedVariables false
namespace Go.Pm
open Go Go.RowKit
theorem allB_cons {b : Bool} {bs : List Bool} (h : (b :: bs).all id = true) : b = true ∧ bs.all id = true := by simpa using h
theorem allB_dec {p : Prop} [Decidable p] {bs : List Bool} (h : (decide p :: bs).all id = true) : p ∧ bs.all id = true := by simpa using h
section
variable {P : Program} {w0 W : World} {ρ : Nm} {M : Mem} {H : List Bk}
theorem guard_int (op : BinOp) (t : TypeId) (x y : Operand) (k k' : IntKind) (a b : Int) : (eqGuard op t x y (.int k a) (.int k' b)).run P W = .ok () W := by cases op <;> simp [eqGuard]
theorem guard_string (op : BinOp) (t : TypeId) (x y : Operand) (a b : ByteArray) : (eqGuard op t x y (.string a) (.string b)).run P W = .ok () W := by cases op <;> simp [eqGuard]
theorem guard_bool (op : BinOp) (t : TypeId) (x y : Operand) (a b : Bool) : (eqGuard op t x y (.bool a) (.bool b)).run P W = .ok () W := by cases op <;> simp [eqGuard]
theorem eqGuard_slice_c (op : BinOp) (t : TypeId) (x y : Operand) (a : Option Addr) (n m : Nat) (v : Value) : eqGuard op t x y (.slice a n m) v = pure () := by cases op <;> rfl
theorem run_pure' {α : Type} (P : Program) (w : World) (a : α) : (pure a : Sem α).run P w = .ok a w := rfl
theorem run_eq_sl {P : Program} {w : World} {t e : TypeId} {a : Option Addr} {l c : Nat} (h : P.underlying t = some (.slice e)) : (Op.equal t (.slice a l c) (.slice none 0 0)).run P w = .ok a.isNone w := by
  have key : ∀ d : Nat, (Op.equalIn (d + 1) t (.slice a l c) (.slice none 0 0)).run P w = .ok a.isNone w := by
    intro d
    cases a <;> simp [Op.equalIn, run_underlying h]
  exact key 9999
theorem run_eql_sl {P : Program} {w : World} {t e : TypeId} {a : Option Addr} {l c : Nat} (h : P.underlying t = some (.slice e)) : (binOp .eql t (.slice a l c) (.slice none 0 0)).run P w = .ok (.bool a.isNone) w := by
  simp only [binOp]
  simp [run_eq_sl h]
theorem run_neq_sl {P : Program} {w : World} {t e : TypeId} {a : Option Addr} {l c : Nat} (h : P.underlying t = some (.slice e)) : (binOp .neq t (.slice a l c) (.slice none 0 0)).run P w = .ok (.bool (!a.isNone)) w := by
  simp only [binOp]
  simp [run_eq_sl h]
theorem ok_bin {C : Cx} {op : BinOp} {xT : TypeId} {x y : Operand} {a b v : AV} {news : List Bk} {bs : List Bool} {ps : List Prop} (hr : rdBin C op xT x y a b = some (v, news, bs, ps)) (hb : bs.all id = true) {ua ub : Value} (h1 : VR M ρ a ua) (h2 : VR M ρ b ub) (hc : ∀ c, y = .const c → ub = c) :
    news = [] ∧ ∃ u, (do eqGuard op xT x y ua ub; binOp op xT ua ub : Sem Value).run C.P W = .ok u W ∧ VR M ρ v u := by
  unfold rdBin at hr
  split at hr
  · rename_i k m k' n
    obtain rfl := h1.inv_s
    obtain rfl := h2.inv_s
    simp only [Sem.run_bind, guard_int, Result.andThen_ok]
    split at hr
    · cases hr
      obtain ⟨h0, _⟩ := allB_dec hb
      refine ⟨rfl, _, ?_, .s _ _⟩
      simp [binOp, Op.shift, show ¬ n < 0 by omega]
    · cases hr
      obtain ⟨h0, _⟩ := allB_dec hb
      refine ⟨rfl, _, ?_, .s _ _⟩
      simp [binOp, Op.shift, show ¬ n < 0 by omega]
    · split at hr
      · rename_i hk
        subst hk
        cases hr
        obtain ⟨h0, _⟩ := allB_dec hb
        refine ⟨rfl, _, ?_, .s _ _⟩
        simp [binOp, Op.intDiv, h0]
      · cases hr
    · split at hr
      · rename_i hk
        subst hk
        cases hr
        obtain ⟨h0, _⟩ := allB_dec hb
        refine ⟨rfl, _, ?_, .s _ _⟩
        simp [binOp, Op.intDiv, h0]
      · cases hr
    · simp only [Option.map_eq_some_iff] at hr
      obtain ⟨u, hu, he⟩ := hr
      cases he
      exact ⟨rfl, u, pureP_run hu W, .s _ _⟩
  · rename_i m n
    obtain rfl := h1.inv_s
    obtain rfl := h2.inv_s
    simp only [Sem.run_bind, guard_string, Result.andThen_ok]
    split at hr
    · cases hr
      obtain ⟨h0, _⟩ := allB_dec hb
      refine ⟨rfl, _, ?_, .s _ _⟩
      have : ¬ ((m.size + n.size : Nat) : Int) > IntKind.i64.max := by simp [IntKind.max, IntKind.signed, IntKind.bits]; omega
      simp only [binOp, Op.stringOp]
      rw [if_neg this]
      rfl
    · simp only [Option.map_eq_some_iff] at hr
      obtain ⟨u, hu, he⟩ := hr
      cases he
      exact ⟨rfl, u, pureP_run hu W, .s _ _⟩
  · rename_i m n
    obtain rfl := h1.inv_s
    obtain rfl := h2.inv_s
    simp only [Sem.run_bind, guard_bool, Result.andThen_ok]
    split at hr
    · rename_i ht
      cases hr
      exact ⟨rfl, _, by simp [binOp, run_equal_bool W xT m n ht], .s _ _⟩
    · rename_i ht
      cases hr
      exact ⟨rfl, _, by simp [binOp, run_equal_bool W xT m n ht], .s _ _⟩
    · cases hr
  · split at hr
    · rename_i ht
      cases hr
      obtain rfl := hc _ rfl
      cases h1 with
      | sx_e a => exact ⟨rfl, _, by simp only [Sem.run_bind, eqGuard_slice_c, run_pure', Result.andThen_ok, run_eql_sl ht]; rfl, .s _ _⟩
      | sx f a b d => exact ⟨rfl, _, by simp only [Sem.run_bind, eqGuard_slice_c, run_pure', Result.andThen_ok, run_eql_sl ht]; rfl, .s _ _⟩
    · rename_i ht
      cases hr
      obtain rfl := hc _ rfl
      cases h1 with
      | sx_e a => exact ⟨rfl, _, by simp only [Sem.run_bind, eqGuard_slice_c, run_pure', Result.andThen_ok, run_neq_sl ht]; rfl, .s _ _⟩
      | sx f a b d => exact ⟨rfl, _, by simp only [Sem.run_bind, eqGuard_slice_c, run_pure', Result.andThen_ok, run_neq_sl ht]; rfl, .s _ _⟩
    · cases hr
  · obtain rfl := h1.inv_s
    split at hr
    · rename_i ht
      cases hr
      obtain rfl := hc _ rfl
      exact ⟨rfl, _, by simp only [Sem.run_bind, eqGuard_slice_c, run_pure', Result.andThen_ok, run_eql_sl ht]; rfl, .s _ _⟩
    · rename_i ht
      cases hr
      obtain rfl := hc _ rfl
      exact ⟨rfl, _, by simp only [Sem.run_bind, eqGuard_slice_c, run_pure', Result.andThen_ok, run_neq_sl ht]; rfl, .s _ _⟩
    · cases hr
  · rename_i xs ys
    obtain ⟨X, rfl, hx, _⟩ := h1.inv_agg
    obtain ⟨Y, rfl, hy, _⟩ := h2.inv_agg
    split at hr
    · rename_i q hq
      cases hr
      obtain ⟨g1, g2⟩ := eqAgg_ok (C := C) (op := .eql) (x := x) (y := y) (W := W) hq hx hy
      exact ⟨rfl, _, by simp only [Sem.run_bind, g1, Result.andThen_ok, run_eql_struct, g2], .s _ _⟩
    · rename_i q hq
      cases hr
      obtain ⟨g1, g2⟩ := eqAgg_ok (C := C) (op := .neq) (x := x) (y := y) (W := W) hq hx hy
      exact ⟨rfl, _, by simp only [Sem.run_bind, g1, Result.andThen_ok, run_neq_struct, g2], .s _ _⟩
    · cases hr
  · cases hr
def faddrA (d : Nat) : AV → Option AV
  | .ptr id off => some (.ptr id (off + d))
  | .fptr cs => some (.fptr (cs.drop d))
  | _ => none
theorem ok_fieldAddr {C : Cx} {t : TypeId} {f : Nat} {fd : Field} {sz : Nat} (hf : fieldOf C.P t f = some fd) (hs : szOf C.P fd.type = some sz) (h0 : sz ≠ 0) {x v : AV} {u : Value} (hx : VR M ρ x u)
    (hv : faddrA fd.offset x = some v) :
    ∃ y, (Instr.fieldAt t u f).run C.P W = .ok y W ∧ VR M ρ v y := by
  unfold fieldOf at hf
  split at hf
  · rename_i fs hfs
    have key : ∀ A : Addr, (Instr.fieldAt t (.pointer (some A)) f).run C.P W = .ok (.pointer (some (A.add fd.offset))) W := by
      intro A
      simp [Instr.fieldAt, run_underlying hfs, hf, Instr.sureAddr, fieldPlace, run_szOf hs, h0]
    cases hx <;> first | (cases hv; done) | skip
    · rename_i h1
      cases hv
      exact ⟨_, key _, by rw [add_base]; exact .ptr h1⟩
    · cases hv
      exact ⟨_, key _, by simp; exact .fptr_e⟩
    · rename_i f1 h1 h2
      cases hv
      refine ⟨_, key _, ?_⟩
      rw [add_flat]
      refine .fptr (fun i => f1 (fd.offset + i)) (fun i c hc => ?_) (fun i c hc => ?_)
      · rw [List.getElem?_drop] at hc; have := h1 _ _ hc; rwa [← Nat.add_assoc] at this
      · rw [List.getElem?_drop] at hc; exact h2 _ _ hc
  · cases hf
end
end Go.Pm

set_option linter.unusedVariables false
namespace Go.Pm
open Go Go.RowKit
section
variable {P : Program} {w0 W : World} {ρ : Nm} {M : Mem} {H : List Bk}
theorem fptr_drop {b off d : Nat} {cs : List AV} {f : Nat → Value} (h1 : ∀ (i : Nat) c, cs[i]? = some c → M.cell b (off + i) = some (f i)) (h2 : ∀ (i : Nat) c, cs[i]? = some c → VR M Nm.none c (f i)) : VR M ρ (.fptr (cs.drop d)) (.pointer (some (Addr.add ⟨b, off, none⟩ d))) := by
  rw [add_flat]
  refine .fptr (fun i => f (d + i)) (fun i c hc => ?_) (fun i c hc => ?_)
  · rw [List.getElem?_drop] at hc; have := h1 _ _ hc; rwa [← Nat.add_assoc] at this
  · rw [List.getElem?_drop] at hc; exact h2 _ _ hc
theorem ok_indexAddr {C : Cx} {h : Hint} {t : TypeId} {x ix v : AV} {news : List Bk} {bs : List Bool} {ps : List Prop} (hr : rdIndexAddr C h t x ix = some (v, news, bs, ps)) (hb : bs.all id = true) (hp : allP ps) {u ui : Value} (hx : VR M ρ x u) (hi : VR M ρ ix ui) :
    news = [] ∧ ∃ y, (Instr.indexAt t u ui).run C.P W = .ok y W ∧ VR M ρ v y := by
  unfold rdIndexAddr at hr
  split at hr
  · rename_i k i
    obtain rfl := hi.inv_s
    split at hr
    · rename_i el ht
      split at hr
      · rename_i sz hs
        have key : ∀ (A : Addr) (n cap : Nat), 0 ≤ i ∧ i < n → (Instr.indexAt t (.slice (some A) n cap) (.int k i)).run C.P W = .ok (.pointer (some (A.add (i.toNat * sz)))) W := by
          intro A n cap hin
          simp [Instr.indexAt, asIntOf, run_underlying ht, run_szOf hs, hin]
        split at hr
        · rename_i n cs
          have fin : ∀ {a : Option Addr} {cap : Nat} {cs' : List AV}, 0 ≤ i ∧ i < (n : Int) → VR M ρ (.sl n cs) u → cs' = cs.drop (i.toNat * sz) → ∃ y, (Instr.indexAt t u (.int k i)).run C.P W = .ok y W ∧ VR M ρ (.fptr cs') y := by
            intro a cap cs' hin hx he
            cases hx with
            | sl_e h1 h2 =>
              rename_i a cap
              cases a with
              | none => have := h2 rfl; omega
              | some A => exact ⟨_, key _ _ _ hin, by subst he; simp; exact .fptr_e⟩
            | sl f h1 h2 h3 => exact ⟨_, key _ _ _ hin, by subst he; exact fptr_drop h2 h3⟩
          split at hr
          · cases hr
            obtain ⟨h0, _⟩ := allB_dec hb
            exact ⟨rfl, fin (a := none) (cap := 0) h0 hx hp.1.symm⟩
          · cases hr
            obtain ⟨h0, _⟩ := allB_dec hb
            exact ⟨rfl, fin (a := none) (cap := 0) h0 hx rfl⟩
        · rename_i id off n k'
          split at hr
          · rename_i hk
            cases hr
            obtain ⟨h0, _⟩ := allB_dec hb
            cases hx with
            | osl_e => omega
            | osl h1 h2 h3 => exact ⟨rfl, _, key _ _ _ h0, by rw [add_base]; exact .ptr h1⟩
          · cases hr
        · cases hr
      · cases hr
    · rename_i len el ht
      split at hr
      · rename_i sz hs
        have key : ∀ (A : Addr), 0 ≤ i ∧ i < (len : Int) → (Instr.indexAt t (.pointer (some A)) (.int k i)).run C.P W = .ok (.pointer (some (A.add (i.toNat * sz)))) W := by
          intro A hin
          simp [Instr.indexAt, asIntOf, run_underlying ht, run_szOf hs, hin, Instr.sureAddr]
        split at hr
        · rename_i id off
          cases hr
          obtain ⟨h0, _⟩ := allB_dec hb
          cases hx with
          | ptr h1 => exact ⟨rfl, _, key _ h0, by rw [add_base]; exact .ptr h1⟩
        · rename_i cs
          have fin : ∀ {cs' : List AV}, 0 ≤ i ∧ i < (len : Int) → cs' = cs.drop (i.toNat * sz) → ∃ y, (Instr.indexAt t u (.int k i)).run C.P W = .ok y W ∧ VR M ρ (.fptr cs') y := by
            intro cs' hin he
            cases hx with
            | fptr_e => exact ⟨_, key _ hin, by subst he; simp; exact .fptr_e⟩
            | fptr f h1 h2 => exact ⟨_, key _ hin, by subst he; exact fptr_drop h1 h2⟩
          split at hr
          · cases hr
            obtain ⟨h0, _⟩ := allB_dec hb
            exact ⟨rfl, fin h0 hp.1.symm⟩
          · cases hr
            obtain ⟨h0, _⟩ := allB_dec hb
            exact ⟨rfl, fin h0 rfl⟩
        · cases hr
      · cases hr
    · cases hr
  · cases hr
theorem run_bnd {o : Option AV} {d i : Int} (h : bnd o d = some i) {w : Option Value} (hw : ∀ x, o = some x → ∃ y, w = some y ∧ VR M ρ x y) (hn : o = none → w = none) : (o = none ∧ w = none ∧ i = d) ∨ ∃ k, w = some (.int k i) := by
  cases o with
  | none => simp [bnd] at h; exact .inl ⟨rfl, hn rfl, h.symm⟩
  | some x =>
    obtain ⟨y, rfl, hy⟩ := hw x rfl
    right
    unfold bnd at h
    split at h
    · rename_i e; cases e
    · rename_i k i' e
      cases e
      cases h
      obtain rfl := hy.inv_s
      exact ⟨k, rfl⟩
    · cases h
/-- the bounds of a piece -/
theorem run_bounds {isS : Bool} {len cap : Nat} {lo hi mx : Option AV} {vlo vhi vmx : Option Value} (hlo : ∀ x, lo = some x → ∃ y, vlo = some y ∧ VR M ρ x y) (nlo : lo = none → vlo = none) (hhi : ∀ x, hi = some x → ∃ y, vhi = some y ∧ VR M ρ x y) (nhi : hi = none → vhi = none)
    (hmx : ∀ x, mx = some x → ∃ y, vmx = some y ∧ VR M ρ x y) (nmx : mx = none → vmx = none) {l u m : Int} (h1 : bnd lo 0 = some l) (h2 : bnd hi len = some u) (h3 : bnd mx len = some m) (hin : 0 ≤ l ∧ l ≤ u ∧ u ≤ m ∧ m ≤ len) (hc : len ≤ cap) (hm : mx.isSome = true → hi.isSome = true) :
    ∃ m' : Nat, (Instr.sliceBounds isS len cap vlo vhi vmx).run P W = .ok (l.toNat, u.toNat, m') W ∧ u.toNat ≤ m' ∧ m' ≤ cap ∧ (mx.isSome = true → m' = m.toNat) ∧ (mx = none → m' = cap) := by
  have b1 := run_bnd (M := M) (ρ := ρ) h1 hlo nlo
  have b2 := run_bnd (M := M) (ρ := ρ) h2 hhi nhi
  have b3 := run_bnd (M := M) (ρ := ρ) h3 hmx nmx
  have sb : ∀ (k : IntKind) (i : Int) (y : Nat) (code : BoundsCode), 0 ≤ i → i ≤ y → (Instr.sliceBound (.int k i) y code).run P W = .ok i.toNat W := by
    intro k i y code h1 h2
    simp [Instr.sliceBound, asIntOf, h1, h2]
  rcases b3 with ⟨e3, rfl, rfl⟩ | ⟨k3, rfl⟩
  · have hmn : mx.isSome = false := by rw [e3]; rfl
    rcases b2 with ⟨e2, rfl, rfl⟩ | ⟨k2, rfl⟩
    · rcases b1 with ⟨e1, rfl, rfl⟩ | ⟨k1, rfl⟩
      · exact ⟨cap, by simp [Instr.sliceBounds], by omega, Nat.le_refl _, by simp [hmn], fun _ => rfl⟩
      · exact ⟨cap, by simp [Instr.sliceBounds, sb k1 l len _ hin.1 (by omega)], by omega, Nat.le_refl _, by simp [hmn], fun _ => rfl⟩
    · have q2 : ∀ code, (Instr.sliceBound (.int k2 u) cap code).run P W = .ok u.toNat W := fun code => sb k2 u cap code (by omega) (by omega)
      rcases b1 with ⟨e1, rfl, rfl⟩ | ⟨k1, rfl⟩
      · exact ⟨cap, by simp [Instr.sliceBounds, q2], by omega, Nat.le_refl _, by simp [hmn], fun _ => rfl⟩
      · exact ⟨cap, by simp [Instr.sliceBounds, q2, sb k1 l u.toNat _ hin.1 (by omega)], by omega, Nat.le_refl _, by simp [hmn], fun _ => rfl⟩
  · have hms : mx.isSome = true := by
      cases mx with
      | none => have := nmx rfl; cases this
      | some _ => rfl
    have hhs := hm hms
    have q3 : ∀ code, (Instr.sliceBound (.int k3 m) cap code).run P W = .ok m.toNat W := fun code => sb k3 m cap code (by omega) (by omega)
    have hne : mx ≠ none := fun e => by rw [e] at hms; cases hms
    rcases b2 with ⟨e2, rfl, rfl⟩ | ⟨k2, rfl⟩
    · rw [e2] at hhs; cases hhs
    · have q2 : ∀ code, (Instr.sliceBound (.int k2 u) m.toNat code).run P W = .ok u.toNat W := fun code => sb k2 u m.toNat code (by omega) (by omega)
      rcases b1 with ⟨e1, rfl, rfl⟩ | ⟨k1, rfl⟩
      · exact ⟨m.toNat, by simp [Instr.sliceBounds, q3, q2], by omega, by omega, fun _ => rfl, fun e => absurd e hne⟩
      · exact ⟨m.toNat, by simp [Instr.sliceBounds, q3, q2, sb k1 l u.toNat _ hin.1 (by omega)], by omega, by omega, fun _ => rfl, fun e => absurd e hne⟩
end
end Go.Pm

set_option linter.unusedVariables false
namespace Go.Pm
open Go Go.RowKit
section
variable {P : Program} {w0 W : World} {ρ : Nm} {M : Mem} {H : List Bk}
/-- the operands of a piece -/
structure Bds (M : Mem) (ρ : Nm) (o : Option AV) (w : Option Value) : Prop where
  some_ : ∀ x, o = some x → ∃ y, w = some y ∧ VR M ρ x y
  none_ : o = none → w = none
theorem piece_sl {b off sz n cap' : Nat} {l u : Int} {cs : List AV} {f : Nat → Value} (h1 : ∀ (i : Nat) c, cs[i]? = some c → M.cell b (off + i) = some (f i)) (h2 : ∀ (i : Nat) c, cs[i]? = some c → VR M Nm.none c (f i)) (hn : n ≤ cap') :
    VR M ρ (.sl n (pieceA sz l u cs)) (.slice (some (Addr.add ⟨b, off, none⟩ (l.toNat * sz))) n cap') := by
  rw [add_flat]
  have key : ∀ (i : Nat) c, (pieceA sz l u cs)[i]? = some c → cs[l.toNat * sz + i]? = some c := by
    intro i c hc
    unfold pieceA at hc
    rw [List.getElem?_take] at hc
    split at hc
    · rwa [List.getElem?_drop] at hc
    · cases hc
  refine .sl (fun i => f (l.toNat * sz + i)) hn (fun i c hc => ?_) (fun i c hc => h2 _ _ (key i c hc))
  have := h1 _ _ (key i c hc)
  rwa [← Nat.add_assoc] at this
theorem ok_sliceS {t el : TypeId} {h : Hint} {sz : Nat} (ht : P.underlying t = some (.slice el)) (hs : szOf P el = some sz) {g : Nat → Option Bk} {x v : AV} {lo hi mx : Option AV} {vlo vhi vmx : Option Value} {news : List Bk} {bs : List Bool} {ps : List Prop}
    (hr : rdSliceS g h sz x lo hi mx = some (v, news, bs, ps)) (hb : bs.all id = true) (hp : allP ps) {u : Value} (hx : VR M ρ x u) (b1 : Bds M ρ lo vlo) (b2 : Bds M ρ hi vhi) (b3 : Bds M ρ mx vmx) :
    news = [] ∧ ∃ y, (Instr.sliceAt t u vlo vhi vmx).run P W = .ok y W ∧ VR M ρ v y := by
  have inn : ∀ {l q m n : Int}, slIn l q m n hi mx = true → (0 ≤ l ∧ l ≤ q ∧ q ≤ m ∧ m ≤ n) ∧ (mx.isSome = true → hi.isSome = true) := by
    intro l q m n h
    simp [slIn] at h
    refine ⟨h.1, fun hm => ?_⟩
    rcases h.2 with h | h
    · rw [h] at hm; cases hm
    · exact h
  have run : ∀ {a : Option Addr} {n cap m' : Nat} {l q : Int}, (Instr.sliceBounds true n cap vlo vhi vmx).run P W = .ok (l.toNat, q.toNat, m') W →
      (Instr.sliceAt t (.slice a n cap) vlo vhi vmx).run P W = .ok (.slice (if m' = l.toNat then a else a.map (·.add (l.toNat * sz))) (q.toNat - l.toNat) (m' - l.toNat)) W := by
    intro a n cap m' l q hbd
    simp [Instr.sliceAt, run_underlying ht, Instr.slice, hbd, run_szOf hs]
  unfold rdSliceS at hr
  split at hr
  · rename_i n cs
    split at hr
    · rename_i l q m e1 e2 e3
      have fin : ∀ {v' : AV}, slIn l q m n hi mx = true → (∀ a n' c', n' = (q - l).toNat → n' ≤ c' → (mx.isSome = true → m = l → c' = 0 ∧ n' = 0) → (∀ w : Value, w = .slice a n' c' → (VR M ρ (.sl n' (pieceA sz l q cs)) w) → VR M ρ v' w)) → ∃ y, (Instr.sliceAt t u vlo vhi vmx).run P W = .ok y W ∧ VR M ρ v' y := by
        intro v' hin hv
        obtain ⟨i1, i2⟩ := inn hin
        have main : ∀ (a : Option Addr) (cap : Nat), u = .slice a n cap → n ≤ cap → (∀ m' : Nat, q.toNat ≤ m' → m' ≤ cap → VR M ρ (.sl (q - l).toNat (pieceA sz l q cs)) (.slice (if m' = l.toNat then a else a.map (·.add (l.toNat * sz))) (q - l).toNat (m' - l.toNat))) → ∃ y, (Instr.sliceAt t u vlo vhi vmx).run P W = .ok y W ∧ VR M ρ v' y := by
          intro a cap hu hn hvr
          subst hu
          obtain ⟨m', hbd, g1, g2, g3, g4⟩ := run_bounds (P := P) (W := W) (isS := true) (len := n) (cap := cap) b1.some_ b1.none_ b2.some_ b2.none_ b3.some_ b3.none_ e1 e2 e3 i1 hn i2
          refine ⟨_, run hbd, ?_⟩
          have en : q.toNat - l.toNat = (q - l).toNat := by omega
          rw [en]
          refine hv _ _ _ rfl (by omega) (fun hm he => ?_) _ rfl (hvr m' g1 g2)
          have := g3 hm
          omega
        cases hx with
        | sl_e h1 h2 =>
          rename_i a cap
          refine main a cap rfl h1 fun m' k1 k2 => ?_
          have e0 : pieceA sz l q [] = [] := by simp [pieceA]
          rw [e0]
          refine .sl_e (by omega) fun hnone => ?_
          split at hnone
          · omega
          · have : a = none := by simpa using hnone
            have := h2 this
            omega
        | sl f h1 h2 h3 =>
          rename_i b off cap
          refine main _ cap rfl h1 fun m' k1 k2 => ?_
          split
          · have e0 : pieceA sz l q cs = [] := by
              have : (q - l).toNat = 0 := by omega
              simp [pieceA, this]
            rw [e0]
            exact .sl_e (by omega) fun hnone => by cases hnone
          · exact piece_sl h2 h3 (by omega)
      split at hr
      · cases hr
        obtain ⟨h0, hb⟩ := allB_cons hb
        obtain ⟨hm, hb⟩ := allB_dec hb
        obtain ⟨hs', _⟩ := allB_cons hb
        refine ⟨rfl, fin h0 fun a n' c' hn' hc' hz w hw _ => ?_⟩
        obtain ⟨z1, z2⟩ := hz hs' hm
        subst hw z1 z2
        exact .nsl
      · split at hr
        · cases hr
          obtain ⟨h0, _⟩ := allB_cons hb
          refine ⟨rfl, fin h0 fun a n' c' hn' hc' hz w hw hvr => ?_⟩
          rw [← hp.1, ← hn']; exact hvr
        · cases hr
          obtain ⟨h0, _⟩ := allB_cons hb
          refine ⟨rfl, fin h0 fun a n' c' hn' hc' hz w hw hvr => ?_⟩
          rw [← hn']; exact hvr
    · cases hr
  · rename_i id off n k
    split at hr
    · rename_i l q m e1 e2 e3
      split at hr
      · rename_i hk
        subst hk
        cases hr
        obtain ⟨h0, _⟩ := allB_cons hb
        obtain ⟨i1, i2⟩ := inn h0
        refine ⟨rfl, ?_⟩
        have en : q.toNat - l.toNat = (q - l).toNat := by omega
        cases hx with
        | osl_e =>
          obtain ⟨m', hbd, g1, g2, g3, g4⟩ := run_bounds (P := P) (W := W) (isS := true) (len := 0) (cap := 0) b1.some_ b1.none_ b2.some_ b2.none_ b3.some_ b3.none_ e1 e2 e3 i1 (Nat.le_refl _) i2
          refine ⟨_, run hbd, ?_⟩
          rw [show q.toNat - l.toNat = 0 by omega, show m' - l.toNat = 0 by omega, show (q - l).toNat = 0 by omega]
          exact .osl_e
        | osl h1 h2 h3 =>
          rename_i b s cap
          obtain ⟨m', hbd, g1, g2, g3, g4⟩ := run_bounds (P := P) (W := W) (isS := true) (len := n) (cap := cap) b1.some_ b1.none_ b2.some_ b2.none_ b3.some_ b3.none_ e1 e2 e3 i1 h2 i2
          refine ⟨_, run hbd, ?_⟩
          rw [en]
          split
          · rw [show m' - l.toNat = 0 by omega, show (q - l).toNat = 0 by omega]
            exact .osl_e
          · simp only [Option.map_some, add_base]
            refine .osl h1 (by omega) ?_
            have : l.toNat * k + (m' - l.toNat) * k = m' * k := by rw [← Nat.add_mul]; congr 1; omega
            have h4 : m' * k ≤ cap * k := Nat.mul_le_mul_right _ g2
            omega
      · cases hr
    · cases hr
  · split at hr
    · rename_i l q m e1 e2 e3
      cases hr
      obtain ⟨h0, _⟩ := allB_cons hb
      obtain ⟨i1, i2⟩ := inn h0
      refine ⟨rfl, ?_⟩
      cases hx with
      | nsl =>
        rename_i a
        obtain ⟨m', hbd, g1, g2, g3, g4⟩ := run_bounds (P := P) (W := W) (isS := true) (len := 0) (cap := 0) b1.some_ b1.none_ b2.some_ b2.none_ b3.some_ b3.none_ e1 e2 e3 i1 (Nat.le_refl _) i2
        refine ⟨_, run hbd, ?_⟩
        rw [show q.toNat - l.toNat = 0 by omega, show m' - l.toNat = 0 by omega]
        exact .nsl
    · cases hr
  · cases hr
theorem ok_slice {C : Cx} {h : Hint} {t : TypeId} {x v : AV} {lo hi mx : Option AV} {vlo vhi vmx : Option Value} {news : List Bk} {bs : List Bool} {ps : List Prop} (hw : WR w0 ρ M H W)
    (hr : rdSlice C (fun j => H[j]?) h t x lo hi mx = some (v, news, bs, ps)) (hb : bs.all id = true) (hp : allP ps) {u : Value} (hx : VR M ρ x u) (b1 : Bds M ρ lo vlo) (b2 : Bds M ρ hi vhi) (b3 : Bds M ρ mx vmx) :
    news = [] ∧ ∃ y, (Instr.sliceAt t u vlo vhi vmx).run C.P W = .ok y W ∧ VR M ρ v y := by
  have inn : ∀ {l q m n : Int}, slIn l q m n hi mx = true → (0 ≤ l ∧ l ≤ q ∧ q ≤ m ∧ m ≤ n) ∧ (mx.isSome = true → hi.isSome = true) := by
    intro l q m n h
    simp [slIn] at h
    refine ⟨h.1, fun hm => ?_⟩
    rcases h.2 with h | h
    · rw [h] at hm; cases hm
    · exact h
  unfold rdSlice at hr
  split at hr
  · rename_i ht
    split at hr
    · rename_i b
      split at hr
      · rename_i l q e1 e2
        cases hr
        obtain ⟨h0, _⟩ := allB_cons hb
        obtain ⟨i1, i2⟩ := inn h0
        obtain rfl := hx.inv_s
        have e3 := b3.none_ rfl
        subst e3
        obtain ⟨m', hbd, g1, g2, g3, g4⟩ := run_bounds (P := C.P) (W := W) (isS := false) (len := b.size) (cap := b.size) b1.some_ b1.none_ b2.some_ b2.none_ b3.some_ b3.none_ e1 e2 rfl i1 (Nat.le_refl _) i2
        exact ⟨rfl, _, by simp [Instr.sliceAt, run_underlying ht, Instr.slice, hbd], .s _ _⟩
      · cases hr
    · cases hr
  · rename_i el ht
    split at hr
    · rename_i sz hs
      exact ok_sliceS ht hs hr hb hp hx b1 b2 b3
    · cases hr
  · rename_i n el ht
    split at hr
    · rename_i sz hs
      have e3 := b3.none_ rfl
      subst e3
      have run : ∀ {A : Addr} {m' : Nat} {l q : Int}, (Instr.sliceBounds false n n vlo vhi none).run C.P W = .ok (l.toNat, q.toNat, m') W →
          (Instr.sliceAt t (.pointer (some A)) vlo vhi none).run C.P W = .ok (.slice (some (if m' = l.toNat then A else A.add (l.toNat * sz))) (q.toNat - l.toNat) (m' - l.toNat)) W := by
        intro A m' l q hbd
        simp [Instr.sliceAt, run_underlying ht, Instr.sureAddr, hbd, run_szOf hs]
      split at hr
      · rename_i id off
        split at hr
        · rename_i L cs fz l q hB e1 e2
          cases hr
          obtain ⟨h0, hb⟩ := allB_cons hb
          obtain ⟨hL, _⟩ := allB_dec hb
          obtain ⟨i1, i2⟩ := inn h0
          refine ⟨rfl, ?_⟩
          cases hx with
          | ptr h1 =>
            rename_i b s
            obtain ⟨k1, k2, _⟩ := hw.blk _ _ _ _ h1 hB
            obtain ⟨m', hbd, g1, g2, g3, g4⟩ := run_bounds (P := C.P) (W := W) (isS := false) (len := n) (cap := n) b1.some_ b1.none_ b2.some_ b2.none_ b3.some_ b3.none_ e1 e2 rfl i1 (Nat.le_refl _) i2
            refine ⟨_, run hbd, ?_⟩
            rw [show q.toNat - l.toNat = (q - l).toNat by omega]
            split
            · rw [show m' - l.toNat = 0 by omega, show (q - l).toNat = 0 by omega]
              exact .osl_e
            · rw [add_base]
              refine .osl h1 (by omega) ?_
              have : l.toNat * sz + (m' - l.toNat) * sz = m' * sz := by rw [← Nat.add_mul]; congr 1; omega
              have h4 : m' * sz ≤ n * sz := Nat.mul_le_mul_right _ g2
              omega
        · cases hr
      · rename_i cs
        split at hr
        · rename_i l q e1 e2
          cases hr
          obtain ⟨h0, _⟩ := allB_cons hb
          obtain ⟨i1, i2⟩ := inn h0
          refine ⟨rfl, ?_⟩
          obtain ⟨m', hbd, g1, g2, g3, g4⟩ := run_bounds (P := C.P) (W := W) (isS := false) (len := n) (cap := n) b1.some_ b1.none_ b2.some_ b2.none_ b3.some_ b3.none_ e1 e2 rfl i1 (Nat.le_refl _) i2
          cases hx with
          | fptr_e =>
            refine ⟨_, run hbd, ?_⟩
            rw [show q.toNat - l.toNat = (q - l).toNat by omega, show pieceA sz l q [] = [] by simp [pieceA]]
            exact .sl_e (by omega) fun h => by cases h
          | fptr f h1 h2 =>
            refine ⟨_, run hbd, ?_⟩
            rw [show q.toNat - l.toNat = (q - l).toNat by omega]
            split
            · have e0 : pieceA sz l q cs = [] := by
                have : (q - l).toNat = 0 := by omega
                simp [pieceA, this]
              rw [e0]
              exact .sl_e (by omega) fun hnone => by cases hnone
            · exact piece_sl h1 h2 (by omega)
        · cases hr
      · cases hr
    · cases hr
  · cases hr
end
end Go.Pm

set_option linter.unusedVariables false
namespace Go.Pm
open Go Go.RowKit
section
variable {P : Program} {w0 W : World} {ρ : Nm} {M : Mem} {H : List Bk}
theorem ok_part {C : Cx} {t : TypeId} {cs : List AV} {off : Nat} {v : AV} (h : partA C t (cs.drop off) = some v) {vs : List Value} (hx : L2 (VR M ρ) cs vs) (h1 : ∀ u ∈ vs, u.oneCell' = true) : ∃ y, (part t vs.toArray off).run C.P W = .ok y W ∧ VR M ρ v y := by
  unfold partA at h
  split at h
  · rename_i sz hs ha
    simp only [Option.map_eq_some_iff] at h
    obtain ⟨xs, h2, rfl⟩ := h
    obtain ⟨h3, h4⟩ := takeE_some h2
    refine ⟨.agg (vs.toArray.extract off (off + sz)), by simp [part, run_aggB ha, run_szOf hs], ?_⟩
    have e : vs.toArray.extract off (off + sz) = ((vs.drop off).take sz).toArray := by
      rw [List.extract_toArray]
      simp [List.extract_eq_take_drop]
    rw [e]
    refine .mkAgg ?_ fun u hu => h1 u (List.mem_of_mem_drop (List.mem_of_mem_take hu))
    rw [← h4]
    exact (hx.drop off).take sz
  · rename_i sz hs ha
    rw [List.head?_eq_getElem?, List.getElem?_drop] at h
    obtain ⟨u, hu, hr⟩ := hx.get h
    simp only [Nat.add_zero] at hu
    exact ⟨u, by simp [part, run_aggB ha, hu], hr⟩
  · cases h
theorem placesOf_ok : ∀ {fs : List Field} {pl : List (Nat × Nat)}, placesOf P fs = some pl → ∀ W, (fs.mapM fun f => (do pure (f.offset, ← sizeOf f.type) : Sem (Nat × Nat))).run P W = .ok pl W := by
  intro fs
  induction fs with
  | nil => intro pl h W; simp [placesOf] at h; subst h; simp
  | cons f fs ih =>
    intro pl h W
    unfold placesOf at h
    split at h
    · rename_i s l hs hl
      cases h
      have := ih hl
      simp only [List.mapM_cons, Sem.run_bind, run_szOf hs, Result.andThen_ok, Sem.run_pure, this]
    · cases h
/-- the parts of a struct or of an array laid into its cells -/
theorem fill_ok {pl pl' : Nat → Option (Nat × Nat)} (hpl : ∀ i, pl i = pl' i) : ∀ (ps : List (Nat × AV)) (qs : List (Nat × Value)) (cs ds : List AV) (vs : List Value), fillA pl cs ps = some ds → L2 (VR M ρ) cs vs → (∀ u ∈ vs, u.oneCell' = true) → ps.length = qs.length →
    (∀ (i : Nat) p q, ps[i]? = some p → qs[i]? = some q → p.1 = q.1 ∧ VR M ρ p.2 q.2) → ∃ us : List Value, Instr.fill pl' vs.toArray qs = some us.toArray ∧ L2 (VR M ρ) ds us ∧ ∀ u ∈ us, u.oneCell' = true := by
  intro ps
  induction ps with
  | nil =>
    intro qs cs ds vs h hx h1 hl _
    cases qs with
    | nil => simp [fillA] at h; subst h; exact ⟨vs, rfl, hx, h1⟩
    | cons q qs => simp at hl
  | cons p ps ih =>
    intro qs cs ds vs h hx h1 hl hq
    cases qs with
    | nil => simp at hl
    | cons q qs =>
      obtain ⟨i, x⟩ := p
      obtain ⟨j, y⟩ := q
      obtain ⟨hij, hxy⟩ := hq 0 _ _ rfl rfl
      simp only at hij hxy
      subst hij
      unfold fillA at h
      split at h
      · cases h
      · rename_i off size hplace
        split at h
        · rename_i hc
          obtain ⟨k1, k2, k3⟩ := hc
          obtain ⟨c1, c2⟩ := hxy.cells k1
          have hy : y.cells.size = size := by rw [← k2, c1.len]; simp
          have hsz : vs.length = cs.length := hx.len.symm
          have hfold : y.cells.zipIdx.foldl (fun cs (c, j) => cs.setIfInBounds (off + j) c) vs.toArray = (splice vs off y.cells.toList).toArray := by
            have key : ∀ (l : List Value) (k : Nat) (vs : List Value), off + k + l.length ≤ vs.length → (l.zipIdx k).foldl (fun (cs : Array Value) (p : Value × Nat) => cs.setIfInBounds (off + p.2) p.1) vs.toArray = (splice vs (off + k) l).toArray := by
              intro l
              induction l with
              | nil => intro k vs _; simp [splice]
              | cons c l ihl =>
                intro k vs hle
                simp only [List.zipIdx_cons, List.foldl_cons, List.setIfInBounds_toArray]
                rw [ihl (k + 1) (vs.set (off + k) c) (by simp at hle ⊢; omega)]
                congr 1
                simp only [splice, List.length_cons] at hle ⊢
                have e1 : (vs.set (off + k) c).take (off + (k + 1)) = vs.take (off + k) ++ [c] := by
                  rw [List.take_set, ← Nat.add_assoc, List.take_succ_eq_append_getElem (by omega)]
                  rw [List.set_append_right _ _ (by simp; omega)]
                  simp [show min (off + k) vs.length = off + k by omega]
                have e2 : (vs.set (off + k) c).drop (off + (k + 1) + l.length) = vs.drop (off + k + (l.length + 1)) := by
                  rw [List.drop_set, if_pos (by omega)]
                  congr 1; omega
                rw [e1, e2]
                simp
            have := key y.cells.toList 0 vs (by simp [hy]; omega)
            rw [Nat.add_zero] at this
            rw [← this]
            rw [← Array.foldl_toList, Array.toList_zipIdx]
          have hlt : ¬ (off + y.cells.size > vs.toArray.size) := by simp [hy]; omega
          unfold Instr.fill
          rw [← hpl, hplace]
          simp only []
          rw [if_neg (by simp only [ne_eq, Bool.or_eq_true, decide_eq_true_eq, not_or]; exact ⟨by simp [hy], by simpa using hlt⟩)]
          rw [hfold]
          refine ih qs _ _ _ h (hx.splice off c1) ?_ (by simpa using hl) (fun i p q hp hq' => hq (i + 1) p q (by simpa using hp) (by simpa using hq'))
          intro u hu
          simp only [splice, List.mem_append] at hu
          rcases hu with (hu | hu) | hu
          · exact h1 u (List.mem_of_mem_take hu)
          · exact c2 u hu
          · exact h1 u (List.mem_of_mem_drop hu)
        · cases h
end
end Go.Pm
