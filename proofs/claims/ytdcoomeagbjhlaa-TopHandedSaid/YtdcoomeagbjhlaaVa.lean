/- Claims as plain values. By the prover of this seat. -/
import Derived.Test.YtdcoomeagbjhlaaUh
set_option linter.unusedVariables false
set_option linter.unusedSimpArgs false
set_option maxRecDepth 100000
set_option maxHeartbeats 4000000
namespace Go.Proofs.Ytdcoomeagbjhlaa.Cl
open Go.RowKit Go.Pm
noncomputable def C1 : Cx := ⟨Try.prog, G0, 1⟩
abbrev w6 (n : Int) : Int := IntKind.i64.wrap n
/-- a selection's: whose, by which window (0: nobody's), since when -/
structure Rec where
  sel : Int
  client : Int
  win : Int
  time : Int
  deriving DecidableEq, Inhabited
def recL (x : Rec) : List AV := [u32 x.sel, i64 x.client, u32 x.win, u32 x.time]
def Rec.cl (x : Rec) : Int := if x.win = 0 then 0 else x.client
def Rec.ct (x : Rec) : Int := if x.win = 0 then 0 else x.time
def Rec.has (x : Rec) : Bool := !decide (x.win = 0)
def stateL (x : Rec) : List AV := [i64 x.cl, u32 x.win, u32 x.ct, bl x.has, u32 x.time]
/-- what is asked -/
structure Asked where
  asker : Int
  req : Int
  sel : Int
  target : Int
  prop : Int
  time : Int
  deriving DecidableEq, Inhabited
structure Pend where
  a : Asked
  owner : Int
  win : Int
  deriving DecidableEq, Inhabited
def askL (x : Asked) : List AV := [i64 x.asker, u32 x.req, u32 x.sel, u32 x.target, u32 x.prop, u32 x.time]
def pendL (x : Pend) : List AV := [i64 x.a.asker, u32 x.a.req, u32 x.a.sel, u32 x.a.target, u32 x.a.prop, u32 x.a.time, i64 x.owner, u32 x.win]
/-- what is told -/
structure Send where
  client : Int
  code : Int
  n : List Int
  deriving DecidableEq, Inhabited
def sendL (s : Send) : List AV := [i64 s.client, i64 2, i64 s.code, i64 0, slI s.n, st ⟨#[]⟩, .sl 0 []]
structure Tab where
  c : List Rec
  q : List Pend
  deriving DecidableEq, Inhabited
abbrev ekU (n : Int) : AV := u32 n
abbrev evS (x : Rec) : AV := A (stateL x)
abbrev rowS : Rec → AV × AV := rowM Rec.sel ekU evS
def tabA (t : Tab) : AV := A [.mp (t.c.map rowS), slE pendL t.q]
def tabR (t : Tab) : AV := A [slE recL t.c, slE pendL t.q]
def slS (l : List Send) : AV := slE sendL l
theorem len_rec (x : Rec) : (recL x).length = 4 := rfl
theorem len_pend (x : Pend) : (pendL x).length = 8 := rfl
theorem len_send (x : Send) : (sendL x).length = 7 := rfl
theorem pure_rec (x : Rec) : (recL x).all pureC = true := rfl
theorem pure_pend (x : Pend) : (pendL x).all pureC = true := rfl
theorem pure_send (x : Send) : (sendL x).all pureC = true := rfl
theorem ke_u : KeyEq ekU := keyEq_int .u32
theorem kwf_u {a : Int} (h0 : 0 ≤ a) (h1 : a ≤ 4294967295) : kwf Try.prog 84 (u32 a) = true := kwf_int (by kernel_rfl) (by simp [Lit.wf, IntKind.min, IntKind.max, IntKind.signed, IntKind.bits]; omega)
/-- what a table keeps -/
structure TOk (t : Tab) : Prop where
  apart : keysApart Rec.sel t.c
  sel : ∀ x ∈ t.c, 0 ≤ x.sel ∧ x.sel ≤ 4294967295
  own : ∀ x ∈ t.c, x.win = 0 → x.client = 0
  len : t.c.length ≤ 1000
  room : t.q.length ≤ 256
theorem allK_t {t : Tab} (h : TOk t) : allK Try.prog 84 (t.c.map rowS) = true := allK_row fun x hx => kwf_u (h.sel x hx).1 (h.sel x hx).2
theorem pureB_t (l : List Rec) (fz : Bool) : pureB (.map (l.map rowS) fz) = true := pureB_row fun x hx => rfl
theorem ids_t (H : List Bk) (i : Nat) (l : List Rec) (fz : Bool) (h : H[i]? = some (.map (l.map rowS) fz)) : ([i].all fun i => (Option.map pureB H[i]?).getD false) = true := ids_one H i _ h (pureB_t l fz)
def findT (t : Tab) (a : Int) : Rec := (findM Rec.sel t.c a).getD ⟨a, 0, 0, 0⟩
theorem look_t (t : Tab) (a : Int) : lookV false (mfind (t.c.map rowS) (u32 a)) (A [i64 0, u32 0, u32 0, bl false, u32 0]) = A (stateL (findT t a)) := by
  rw [show u32 a = ekU a from rfl, mfind_row ke_u]
  unfold findT
  cases findM Rec.sel t.c a with
  | none => rfl
  | some x => rfl
theorem find_sel (t : Tab) (a : Int) : (findT t a).sel = a := by
  unfold findT
  cases h : findM Rec.sel t.c a with
  | none => rfl
  | some x => exact (find_mem h).2
theorem find_own {t : Tab} (h : TOk t) (a : Int) : (findT t a).win = 0 → (findT t a).client = 0 := by
  unfold findT
  cases hx : findM Rec.sel t.c a with
  | none => exact fun _ => rfl
  | some x => exact h.own x (find_mem hx).1
theorem owner_ok (t : Tab) (h : TOk t) (a : Int) (a0 : 0 ≤ a) (a1 : a ≤ 4294967295) : Pu 51 [tabA t, u32 a] (.tup [A [i64 (findT t a).cl, u32 (findT t a).win, u32 (findT t a).ct], bl (findT t a).has]) := by
  have hk := kwf_u a0 a1
  have ha := allK_t h
  exact pure_of (hs := hint [((1,3), { sym := true, val := some (A (stateL (findT t a))) })]) (ps := [true = true, kwf Try.prog (84 : Nat) (AV.s (Value.int IntKind.u32 a)) = true, allK Try.prog (84 : Nat) (List.map rowS t.c) = true, (match mfind (List.map rowS t.c) (AV.s (Value.int IntKind.u32 a)) with
  | some v => if false = true then AV.tup [v, AV.s (Value.bool true)] else v
  | none => if false = true then AV.tup [ofV (Value.agg #[Value.int IntKind.i64 (0 : Int), Value.int IntKind.u32 (0 : Int), Value.int IntKind.u32 (0 : Int), Value.bool false, Value.int IntKind.u32 (0 : Int)]), AV.s (Value.bool false)] else ofV (Value.agg #[Value.int IntKind.i64 (0 : Int), Value.int IntKind.u32 (0 : Int), Value.int IntKind.u32 (0 : Int), Value.bool false, Value.int IntKind.u32 (0 : Int)])) = A [i64 ((findT t a).cl), u32 ((findT t a).win), u32 ((findT t a).ct), bl ((findT t a).has), u32 ((findT t a).time)]]) (by kernel_rfl) ⟨(by (first | assumption | exact look_t t a | rfl)), (by (first | assumption | exact look_t t a | rfl)), (by (first | assumption | exact look_t t a | rfl)), (by (first | assumption | exact look_t t a | rfl)), trivial⟩
theorem event_ok (client code : Int) (n : Nat) (cs : List AV) (h : cs.all pureC = true) : Pu 49 [i64 client, i64 code, .sl n cs] (A [i64 client, i64 2, i64 code, i64 0, .sl n cs, st ⟨#[]⟩, .sl 0 []]) := by
  exact pure_of (hs := hint []) (ps := []) (by kernel_rfl) trivial
def refD (x : Asked) : Send := ⟨x.asker, 24, [w6 x.req, w6 x.sel, w6 x.target, 0, w6 x.time]⟩
theorem refusal_ok (x : Asked) : Pu 52 [A (askL x)] (A (sendL (refD x))) := by
  exact pure_cast (pure_of (hs := hint [((1,15), {call := some ((A [i64 x.asker, i64 (2 : Int), i64 (24 : Int), i64 (0 : Int), AV.sl (5 : Nat) [AV.s (Value.int IntKind.i64 (IntKind.i64.wrap x.req)), AV.s (Value.int IntKind.i64 (IntKind.i64.wrap x.sel)), AV.s (Value.int IntKind.i64 (IntKind.i64.wrap x.target)), AV.s (Value.int IntKind.i64 (0 : Int)), AV.s (Value.int IntKind.i64 (IntKind.i64.wrap x.time))], st { data := #[] : ByteArray }, AV.sl (0 : Nat) []]))})]) (r := A [i64 (x.asker), i64 ((2 : Int)), i64 ((24 : Int)), i64 ((0 : Int)), AV.sl ((5 : Nat)) [i64 (IntKind.i64.wrap x.req), i64 (IntKind.i64.wrap x.sel), i64 (IntKind.i64.wrap x.target), i64 ((0 : Int)), i64 (IntKind.i64.wrap x.time)], st (⟨#[]⟩), AV.sl ((0 : Nat)) []]) (ps := [_]) (by kernel_rfl) ⟨(event_ok (x.asker) ((24 : Int)) ((5 : Nat)) ([AV.s (Value.int IntKind.i64 (IntKind.i64.wrap x.req)), AV.s (Value.int IntKind.i64 (IntKind.i64.wrap x.sel)), AV.s (Value.int IntKind.i64 (IntKind.i64.wrap x.target)), AV.s (Value.int IntKind.i64 (0 : Int)), AV.s (Value.int IntKind.i64 (IntKind.i64.wrap x.time))]) (by rfl)), trivial⟩) (by rfl)
def mayD (client req : Int) (p : Pend) : Bool := decide (p.owner = client ∧ p.a.req = req)
def ansD (client req sel : Int) (p : Pend) : Bool := decide (p.owner = client ∧ p.a.req = req ∧ p.a.sel = sel)
theorem may1_ok (client req : Int) (p : Pend) : Pu 56 [A (pendL p), .fptr [i64 client], .fptr [u32 req]] (bl (mayD client req p)) := by
  by_cases h1 : p.owner = client
  · exact pure_cast (pure_of (hs := hint [((1,4), {val := some (bl (true))})]) (r := bl (p.a.req == req)) (ps := [bl (p.owner == client) = bl (true)]) (by kernel_rfl) ⟨(beT h1), trivial⟩) (by exact beq_blI (by simp_all))
  · exact pure_cast (pure_of (hs := hint [((1,4), {val := some (bl (false))})]) (r := bl (false)) (ps := [bl (p.owner == client) = bl (false)]) (by kernel_rfl) ⟨(beF h1), trivial⟩) (by exact bl_ndec (by simp_all))
end Go.Proofs.Ytdcoomeagbjhlaa.Cl
