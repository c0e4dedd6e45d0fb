/- The line's ends as plain values; New, Read, Quiet, Clone. By the prover of this seat. The line's ends: Tick, Cut. By the prover of this seat. Packets: how they are written. By the prover of this seat. The line's ends: Due. By the prover of this seat. The line's ends: Due, whole. By the prover of this seat. The line's ends: pieces are numbered. By the prover of this seat. The line's ends: what is acknowledged. By the prover of this seat. The line's ends: a piece that came. By the prover of this seat. The line's ends: number, whole; Send. By the prover of this seat. The line's ends: Send. By the prover of this seat. -/
import Derived.Test.YtdcoomeagbjhlaaDoorBo
set_option linter.unusedVariables false
set_option linter.unusedSimpArgs false
set_option maxRecDepth 100000
set_option maxHeartbeats 4000000
namespace Go.Proofs.YtdcoomeagbjhlaaDoor.Lk
open Go.RowKit Go.Pm
open Go.Proofs.YtdcoomeagbjhlaaDoor.Or (G1 C1 Pu)
open Go.Proofs.YtdcoomeagbjhlaaDoor.Ca (eS slS cacheA)
def e0 : ByteArray := ⟨#[]⟩
structure Pc where
  n : Nat
  b : ByteArray
  d : Bool
instance : Inhabited Pc := ⟨⟨0, e0, false⟩⟩
def pcE (x : Pc) : List AV := [i64 (x.n : Int), st x.b, bl x.d]
theorem pcE_len (x : Pc) : (pcE x).length = 3 := rfl
abbrev slP (l : List Pc) : AV := slE pcE l
structure En where
  most : Nat
  way : List Pc
  next : Nat
  rest : ByteArray
  exp : Nat
  asd : Nat → ByteArray
  read : ByteArray
  ack : Bool
def enM (e : En) (w : AV) : List AV := [i64 (e.most : Int), w, i64 (e.next : Int), st e.rest, i64 (e.exp : Int), st (e.asd 0), st (e.asd 1), st (e.asd 2), st (e.asd 3), st (e.asd 4), st (e.asd 5), st (e.asd 6), st (e.asd 7), st (e.asd 8), st (e.asd 9), st (e.asd 10), st (e.asd 11), st (e.asd 12), st (e.asd 13), st (e.asd 14), st (e.asd 15), st e.read, bl e.ack]
def enC (e : En) : List AV := enM e (slP e.way)
def enA (e : En) : AV := A (enC e)
def en0 : En := ⟨0, [], 0, e0, 0, fun _ => e0, e0, false⟩
theorem new_ok (m : Nat) (h1 : 1 ≤ m) (h2 : m ≤ 1024) : Pu 5 [i64 (m : Int)] (.tup [enA { en0 with most := m }, i64 0]) := by
  exact pure_of (hs := hint [((1,2), {val := some (bl (false))}), ((1,5), {val := some (bl (false))})]) (ps := [bl (decide ((↑m : Int) < (1 : Int))) = bl (false), bl (decide ((↑m : Int) > (1024 : Int))) = bl (false)]) (by kernel_rfl) ⟨(bdF (by omega)), (bdF (by omega)), trivial⟩
theorem quiet_ok (e : En) : Pu 15 [enA e] (bl (decide (e.way.length = 0) && !e.ack)) := by
  by_cases h : e.way.length = 0
  · exact pure_cast (pure_of (hs := hint [((1,4), {val := some (bl (true))})]) (r := bl (!e.ack)) (ps := [bl ((↑e.way.length : Int) == (0 : Int)) = bl (true)]) (by kernel_rfl) ⟨(beT (by omega)), trivial⟩) (by (simp [*]; done))
  · exact pure_cast (pure_of (hs := hint [((1,4), {val := some (bl (false))})]) (r := bl (false)) (ps := [bl ((↑e.way.length : Int) == (0 : Int)) = bl (false)]) (by kernel_rfl) ⟨(beF (by omega)), trivial⟩) (by (simp [*]; done))
theorem read_ok (e : En) : Pu 23 [enA e] (.tup [enA { e with read := e0 }, st e.read]) := by
  exact pure_of (hs := hint []) (ps := []) (by kernel_rfl) trivial
theorem pc_take (n : Nat) (l : List Pc) (h : n = l.length) : List.take (n * 3) (l.flatMap pcE) = l.flatMap pcE := by
  rw [List.take_of_length_le (by rw [row_len (sz := 3) (fun _ => rfl)]; omega)]
theorem pc_len (n : Nat) (l : List Pc) (h : n = l.length) : decide ((List.take (n * 3) (l.flatMap pcE)).length = n * 3) = true := by
  rw [pc_take n l h, row_len (sz := 3) (fun _ => rfl)]
  exact decide_t (by omega)
theorem pc_z (n : Nat) (l : List Pc) (h : n = l.length) : [] ++ List.take (n * 3) (l.flatMap pcE) = l.flatMap pcE := pc_take n l h
theorem clone_sx (l : List Pc) (hl : l.length ≤ 1000) : Pure Tryd.prog G1 20 [.sx l.length (l.flatMap pcE)] (.osl 1 0 (0 + l.length) 3) [.dead, .arr ((0 + l.length) * 3) (l.flatMap pcE) 0] := by
  exact (fnRun_ok (hs := hint [((3,2), { sym := true, cells := some (l.flatMap pcE) })]) (ps := [true = true, decide (((0 : Nat) + l.length) * (32 : Nat) ≤ (140737488355328 : Nat)) = true, decide ((List.take (l.length * (3 : Nat)) (List.flatMap pcE l)).length = l.length * (3 : Nat)) = true, ((List.take (l.length * (3 : Nat)) (List.flatMap pcE l)) : List AV) = (List.flatMap pcE l)]) (by kernel_rfl) ⟨rfl, (by (first | exact pc_z _ _ rfl | exact pc_take _ _ rfl | exact pc_len _ _ rfl | exact decide_t (by omega) | exact decide_t ⟨by omega, by omega, by omega⟩)), (by (first | exact pc_z _ _ rfl | exact pc_take _ _ rfl | exact pc_len _ _ rfl | exact decide_t (by omega) | exact decide_t ⟨by omega, by omega, by omega⟩)), (by (first | exact pc_z _ _ rfl | exact pc_take _ _ rfl | exact pc_len _ _ rfl | exact decide_t (by omega) | exact decide_t ⟨by omega, by omega, by omega⟩)), trivial⟩).1
theorem clone_nil : CallH Tryd.prog G1 20 [.s (.slice none 0 0)] [] .nsl [] :=
  (fnRun_ok (hs := hint []) (ps := []) (by kernel_rfl) trivial).1
/-- a nil row is an own one without cells -/
theorem callH_own {P : Program} {G : Nat → Option (List AV)} {f : FuncId} {args : List AV} {k : Nat} (h : CallH P G f args [] .nsl []) : CallH P G f args [] (.osl 0 0 0 k) [.arr 0 [] 0] := by
  refine ⟨h.1, fun w0 ρ M W vals hw hg hargs => (h.2 w0 ρ M W vals hw hg hargs).mono fun e W' hh => ?_⟩
  obtain ⟨v, ρ', M', rfl, q1, q2, q3, q4, q5⟩ := hh
  refine ⟨v, ρ', M', rfl, q1, q2, ?_, ?_, q5⟩
  · have hno : ρ' 0 = none := by
      cases hx : ρ' 0 with
      | none => rfl
      | some x => exact absurd (q3.dom 0 x hx) (by simp)
    exact q3.putNone (id := 0) hno (.arr 0 [] 0)
  · cases q4
    exact .osl_e
theorem callH_nil1 {P : Program} {G : Nat → Option (List AV)} {f : FuncId} {n : Nat} {cs : List AV} {r : AV} {H : List Bk} (h1 : CallH P G f [.sx n cs] [] r H) (h2 : n = 0 → cs = [] → CallH P G f [.s (.slice none 0 0)] [] r H) : CallH P G f [.sl n cs] [] r H := by
  refine ⟨h1.1, fun w0 ρ M W vals hw hg hargs => ?_⟩
  obtain ⟨v, us, rfl, q1, q2⟩ := hargs.inv_cons
  obtain rfl : us = [] := by have := q2.len; cases us <;> simp at this; rfl
  rcases q1.split with q | ⟨rfl, rfl, rfl⟩
  · exact h1.2 w0 ρ M W _ hw hg (.cons q .nil)
  · exact (h2 rfl rfl).2 w0 ρ M W _ hw hg (.cons (.s _ _) .nil)
theorem clone_ok (n : Nat) (l : List Pc) (hn : n = l.length) (hl : l.length ≤ 1000) : Pure Tryd.prog G1 20 [.sl n (l.flatMap pcE)] (.osl 0 0 n 3) [.arr (n * 3) (l.flatMap pcE) 0] := by
  subst hn
  refine callH_nil1 ?_ fun h0 hc => ?_
  · have := (clone_sx l hl).lay [some 1] [true] (by kernel_rfl) (by kernel_rfl) ⟨row_pureB (fun _ => rfl) _ _ _, trivial⟩
    rw [Nat.zero_add] at this
    exact this
  · rw [h0, hc]
    exact callH_own clone_nil
end Go.Proofs.YtdcoomeagbjhlaaDoor.Lk
set_option linter.unusedVariables false
set_option linter.unusedSimpArgs false
set_option maxRecDepth 100000
set_option maxHeartbeats 4000000
namespace Go.Proofs.YtdcoomeagbjhlaaDoor.Lk
open Go.RowKit Go.Pm
open Go.Proofs.YtdcoomeagbjhlaaDoor.Or (G1 C1 Pu)
open Go.Proofs.YtdcoomeagbjhlaaDoor.Ca (eS slS cacheA)
/-! rows whose elements are written one by one -/
theorem row_at {α : Type} [Inhabited α] {enc : α → List AV} {sz : Nat} (he : ∀ x, (enc x).length = sz) (l : List α) (k x j m : Nat) (hx : x = k * sz + j) (hk : k < l.length) (hm : j + m ≤ sz) : List.take m (List.drop x (l.flatMap enc)) = List.take m (List.drop j (enc (nth l k))) := by
  subst hx
  conv => lhs; rw [← List.take_append_drop k l, List.flatMap_append]
  rw [← List.drop_drop, List.drop_left' (by rw [row_len (sz := sz) he, List.length_take]; congr 1; omega), List.drop_eq_getElem_cons hk, List.flatMap_cons, nth_eq hk]
  rw [List.drop_append_of_le_length (by rw [he]; omega), List.take_append_of_le_length (by rw [List.length_drop, he]; omega)]
theorem row_put {α : Type} [Inhabited α] {enc : α → List AV} {sz : Nat} (he : ∀ x, (enc x).length = sz) (l : List α) (k x j : Nat) (xs : List AV) (v : α) (hx : x = k * sz + j) (hk : k < l.length) (hj : j + xs.length ≤ sz) (hv : splice (enc (nth l k)) j xs = enc v) : splice (l.flatMap enc) x xs = (l.set k v).flatMap enc := by
  subst hx
  have ht : ((l.take k).flatMap enc).length = k * sz := by rw [row_len (sz := sz) he, List.length_take]; congr 1; omega
  have e1 : l.flatMap enc = (l.take k).flatMap enc ++ (enc (nth l k) ++ (l.drop (k + 1)).flatMap enc) := by
    conv => lhs; rw [← List.take_append_drop k l, List.flatMap_append, List.drop_eq_getElem_cons hk, List.flatMap_cons, ← nth_eq hk]
  rw [List.set_eq_take_append_cons_drop, if_pos hk, List.flatMap_append, List.flatMap_cons, ← hv, e1]
  unfold splice
  have hn := he (nth l k)
  have t1 : ∀ (A B : List AV) (j : Nat), List.take (A.length + j) (A ++ B) = A ++ List.take j B := fun A B j => by
    rw [List.take_append, List.take_of_length_le (by omega), Nat.add_sub_cancel_left]
  have d1 : ∀ (A B : List AV) (j : Nat), List.drop (A.length + j) (A ++ B) = List.drop j B := fun A B j => by
    rw [List.drop_append, List.drop_of_length_le (by omega), Nat.add_sub_cancel_left, List.nil_append]
  rw [← ht, t1, Nat.add_assoc, d1, List.take_append_of_le_length (by omega), List.drop_append_of_le_length (by omega)]
  simp only [List.append_assoc]
def mt {α : Type} (f : α → α) (l : List α) (k : Nat) : List α := (l.take k).map f ++ l.drop k
section
variable {α : Type} (f : α → α) (l : List α) (k : Nat)
theorem mt_len : (mt f l k).length = l.length := by unfold mt; simp; omega
theorem mt_0 : mt f l 0 = l := by simp [mt]
theorem mt_all : mt f l l.length = l.map f := by simp [mt]
theorem mt_nth [Inhabited α] (hk : k < l.length) : nth (mt f l k) k = nth l k := by
  unfold nth mt
  rw [List.getD_eq_getElem?_getD, List.getD_eq_getElem?_getD, List.getElem?_append_right (by simp; omega), List.getElem?_drop]
  congr 2
  simp
  omega
theorem mt_set [Inhabited α] (hk : k < l.length) : (mt f l k).set k (f (nth l k)) = mt f l (k + 1) := by
  unfold mt
  rw [List.set_append, if_neg (by simp; omega), List.take_succ_eq_append_getElem hk, List.map_append, nth_eq hk, List.drop_eq_getElem_cons hk]
  have : k - (List.map f (List.take k l)).length = 0 := by simp; omega
  rw [this, List.set_cons_zero]
  simp only [List.map_cons, List.map_nil, List.append_assoc, List.cons_append, List.nil_append]
end
def tkP (x : Pc) : Pc := { x with d := true }
noncomputable def tkB : Code := loopOf Tryd.prog 11 3
def tkS (e : En) (n k : Nat) (l : List Pc) : St := ⟨mkT 21 [(1, .ptr 0 0), (2, .ptr 1 0), (10, i64 (n : Int)), (11, i64 (k : Int))], [.arr 23 (enM e (.osl 2 0 n 3)) 0, .arr 23 (enM en0 .nsl) 0, .arr (n * 3) (l.flatMap pcE) 0]⟩
theorem tk_step (e : En) (n k : Nat) (l : List Pc) (hn : n = l.length) (hl : n ≤ 1000) (hk : k < n) : Tri C1 tkB (tkS e n k (mt tkP l k)) .normal (tkS e n (k + 1) (mt tkP l (k + 1))) := by
  have e1 := row_put (sz := 3) pcE_len (mt tkP l k) k (0 + k * 3 + 2) 2 [bl true] (tkP (nth l k)) (by omega) (by rw [mt_len]; omega) (by decide) (by rw [mt_nth _ _ _ (by omega)]; rfl)
  rw [mt_set _ _ _ (by omega)] at e1
  exact runF_ok (hs := hint [((3,0), {val := some (bl (true))}), ((5,3), {sym := true}), ((5,5), { sym := true, cells := some ((mt tkP l (k + 1)).flatMap pcE) }), ((6,0), {val := some (i64 ((↑k : Int) + (1 : Int)))})]) (f := { ks := [1, 2, 10, 11], l := [0, 1, 2], mx := [0] }) (ps := [bl (decide ((↑k : Int) < (↑n : Int))) = bl (true), decide ((0 : Int) ≤ (↑k : Int) ∧ (↑k : Int) < (↑n : Int)) = true, decide ((0 : Nat) + (↑k : Int).toNat * (3 : Nat) + (2 : Nat) + (1 : Nat) ≤ n * (3 : Nat)) = true, decide ((0 : Nat) ≤ (0 : Nat) + (↑k : Int).toNat * (3 : Nat) + (2 : Nat)) = true, ((splice (List.flatMap pcE (mt tkP l k)) ((0 : Nat) + (↑k : Int).toNat * (3 : Nat) + (2 : Nat)) [AV.s (Value.bool true)]) : List AV) = (List.flatMap pcE (mt tkP l (k + (1 : Nat)))), i64 (IntKind.i64.wrap ((↑k : Int) + (1 : Int))) = i64 ((↑k : Int) + (1 : Int)), true = true, true = true, pureB (Bk.arr (n * (3 : Nat)) (List.flatMap pcE (mt tkP l (k + (1 : Nat)))) (0 : Fz)) = true]) (by kernel_rfl) ⟨(bdT (by omega)), (by exact decide_t (by omega)), (by (first | exact e1 | exact decide_t (by omega))), (by (first | exact e1 | exact decide_t (by omega))), (by (first | exact e1 | exact decide_t (by omega))), (intE (by exact wrap_i64 (by omega) (by omega))), rfl, rfl, (by exact row_pureB (fun _ => rfl) _ _ _), trivial⟩
theorem tk_end (e : En) (n : Nat) (l : List Pc) (hn : n = l.length) (hl : n ≤ 1000) : LoopT C1 tkB (tkS e n n l) (.exit 0) (tkS e n n l) := by
  exact LoopT.fin (hs := hint [((3,0), {val := some (bl (false))})]) (f := { ks := [1, 2, 10, 11], l := [0, 1, 2], mx := [0] }) (ps := [bl (decide ((↑n : Int) < (↑n : Int))) = bl (false), true = true, true = true, pureB (Bk.arr (n * (3 : Nat)) (List.flatMap pcE l) (0 : Fz)) = true]) (by kernel_rfl) ⟨(bdF (by omega)), rfl, rfl, (by exact row_pureB (fun _ => rfl) _ _ _), trivial⟩ (by decide)
theorem slP_take (n : Nat) (l : List Pc) (h : n = l.length) : AV.sl n (List.take (n * 3) (List.drop 0 (l.flatMap pcE))) = slP l := by
  rw [List.drop_zero, pc_take n l h, h]
  rfl
theorem pcs_pure (n : Nat) (l : List Pc) : [Bk.arr n (l.flatMap pcE) 0].all pureB = true := by
  rw [List.all_cons, row_pureB (fun _ => rfl)]
  rfl
theorem tick_ok (e : En) (hl : e.way.length ≤ 1000) : Pu 11 [enA e] (enA { e with way := e.way.map tkP }) := by
  have h := LoopT.count (fun k => tkS e e.way.length k (mt tkP e.way k)) e.way.length (fun k hk => tk_step e _ k e.way rfl hl hk) (tk_end e _ _ (by rw [mt_len]) hl) 0 (Nat.zero_le _)
  have h0 := mt_0 tkP e.way
  have h1 := mt_all tkP e.way
  simp only [h0, h1] at h
  have hc := clone_ok e.way.length e.way rfl hl
  have hs := slP_take e.way.length (e.way.map tkP) (by rw [List.length_map])
  exact pure_cast (pure_said (hs := hint [((1,2), {call := some ((AV.osl (0 : Nat) (0 : Nat) e.way.length (3 : Nat))), news := some ([Bk.arr (e.way.length * (3 : Nat)) (List.flatMap pcE e.way) (0 : Fz)]), sym := true}), ((3,1000), {loop := some ({ ks := [1, 2, 10, 11], l := [0, 1, 2], mx := [0] }, tkS e e.way.length (0 : Nat) e.way, Ex.exit (0 : Nat), tkS e e.way.length e.way.length (List.map tkP e.way))})]) (r := A [i64 ((↑e.most : Int)), AV.sl (e.way.length) (List.take (e.way.length * (3 : Nat)) (List.drop (0 : Nat) (List.flatMap pcE (List.map tkP e.way)))), i64 ((↑e.next : Int)), st (e.rest), i64 ((↑e.exp : Int)), st (e.asd (0 : Nat)), st (e.asd (1 : Nat)), st (e.asd (2 : Nat)), st (e.asd (3 : Nat)), st (e.asd (4 : Nat)), st (e.asd (5 : Nat)), st (e.asd (6 : Nat)), st (e.asd (7 : Nat)), st (e.asd (8 : Nat)), st (e.asd (9 : Nat)), st (e.asd (10 : Nat)), st (e.asd (11 : Nat)), st (e.asd (12 : Nat)), st (e.asd (13 : Nat)), st (e.asd (14 : Nat)), st (e.asd (15 : Nat)), st (e.read), bl (e.ack)]) (ps := [[Bk.arr (e.way.length * (3 : Nat)) (List.flatMap pcE e.way) (0 : Fz)].all pureB = true, true = true, true = true, _, tkS e e.way.length (0 : Nat) e.way = tkS e e.way.length (0 : Nat) e.way, _, true = true, true = true, pureB (Bk.arr (e.way.length * (3 : Nat)) (List.flatMap pcE e.way) (0 : Fz)) = true, ([(2 : Nat)].all fun (i : Nat) => (Option.map pureB [Bk.arr (23 : Nat) [AV.s (Value.int IntKind.i64 (↑e.most : Int)), AV.osl (2 : Nat) (0 : Nat) e.way.length (3 : Nat), AV.s (Value.int IntKind.i64 (↑e.next : Int)), AV.s (Value.string e.rest), AV.s (Value.int IntKind.i64 (↑e.exp : Int)), AV.s (Value.string (e.asd (0 : Nat))), AV.s (Value.string (e.asd (1 : Nat))), AV.s (Value.string (e.asd (2 : Nat))), AV.s (Value.string (e.asd (3 : Nat))), AV.s (Value.string (e.asd (4 : Nat))), AV.s (Value.string (e.asd (5 : Nat))), AV.s (Value.string (e.asd (6 : Nat))), AV.s (Value.string (e.asd (7 : Nat))), AV.s (Value.string (e.asd (8 : Nat))), AV.s (Value.string (e.asd (9 : Nat))), AV.s (Value.string (e.asd (10 : Nat))), AV.s (Value.string (e.asd (11 : Nat))), AV.s (Value.string (e.asd (12 : Nat))), AV.s (Value.string (e.asd (13 : Nat))), AV.s (Value.string (e.asd (14 : Nat))), AV.s (Value.string (e.asd (15 : Nat))), AV.s (Value.string e.read), AV.s (Value.bool e.ack)] (0 : Fz), Bk.arr (23 : Nat) [AV.s (Value.int IntKind.i64 (↑e.most : Int)), AV.osl (2 : Nat) (0 : Nat) e.way.length (3 : Nat), AV.s (Value.int IntKind.i64 (↑e.next : Int)), AV.s (Value.string e.rest), AV.s (Value.int IntKind.i64 (↑e.exp : Int)), AV.s (Value.string (e.asd (0 : Nat))), AV.s (Value.string (e.asd (1 : Nat))), AV.s (Value.string (e.asd (2 : Nat))), AV.s (Value.string (e.asd (3 : Nat))), AV.s (Value.string (e.asd (4 : Nat))), AV.s (Value.string (e.asd (5 : Nat))), AV.s (Value.string (e.asd (6 : Nat))), AV.s (Value.string (e.asd (7 : Nat))), AV.s (Value.string (e.asd (8 : Nat))), AV.s (Value.string (e.asd (9 : Nat))), AV.s (Value.string (e.asd (10 : Nat))), AV.s (Value.string (e.asd (11 : Nat))), AV.s (Value.string (e.asd (12 : Nat))), AV.s (Value.string (e.asd (13 : Nat))), AV.s (Value.string (e.asd (14 : Nat))), AV.s (Value.string (e.asd (15 : Nat))), AV.s (Value.string e.read), AV.s (Value.bool e.ack)] (0 : Fz), Bk.arr (e.way.length * (3 : Nat)) (List.flatMap pcE (List.map tkP e.way)) (0 : Fz)][i]?).getD false) = true, true = true]) (by kernel_rfl) ⟨(by exact pcs_pure _ _), rfl, rfl, (hc), rfl, h, rfl, rfl, (by exact row_pureB (fun _ => rfl) _ _ _), (by exact row_ids (fun _ => rfl) _ _ _ _ _ rfl), rfl, trivial⟩) (by exact congrArg (fun w => A (enM e w)) hs)
theorem cut_ok (e : En) (hm : 1 ≤ e.most) (hl : e.way.length ≤ 1000) : Pu 10 [enA e] (enA { e with way := e.way.map tkP, ack := true }) := by
  have h := tick_ok e hl
  exact pure_of (hs := hint [((1,2), {val := some (bl (false))}), ((3,1), {call := some ((enA { most := e.most, way := List.map tkP e.way, next := e.next, rest := e.rest, exp := e.exp, asd := e.asd, read := e.read, ack := e.ack : En }))})]) (ps := [bl ((↑e.most : Int) == (0 : Int)) = bl (false), _]) (by kernel_rfl) ⟨(beF (by omega)), (h), trivial⟩
end Go.Proofs.YtdcoomeagbjhlaaDoor.Lk
set_option linter.unusedVariables false
set_option linter.unusedSimpArgs false
set_option maxRecDepth 100000
set_option maxHeartbeats 4000000
namespace Go.Proofs.YtdcoomeagbjhlaaDoor.Lk
open Go.RowKit Go.Pm
open Go.Proofs.YtdcoomeagbjhlaaDoor.Or (G1 C1 Pu)
open Go.Proofs.YtdcoomeagbjhlaaDoor.Ca (eS slS cacheA)
theorem bytesA_n (b : ByteArray) : (bytesA b).length = b.size := by unfold bytesA; rw [List.length_map, Array.length_toList]; rfl
theorem bytesA_1 (b : ByteArray) : decide ((bytesA b).length = b.size * 1) = true := decide_t (by rw [bytesA_n, Nat.mul_one])
def hdC (k n t z : Nat) : List AV := [u8 (k : Nat), u8 ((n : Int) / 16777216), u8 ((n : Int) / 65536), u8 ((n : Int) / 256), u8 ((n : Int) % 256), u8 ((t : Int) / 16777216), u8 ((t : Int) / 65536), u8 ((t : Int) / 256), u8 ((t : Int) % 256), u8 ((z : Int) / 256), u8 ((z : Int) % 256)]
def pkL (k n t : Nat) (b : ByteArray) : List AV := hdC k n t b.size ++ bytesA b
def pkB (k n t : Nat) (b : ByteArray) : ByteArray := strA (pkL k n t b)
theorem pkL_len (k n t : Nat) (b : ByteArray) : (pkL k n t b).length = 11 + b.size := by
  unfold pkL
  rw [List.length_append, bytesA_n]
  rfl
theorem pkL_take (k n t : Nat) (b : ByteArray) : List.take ((11 + b.size) * 1) (pkL k n t b) = pkL k n t b := List.take_of_length_le (by rw [pkL_len, Nat.mul_one]; exact Nat.le_refl _)
theorem isU8_u8 (x : Int) (h : 0 ≤ x ∧ x ≤ 255) : isU8 (u8 x) = true := by simp [isU8]; omega
theorem pkL_u8 (k n t : Nat) (b : ByteArray) (hk : k ≤ 1) (hn : n ≤ 60000) (ht : t ≤ 60000) (hb : b.size ≤ 1024) : (pkL k n t b).all isU8 = true := by
  rw [List.all_eq_true]
  intro x hx
  unfold pkL at hx
  rcases List.mem_append.1 hx with hx | hx
  · unfold hdC at hx
    simp only [List.mem_cons, List.not_mem_nil, or_false] at hx
    rcases hx with rfl | rfl | rfl | rfl | rfl | rfl | rfl | rfl | rfl | rfl | rfl <;> exact isU8_u8 _ (by omega)
  · unfold bytesA at hx
    obtain ⟨y, _, rfl⟩ := List.mem_map.1 hx
    have := y.toNat_lt
    exact isU8_u8 _ (by omega)
theorem pk_len (k n t : Nat) (b : ByteArray) : decide ((List.take ((11 + b.size) * 1) (pkL k n t b)).length = 11 + b.size) = true := by
  rw [pkL_take, pkL_len]
  exact decide_t rfl
theorem pk_u8 (k n t : Nat) (b : ByteArray) (hk : k ≤ 1) (hn : n ≤ 60000) (ht : t ≤ 60000) (hb : b.size ≤ 1024) : (List.take ((11 + b.size) * 1) (pkL k n t b)).all isU8 = true := by
  rw [pkL_take]
  exact pkL_u8 k n t b hk hn ht hb
theorem pk_st (k n t : Nat) (b : ByteArray) : AV.s (Value.string (strA (List.take ((11 + b.size) * 1) (pkL k n t b)))) = st (pkB k n t b) := by
  rw [pkL_take]
  rfl
theorem data_ok (n t : Nat) (b : ByteArray) (hn : n ≤ 60000) (ht : t ≤ 60000) (hb : 1 ≤ b.size) (hb2 : b.size ≤ 1024) (hbe : ¬ b = ⟨#[]⟩) : Pu 21 [i64 0, i64 (n : Nat), i64 (t : Nat), st b] (st (pkB 0 n t b)) := by
  exact pure_cast (pure_of (hs := hint [((1,6), {val := some (bl (false))}), ((1,13), {val := some (bl (false))}), ((6,2), {val := some (bl (false))}), ((6,6), {val := some (bl (false))}), ((15001,2), {val := some (i64 ((↑n : Int) / (16777216 : Int)))}), ((15001,3), {val := some (u8 ((↑n : Int) / (16777216 : Int)))}), ((15001,5), {val := some (i64 ((↑n : Int) / (65536 : Int)))}), ((15001,6), {val := some (u8 ((↑n : Int) / (65536 : Int)))}), ((15001,8), {val := some (i64 ((↑n : Int) / (256 : Int)))}), ((15001,9), {val := some (u8 ((↑n : Int) / (256 : Int)))}), ((15001,11), {val := some (u8 ((↑n : Int) % (256 : Int)))}), ((15002,2), {val := some (i64 ((↑t : Int) / (16777216 : Int)))}), ((15002,3), {val := some (u8 ((↑t : Int) / (16777216 : Int)))}), ((15002,5), {val := some (i64 ((↑t : Int) / (65536 : Int)))}), ((15002,6), {val := some (u8 ((↑t : Int) / (65536 : Int)))}), ((15002,8), {val := some (i64 ((↑t : Int) / (256 : Int)))}), ((15002,9), {val := some (u8 ((↑t : Int) / (256 : Int)))}), ((15002,11), {val := some (u8 ((↑t : Int) % (256 : Int)))}), ((13,1000), {unroll := 3}), ((17,3), {val := some (i64 ((↑b.size : Int) / (256 : Int)))}), ((17,4), {val := some (u8 ((↑b.size : Int) / (256 : Int)))}), ((17,7), {val := some (u8 ((↑b.size : Int) % (256 : Int)))}), ((18,2), {sym := true}), ((18,3), {sym := true})]) (r := st (strA (List.take (((11 : Nat) + b.size) * (1 : Nat)) (AV.s (Value.int IntKind.u8 (0 : Int)) :: AV.s (Value.int IntKind.u8 ((↑n : Int) / (16777216 : Int))) :: AV.s (Value.int IntKind.u8 ((↑n : Int) / (65536 : Int))) :: AV.s (Value.int IntKind.u8 ((↑n : Int) / (256 : Int))) :: AV.s (Value.int IntKind.u8 ((↑n : Int) % (256 : Int))) :: AV.s (Value.int IntKind.u8 ((↑t : Int) / (16777216 : Int))) :: AV.s (Value.int IntKind.u8 ((↑t : Int) / (65536 : Int))) :: AV.s (Value.int IntKind.u8 ((↑t : Int) / (256 : Int))) :: AV.s (Value.int IntKind.u8 ((↑t : Int) % (256 : Int))) :: AV.s (Value.int IntKind.u8 ((↑b.size : Int) / (256 : Int))) :: AV.s (Value.int IntKind.u8 ((↑b.size : Int) % (256 : Int))) :: bytesA b)))) (ps := [bl (decide ((↑n : Int) > (4294967295 : Int))) = bl (false), bl (decide ((↑t : Int) > (4294967295 : Int))) = bl (false), bl (b.toList == { data := #[] : ByteArray }.toList) = bl (false), bl (decide ((↑b.size : Int) > (1024 : Int))) = bl (false), i64 ((↑n : Int).fdiv (16777216 : Int)) = i64 ((↑n : Int) / (16777216 : Int)), u8 (IntKind.u8.wrap ((↑n : Int) / (16777216 : Int))) = u8 ((↑n : Int) / (16777216 : Int)), i64 ((↑n : Int).fdiv (65536 : Int)) = i64 ((↑n : Int) / (65536 : Int)), u8 (IntKind.u8.wrap ((↑n : Int) / (65536 : Int))) = u8 ((↑n : Int) / (65536 : Int)), i64 ((↑n : Int).fdiv (256 : Int)) = i64 ((↑n : Int) / (256 : Int)), u8 (IntKind.u8.wrap ((↑n : Int) / (256 : Int))) = u8 ((↑n : Int) / (256 : Int)), u8 (IntKind.u8.wrap (↑n : Int)) = u8 ((↑n : Int) % (256 : Int)), i64 ((↑t : Int).fdiv (16777216 : Int)) = i64 ((↑t : Int) / (16777216 : Int)), u8 (IntKind.u8.wrap ((↑t : Int) / (16777216 : Int))) = u8 ((↑t : Int) / (16777216 : Int)), i64 ((↑t : Int).fdiv (65536 : Int)) = i64 ((↑t : Int) / (65536 : Int)), u8 (IntKind.u8.wrap ((↑t : Int) / (65536 : Int))) = u8 ((↑t : Int) / (65536 : Int)), i64 ((↑t : Int).fdiv (256 : Int)) = i64 ((↑t : Int) / (256 : Int)), u8 (IntKind.u8.wrap ((↑t : Int) / (256 : Int))) = u8 ((↑t : Int) / (256 : Int)), u8 (IntKind.u8.wrap (↑t : Int)) = u8 ((↑t : Int) % (256 : Int)), i64 ((↑b.size : Int).fdiv (256 : Int)) = i64 ((↑b.size : Int) / (256 : Int)), u8 (IntKind.u8.wrap ((↑b.size : Int) / (256 : Int))) = u8 ((↑b.size : Int) / (256 : Int)), u8 (IntKind.u8.wrap (↑b.size : Int)) = u8 ((↑b.size : Int) % (256 : Int)), decide ((11 : Nat) = (11 : Nat) ∧ (0 : Nat) ≤ (11 : Nat) ∧ (11 : Nat) = [AV.s (Value.int IntKind.u8 (0 : Int)), AV.s (Value.int IntKind.u8 ((↑n : Int) / (16777216 : Int))), AV.s (Value.int IntKind.u8 ((↑n : Int) / (65536 : Int))), AV.s (Value.int IntKind.u8 ((↑n : Int) / (256 : Int))), AV.s (Value.int IntKind.u8 ((↑n : Int) % (256 : Int))), AV.s (Value.int IntKind.u8 ((↑t : Int) / (16777216 : Int))), AV.s (Value.int IntKind.u8 ((↑t : Int) / (65536 : Int))), AV.s (Value.int IntKind.u8 ((↑t : Int) / (256 : Int))), AV.s (Value.int IntKind.u8 ((↑t : Int) % (256 : Int))), AV.s (Value.int IntKind.u8 ((↑b.size : Int) / (256 : Int))), AV.s (Value.int IntKind.u8 ((↑b.size : Int) % (256 : Int)))].length) = true, decide (((11 : Nat) + b.size) * (1 : Nat) ≤ (140737488355328 : Nat)) = true, decide ((bytesA b).length = b.size * (1 : Nat)) = true, decide ((List.take (((11 : Nat) + b.size) * (1 : Nat)) (AV.s (Value.int IntKind.u8 (0 : Int)) :: AV.s (Value.int IntKind.u8 ((↑n : Int) / (16777216 : Int))) :: AV.s (Value.int IntKind.u8 ((↑n : Int) / (65536 : Int))) :: AV.s (Value.int IntKind.u8 ((↑n : Int) / (256 : Int))) :: AV.s (Value.int IntKind.u8 ((↑n : Int) % (256 : Int))) :: AV.s (Value.int IntKind.u8 ((↑t : Int) / (16777216 : Int))) :: AV.s (Value.int IntKind.u8 ((↑t : Int) / (65536 : Int))) :: AV.s (Value.int IntKind.u8 ((↑t : Int) / (256 : Int))) :: AV.s (Value.int IntKind.u8 ((↑t : Int) % (256 : Int))) :: AV.s (Value.int IntKind.u8 ((↑b.size : Int) / (256 : Int))) :: AV.s (Value.int IntKind.u8 ((↑b.size : Int) % (256 : Int))) :: bytesA b)).length = (11 : Nat) + b.size) = true, (List.take (((11 : Nat) + b.size) * (1 : Nat)) (AV.s (Value.int IntKind.u8 (0 : Int)) :: AV.s (Value.int IntKind.u8 ((↑n : Int) / (16777216 : Int))) :: AV.s (Value.int IntKind.u8 ((↑n : Int) / (65536 : Int))) :: AV.s (Value.int IntKind.u8 ((↑n : Int) / (256 : Int))) :: AV.s (Value.int IntKind.u8 ((↑n : Int) % (256 : Int))) :: AV.s (Value.int IntKind.u8 ((↑t : Int) / (16777216 : Int))) :: AV.s (Value.int IntKind.u8 ((↑t : Int) / (65536 : Int))) :: AV.s (Value.int IntKind.u8 ((↑t : Int) / (256 : Int))) :: AV.s (Value.int IntKind.u8 ((↑t : Int) % (256 : Int))) :: AV.s (Value.int IntKind.u8 ((↑b.size : Int) / (256 : Int))) :: AV.s (Value.int IntKind.u8 ((↑b.size : Int) % (256 : Int))) :: bytesA b)).all isU8 = true]) (by kernel_rfl) ⟨(bdF (by omega)), (bdF (by omega)), (bsF (by assumption)), (bdF (by omega)), (intE (Int.fdiv_eq_ediv_of_nonneg _ (by decide))), (intE (by exact wrap_u8 (by omega) (by omega))), (intE (Int.fdiv_eq_ediv_of_nonneg _ (by decide))), (intE (by exact wrap_u8 (by omega) (by omega))), (intE (Int.fdiv_eq_ediv_of_nonneg _ (by decide))), (intE (by exact wrap_u8 (by omega) (by omega))), (intE (wrap_u8_mod _)), (intE (Int.fdiv_eq_ediv_of_nonneg _ (by decide))), (intE (by exact wrap_u8 (by omega) (by omega))), (intE (Int.fdiv_eq_ediv_of_nonneg _ (by decide))), (intE (by exact wrap_u8 (by omega) (by omega))), (intE (Int.fdiv_eq_ediv_of_nonneg _ (by decide))), (intE (by exact wrap_u8 (by omega) (by omega))), (intE (wrap_u8_mod _)), (intE (Int.fdiv_eq_ediv_of_nonneg _ (by decide))), (intE (by exact wrap_u8 (by omega) (by omega))), (intE (wrap_u8_mod _)), (by (simp; done)), (by exact decide_t (by omega)), (by exact bytesA_1 _), (by exact pk_len 0 n t b), (by exact pk_u8 0 n t b (by omega) hn ht hb2), trivial⟩) (by exact pk_st 0 n t b)
theorem ack_ok (t : Nat) (ht : t ≤ 60000) : Pu 21 [i64 1, i64 0, i64 (t : Nat), st e0] (st (pkB 1 0 t e0)) := by
  exact pure_cast (pure_of (hs := hint [((1,13), {val := some (bl (false))}), ((15002,2), {val := some (i64 ((↑t : Int) / (16777216 : Int)))}), ((15002,3), {val := some (u8 ((↑t : Int) / (16777216 : Int)))}), ((15002,5), {val := some (i64 ((↑t : Int) / (65536 : Int)))}), ((15002,6), {val := some (u8 ((↑t : Int) / (65536 : Int)))}), ((15002,8), {val := some (i64 ((↑t : Int) / (256 : Int)))}), ((15002,9), {val := some (u8 ((↑t : Int) / (256 : Int)))}), ((15002,11), {val := some (u8 ((↑t : Int) % (256 : Int)))}), ((13,1000), {unroll := 3}), ((18,3), {sym := true})]) (r := st (strA [AV.s (Value.int IntKind.u8 (1 : Int)), AV.s (Value.int IntKind.u8 (0 : Int)), AV.s (Value.int IntKind.u8 (0 : Int)), AV.s (Value.int IntKind.u8 (0 : Int)), AV.s (Value.int IntKind.u8 (0 : Int)), AV.s (Value.int IntKind.u8 ((↑t : Int) / (16777216 : Int))), AV.s (Value.int IntKind.u8 ((↑t : Int) / (65536 : Int))), AV.s (Value.int IntKind.u8 ((↑t : Int) / (256 : Int))), AV.s (Value.int IntKind.u8 ((↑t : Int) % (256 : Int))), AV.s (Value.int IntKind.u8 (0 : Int)), AV.s (Value.int IntKind.u8 (0 : Int))])) (ps := [bl (decide ((↑t : Int) > (4294967295 : Int))) = bl (false), i64 ((↑t : Int).fdiv (16777216 : Int)) = i64 ((↑t : Int) / (16777216 : Int)), u8 (IntKind.u8.wrap ((↑t : Int) / (16777216 : Int))) = u8 ((↑t : Int) / (16777216 : Int)), i64 ((↑t : Int).fdiv (65536 : Int)) = i64 ((↑t : Int) / (65536 : Int)), u8 (IntKind.u8.wrap ((↑t : Int) / (65536 : Int))) = u8 ((↑t : Int) / (65536 : Int)), i64 ((↑t : Int).fdiv (256 : Int)) = i64 ((↑t : Int) / (256 : Int)), u8 (IntKind.u8.wrap ((↑t : Int) / (256 : Int))) = u8 ((↑t : Int) / (256 : Int)), u8 (IntKind.u8.wrap (↑t : Int)) = u8 ((↑t : Int) % (256 : Int)), decide ([AV.s (Value.int IntKind.u8 (1 : Int)), AV.s (Value.int IntKind.u8 (0 : Int)), AV.s (Value.int IntKind.u8 (0 : Int)), AV.s (Value.int IntKind.u8 (0 : Int)), AV.s (Value.int IntKind.u8 (0 : Int)), AV.s (Value.int IntKind.u8 ((↑t : Int) / (16777216 : Int))), AV.s (Value.int IntKind.u8 ((↑t : Int) / (65536 : Int))), AV.s (Value.int IntKind.u8 ((↑t : Int) / (256 : Int))), AV.s (Value.int IntKind.u8 ((↑t : Int) % (256 : Int))), AV.s (Value.int IntKind.u8 (0 : Int)), AV.s (Value.int IntKind.u8 (0 : Int))].length = (11 : Nat)) = true, [AV.s (Value.int IntKind.u8 (1 : Int)), AV.s (Value.int IntKind.u8 (0 : Int)), AV.s (Value.int IntKind.u8 (0 : Int)), AV.s (Value.int IntKind.u8 (0 : Int)), AV.s (Value.int IntKind.u8 (0 : Int)), AV.s (Value.int IntKind.u8 ((↑t : Int) / (16777216 : Int))), AV.s (Value.int IntKind.u8 ((↑t : Int) / (65536 : Int))), AV.s (Value.int IntKind.u8 ((↑t : Int) / (256 : Int))), AV.s (Value.int IntKind.u8 ((↑t : Int) % (256 : Int))), AV.s (Value.int IntKind.u8 (0 : Int)), AV.s (Value.int IntKind.u8 (0 : Int))].all isU8 = true]) (by kernel_rfl) ⟨(bdF (by omega)), (intE (Int.fdiv_eq_ediv_of_nonneg _ (by decide))), (intE (by exact wrap_u8 (by omega) (by omega))), (intE (Int.fdiv_eq_ediv_of_nonneg _ (by decide))), (intE (by exact wrap_u8 (by omega) (by omega))), (intE (Int.fdiv_eq_ediv_of_nonneg _ (by decide))), (intE (by exact wrap_u8 (by omega) (by omega))), (intE (wrap_u8_mod _)), (by exact pk_len 1 0 t e0), (by exact pk_u8 1 0 t e0 (by omega) (by omega) ht (by decide)), trivial⟩) (by exact pk_st 1 0 t e0)
end Go.Proofs.YtdcoomeagbjhlaaDoor.Lk
set_option linter.unusedVariables false
set_option linter.unusedSimpArgs false
set_option maxRecDepth 100000
set_option maxHeartbeats 4000000
namespace Go.Proofs.YtdcoomeagbjhlaaDoor.Lk
open Go.RowKit Go.Pm
open Go.Proofs.YtdcoomeagbjhlaaDoor.Or (G1 C1 Pu)
open Go.Proofs.YtdcoomeagbjhlaaDoor.Ca (eS slS cacheA)
structure PcOk (p : Pc) : Prop where
  n : p.n ≤ 60000
  b1 : 1 ≤ p.b.size
  b2 : p.b.size ≤ 1024
theorem PcOk.ne {p : Pc} (h : PcOk p) : ¬ p.b = ⟨#[]⟩ := fun e => by
  have := h.b1
  rw [e] at this
  exact absurd this (by decide)
def duP (x : Pc) : Pc := { x with d := false }
def pkP (t : Nat) (p : Pc) : ByteArray := pkB 0 p.n t p.b
def dueL (t : Nat) (l : List Pc) : List ByteArray := (l.filter (·.d)).map (pkP t)
theorem eS_len (x : ByteArray) : (eS x).length = 1 := rfl
theorem due_yes (t : Nat) (l : List Pc) (k : Nat) (hk : k < l.length) (h : (nth l k).d = true) : dueL t (l.take (k + 1)) = dueL t (l.take k) ++ [pkP t (nth l k)] := by
  unfold dueL
  rw [take_nth hk, List.filter_append, List.map_append]
  congr 1
  simp [h]
theorem due_no (t : Nat) (l : List Pc) (k : Nat) (hk : k < l.length) (h : (nth l k).d = false) : dueL t (l.take (k + 1)) = dueL t (l.take k) := by
  unfold dueL
  rw [take_nth hk, List.filter_append, List.map_append]
  simp [h]
theorem due_le (t : Nat) (l : List Pc) (k : Nat) : (dueL t (l.take k)).length ≤ l.length := by
  unfold dueL
  rw [List.length_map]
  have h1 := List.length_filter_le (fun p : Pc => p.d) (l.take k)
  have h2 := List.length_take_le k l
  rw [List.length_take] at h1
  omega
noncomputable def duB : Code := loopOf Tryd.prog 8 4
def duS (e : En) (n k m : Nat) (l : List Pc) (ds : List ByteArray) : St := ⟨mkT 59 [(1, .ptr 0 0), (2, .ptr 1 0), (4, .osl 3 0 m 1), (13, i64 (n : Int)), (14, i64 (k : Int))], [.arr 23 (enM e (.osl 2 0 n 3)) 0, .arr 23 (enM en0 .nsl) 0, .arr (n * 3) (l.flatMap pcE) 0, .arr (m * 1) (ds.flatMap eS) 0]⟩
theorem du_no (e : En) (n k m : Nat) (l : List Pc) (ds : List ByteArray) (hn : n = l.length) (hl : n ≤ 1000) (hk : k < n) (hm : m = ds.length) (hm2 : m ≤ 1000) (x : Pc) (hx : nth l k = x) (hd : x.d = false) : Tri C1 duB (duS e n k m l ds) .normal (duS e n (k + 1) m l ds) := by
  have e1 := row_at (sz := 3) pcE_len l k (0 + k * 3 + 2) 2 1 (by omega) (by omega) (by decide)
  rw [hx] at e1
  have e2 : List.take 1 (List.drop (0 + k * 3 + 2) (l.flatMap pcE)) = [bl false] := by rw [e1, ← hd]; rfl
  exact runF_ok (hs := hint [((4,0), {val := some (bl (true))}), ((6,3), {sym := true}), ((7,3), { sym := true, cells := some [bl false] }), ((10,0), {val := some (i64 ((↑k : Int) + (1 : Int)))})]) (f := { ks := [1, 2, 4, 13, 14], l := [0, 1, 2, 3], mx := [0] }) (ps := [bl (decide ((↑k : Int) < (↑n : Int))) = bl (true), decide ((0 : Int) ≤ (↑k : Int) ∧ (↑k : Int) < (↑n : Int)) = true, ((List.take (1 : Nat) (List.drop ((0 : Nat) + (↑k : Int).toNat * (3 : Nat) + (2 : Nat)) (List.flatMap pcE l))) : List AV) = [bl (false)], i64 (IntKind.i64.wrap ((↑k : Int) + (1 : Int))) = i64 ((↑k : Int) + (1 : Int)), true = true, true = true, pureB (Bk.arr (n * (3 : Nat)) (List.flatMap pcE l) (0 : Fz)) = true, pureB (Bk.arr (m * (1 : Nat)) (List.flatMap eS ds) (0 : Fz)) = true]) (by kernel_rfl) ⟨(bdT (by omega)), (by exact decide_t (by omega)), (by (first | exact e2 | exact decide_t (by omega))), (intE (by exact wrap_i64 (by omega) (by omega))), rfl, rfl, (by exact row_pureB (fun _ => rfl) _ _ _), (by exact row_pureB (fun _ => rfl) _ _ _), trivial⟩
theorem du_yes (e : En) (n k m : Nat) (l l' : List Pc) (ds ds' : List ByteArray) (hn : n = l.length) (hl : n ≤ 1000) (hk : k < n) (hm : m = ds.length) (hm2 : m ≤ 1000) (x : Pc) (hx : nth l k = x) (hd : x.d = true) (hp : Pu 21 [i64 0, i64 (x.n : Nat), i64 (e.exp : Nat), st x.b] (st (pkP e.exp x))) (hl' : l.set k (duP x) = l') (hds : ds ++ [pkP e.exp x] = ds') : Tri C1 duB (duS e n k m l ds) .normal (duS e n (k + 1) (m + 1) l' ds') := by
  have e0 : List.take 1 (List.drop (0 + k * 3 + 2) (l.flatMap pcE)) = [bl true] := by rw [row_at (sz := 3) pcE_len l k (0 + k * 3 + 2) 2 1 (by omega) (by omega) (by decide), hx, ← hd]; rfl
  have e1 : List.take 1 (List.drop (0 + k * 3 + 0) (l.flatMap pcE)) = [i64 (x.n : Nat)] := by rw [row_at (sz := 3) pcE_len l k (0 + k * 3 + 0) 0 1 (by omega) (by omega) (by decide), hx]; rfl
  have e2 : List.take 1 (List.drop (0 + k * 3 + 1) (l.flatMap pcE)) = [st x.b] := by rw [row_at (sz := 3) pcE_len l k (0 + k * 3 + 1) 1 1 (by omega) (by omega) (by decide), hx]; rfl
  have e3 : splice (l.flatMap pcE) (0 + k * 3 + 2) [bl false] = l'.flatMap pcE := by
    rw [← hl']
    exact row_put (sz := 3) pcE_len l k (0 + k * 3 + 2) 2 [bl false] (duP x) (by omega) (by omega) (by decide) (by rw [hx]; rfl)
  have e4 : ds'.flatMap eS = ds.flatMap eS ++ eS (pkP e.exp x) := by rw [← hds]; exact row_snoc ds _
  exact runF_ok (hs := hint [((4,0), {val := some (bl (true))}), ((6,3), {sym := true}), ((7,3), { sym := true, cells := some [bl true] }), ((8,4), { sym := true, cells := some [i64 (x.n : Nat)] }), ((8,10), { sym := true, cells := some [st x.b] }), ((8,11), {call := some ((st (pkP e.exp x)))}), ((8,13), { sym := true, cells := some (ds'.flatMap eS) }), ((9,3), { sym := true, cells := some (l'.flatMap pcE) }), ((10,0), {val := some (i64 ((↑k : Int) + (1 : Int)))})]) (f := { ks := [1, 2, 4, 13, 14], l := [0, 1, 2, 5], mx := [0] }) (ps := [bl (decide ((↑k : Int) < (↑n : Int))) = bl (true), decide ((0 : Int) ≤ (↑k : Int) ∧ (↑k : Int) < (↑n : Int)) = true, ((List.take (1 : Nat) (List.drop ((0 : Nat) + (↑k : Int).toNat * (3 : Nat) + (2 : Nat)) (List.flatMap pcE l))) : List AV) = [bl (true)], ((List.take (1 : Nat) (List.drop ((0 : Nat) + (↑k : Int).toNat * (3 : Nat) + (0 : Nat)) (List.flatMap pcE l))) : List AV) = [i64 ((↑x.n : Int))], ((List.take (1 : Nat) (List.drop ((0 : Nat) + (↑k : Int).toNat * (3 : Nat) + (1 : Nat)) (List.flatMap pcE l))) : List AV) = [st (x.b)], _, decide (m * (1 : Nat) = m * (1 : Nat) + (0 : Nat) ∧ (0 : Nat) ≤ m * (1 : Nat) ∧ m * (1 : Nat) = (List.flatMap eS ds).length) = true, decide ((m + (1 : Nat)) * (16 : Nat) ≤ (140737488355328 : Nat)) = true, true = true, ((List.drop (0 : Nat) (List.flatMap eS ds) ++ [AV.s (Value.string (pkP e.exp x))]) : List AV) = (List.flatMap eS ds'), decide ((0 : Nat) + (↑k : Int).toNat * (3 : Nat) + (2 : Nat) + (1 : Nat) ≤ n * (3 : Nat)) = true, decide ((0 : Nat) ≤ (0 : Nat) + (↑k : Int).toNat * (3 : Nat) + (2 : Nat)) = true, ((splice (List.flatMap pcE l) ((0 : Nat) + (↑k : Int).toNat * (3 : Nat) + (2 : Nat)) [AV.s (Value.bool false)]) : List AV) = (List.flatMap pcE l'), i64 (IntKind.i64.wrap ((↑k : Int) + (1 : Int))) = i64 ((↑k : Int) + (1 : Int)), true = true, true = true, pureB (Bk.arr (n * (3 : Nat)) (List.flatMap pcE l') (0 : Fz)) = true, pureB (Bk.arr ((m + (1 : Nat)) * (1 : Nat)) (List.flatMap eS ds') { n := (0 : Nat) : Fz }) = true]) (by kernel_rfl) ⟨(bdT (by omega)), (by exact decide_t (by omega)), (by (first | exact e0 | exact decide_t (by omega))), (by (first | exact e1 | exact decide_t (by omega))), (by (first | exact e2 | exact decide_t (by omega))), (hp), (by (first | exact e4.symm | exact decide_t (by omega) | exact decide_t ⟨by omega, by omega, by rw [row_len (sz := 1) (fun _ => rfl)]; omega⟩ | exact decide_t (by rw [row_len (sz := 1) (fun _ => rfl)]; omega))), (by (first | exact e4.symm | exact decide_t (by omega) | exact decide_t ⟨by omega, by omega, by rw [row_len (sz := 1) (fun _ => rfl)]; omega⟩ | exact decide_t (by rw [row_len (sz := 1) (fun _ => rfl)]; omega))), rfl, (by (first | exact e4.symm | exact decide_t (by omega) | exact decide_t ⟨by omega, by omega, by rw [row_len (sz := 1) (fun _ => rfl)]; omega⟩ | exact decide_t (by rw [row_len (sz := 1) (fun _ => rfl)]; omega))), (by (first | exact e3 | exact decide_t (by omega))), (by (first | exact e3 | exact decide_t (by omega))), (by (first | exact e3 | exact decide_t (by omega))), (intE (by exact wrap_i64 (by omega) (by omega))), rfl, rfl, (by exact row_pureB (fun _ => rfl) _ _ _), (by exact row_pureB (fun _ => rfl) _ _ _), trivial⟩
theorem du_end (e : En) (n m : Nat) (l : List Pc) (ds : List ByteArray) (hl : n ≤ 1000) : LoopT C1 duB (duS e n n m l ds) (.exit 0) (duS e n n m l ds) := by
  exact LoopT.fin (hs := hint [((4,0), {val := some (bl (false))})]) (f := { ks := [1, 2, 4, 13, 14], l := [0, 1, 2, 3], mx := [0] }) (ps := [bl (decide ((↑n : Int) < (↑n : Int))) = bl (false), true = true, true = true, pureB (Bk.arr (n * (3 : Nat)) (List.flatMap pcE l) (0 : Fz)) = true, pureB (Bk.arr (m * (1 : Nat)) (List.flatMap eS ds) (0 : Fz)) = true]) (by kernel_rfl) ⟨(bdF (by omega)), rfl, rfl, (by exact row_pureB (fun _ => rfl) _ _ _), (by exact row_pureB (fun _ => rfl) _ _ _), trivial⟩ (by decide)
end Go.Proofs.YtdcoomeagbjhlaaDoor.Lk
set_option linter.unusedVariables false
set_option linter.unusedSimpArgs false
set_option maxRecDepth 100000
set_option maxHeartbeats 4000000
namespace Go.Proofs.YtdcoomeagbjhlaaDoor.Lk
open Go.RowKit Go.Pm
open Go.Proofs.YtdcoomeagbjhlaaDoor.Or (G1 C1 Pu)
open Go.Proofs.YtdcoomeagbjhlaaDoor.Ca (eS slS cacheA)
theorem ids_two (H : List Bk) (i j : Nat) (b c : Bk) (hb : H[i]? = some b) (hc : H[j]? = some c) (pb : pureB b = true) (pc : pureB c = true) : ([i, j].all fun i => (Option.map pureB H[i]?).getD false) = true := by
  simp [hb, hc, pb, pc]
theorem du_loop (e : En) (hl : e.way.length ≤ 1000) (hw : ∀ p ∈ e.way, PcOk p) (he : e.exp ≤ 60000) : LoopT C1 duB (duS e e.way.length 0 0 e.way []) (.exit 0) (duS e e.way.length e.way.length (dueL e.exp e.way).length (e.way.map duP) (dueL e.exp e.way)) := by
  have h := LoopT.count (fun k => duS e e.way.length k (dueL e.exp (e.way.take k)).length (mt duP e.way k) (dueL e.exp (e.way.take k))) e.way.length (fun k hk => by
    obtain ⟨x, hx⟩ : ∃ x, nth e.way k = x := ⟨_, rfl⟩
    have hx2 : nth (mt duP e.way k) k = x := by rw [mt_nth _ _ _ hk, hx]
    have hle := due_le e.exp e.way k
    have hp := hw _ (nth_mem hk)
    rw [hx] at hp
    cases hd : x.d with
    | false =>
      have e1 := due_no e.exp e.way k hk (by rw [hx]; exact hd)
      have e2 : mt duP e.way (k + 1) = mt duP e.way k := by
        rw [← mt_set _ _ _ hk, hx]
        have : duP x = nth (mt duP e.way k) k := by
          rw [hx2]
          rcases x with ⟨a, b, d⟩
          simp only at hd
          subst hd
          rfl
        rw [this]
        unfold nth
        rw [List.getD_eq_getElem?_getD, List.getElem?_eq_getElem (by rw [mt_len]; exact hk), Option.getD_some]
        exact List.set_getElem_self _
      simp only [e1, e2]
      exact du_no e _ k _ _ _ (by rw [mt_len]) hl hk rfl (by omega) x hx2 hd
    | true =>
      have e1 := due_yes e.exp e.way k hk (by rw [hx]; exact hd)
      rw [hx] at e1
      have hm : (dueL e.exp (e.way.take (k + 1))).length = (dueL e.exp (e.way.take k)).length + 1 := by rw [e1, List.length_append]; rfl
      simp only [hm]
      exact du_yes e _ k _ _ _ _ _ (by rw [mt_len]) hl hk rfl (by omega) x hx2 hd (data_ok x.n e.exp x.b hp.n he hp.b1 hp.b2 hp.ne) (by rw [← hx, mt_set _ _ _ hk]) e1.symm) (du_end e _ _ _ _ hl) 0 (Nat.zero_le _)
  have h0 := mt_0 duP e.way
  have h1 := mt_all duP e.way
  simp only [h0, h1, List.take_length] at h
  exact h
theorem slS_take (n : Nat) (l : List ByteArray) (h : n = l.length) : AV.sl n (List.take (n * 1) (List.drop 0 (l.flatMap eS))) = slS l := by
  rw [List.drop_zero, List.take_of_length_le (by rw [row_len (sz := 1) (fun _ => rfl)]; omega), h]
  rfl
theorem due_1 (e : En) (w : List Pc) (n m : Nat) (ds : List ByteArray) (hn : n = w.length) (hc : Pure Tryd.prog G1 20 [slP e.way] (.osl 0 0 n 3) [.arr (n * 3) (e.way.flatMap pcE) 0]) (h : LoopT C1 duB (duS e n 0 0 e.way []) (.exit 0) (duS e n n m w ds)) (hm : m = ds.length) (hm1 : ¬ m = 0) : Pu 8 [enA e] (.tup [enA { e with way := w, ack := false }, slS ds]) := by
  have hs := slP_take n w hn
  have hd := slS_take m ds hm
  have hr : AV.tup [A (enM { e with ack := false } (AV.sl n (List.take (n * 3) (List.drop 0 (w.flatMap pcE))))), AV.sl m (List.take (m * 1) (List.drop 0 (ds.flatMap eS)))] = .tup [enA { e with way := w, ack := false }, slS ds] := by rw [hs, hd]; rfl
  exact pure_cast (pure_said (hs := hint [((2,2), {call := some ((AV.osl (0 : Nat) (0 : Nat) n (3 : Nat))), news := some ([Bk.arr (n * (3 : Nat)) (List.flatMap pcE e.way) (0 : Fz)]), sym := true}), ((4,1000), {loop := some ({ ks := [1, 2, 13, 14], l := [0, 1, 2], mx := [0], gh := [(4, 1)] }, duS e n (0 : Nat) (0 : Nat) e.way [], Ex.exit (0 : Nat), duS e n n m w ds)}), ((11,3), {val := some (bl (false))})]) (r := AV.tup [A [i64 ((↑e.most : Int)), AV.sl (n) (List.take (n * (3 : Nat)) (List.drop (0 : Nat) (List.flatMap pcE w))), i64 ((↑e.next : Int)), st (e.rest), i64 ((↑e.exp : Int)), st (e.asd (0 : Nat)), st (e.asd (1 : Nat)), st (e.asd (2 : Nat)), st (e.asd (3 : Nat)), st (e.asd (4 : Nat)), st (e.asd (5 : Nat)), st (e.asd (6 : Nat)), st (e.asd (7 : Nat)), st (e.asd (8 : Nat)), st (e.asd (9 : Nat)), st (e.asd (10 : Nat)), st (e.asd (11 : Nat)), st (e.asd (12 : Nat)), st (e.asd (13 : Nat)), st (e.asd (14 : Nat)), st (e.asd (15 : Nat)), st (e.read), bl (false)], AV.sl (m) (List.take (m * (1 : Nat)) (List.drop (0 : Nat) (List.flatMap eS ds)))]) (ps := [[Bk.arr (n * (3 : Nat)) (List.flatMap pcE e.way) (0 : Fz)].all pureB = true, true = true, true = true, _, duS e n (0 : Nat) (0 : Nat) e.way [] = duS e n (0 : Nat) (0 : Nat) e.way [], _, true = true, true = true, pureB (Bk.arr (n * (3 : Nat)) (List.flatMap pcE e.way) (0 : Fz)) = true, bl ((↑m : Int) == (0 : Int)) = bl (false), ([(2 : Nat), (3 : Nat)].all fun (i : Nat) => (Option.map pureB [Bk.arr (23 : Nat) [AV.s (Value.int IntKind.i64 (↑e.most : Int)), AV.osl (2 : Nat) (0 : Nat) n (3 : Nat), AV.s (Value.int IntKind.i64 (↑e.next : Int)), AV.s (Value.string e.rest), AV.s (Value.int IntKind.i64 (↑e.exp : Int)), AV.s (Value.string (e.asd (0 : Nat))), AV.s (Value.string (e.asd (1 : Nat))), AV.s (Value.string (e.asd (2 : Nat))), AV.s (Value.string (e.asd (3 : Nat))), AV.s (Value.string (e.asd (4 : Nat))), AV.s (Value.string (e.asd (5 : Nat))), AV.s (Value.string (e.asd (6 : Nat))), AV.s (Value.string (e.asd (7 : Nat))), AV.s (Value.string (e.asd (8 : Nat))), AV.s (Value.string (e.asd (9 : Nat))), AV.s (Value.string (e.asd (10 : Nat))), AV.s (Value.string (e.asd (11 : Nat))), AV.s (Value.string (e.asd (12 : Nat))), AV.s (Value.string (e.asd (13 : Nat))), AV.s (Value.string (e.asd (14 : Nat))), AV.s (Value.string (e.asd (15 : Nat))), AV.s (Value.string e.read), AV.s (Value.bool false)] (0 : Fz), Bk.arr (23 : Nat) [AV.s (Value.int IntKind.i64 (↑e.most : Int)), AV.osl (2 : Nat) (0 : Nat) n (3 : Nat), AV.s (Value.int IntKind.i64 (↑e.next : Int)), AV.s (Value.string e.rest), AV.s (Value.int IntKind.i64 (↑e.exp : Int)), AV.s (Value.string (e.asd (0 : Nat))), AV.s (Value.string (e.asd (1 : Nat))), AV.s (Value.string (e.asd (2 : Nat))), AV.s (Value.string (e.asd (3 : Nat))), AV.s (Value.string (e.asd (4 : Nat))), AV.s (Value.string (e.asd (5 : Nat))), AV.s (Value.string (e.asd (6 : Nat))), AV.s (Value.string (e.asd (7 : Nat))), AV.s (Value.string (e.asd (8 : Nat))), AV.s (Value.string (e.asd (9 : Nat))), AV.s (Value.string (e.asd (10 : Nat))), AV.s (Value.string (e.asd (11 : Nat))), AV.s (Value.string (e.asd (12 : Nat))), AV.s (Value.string (e.asd (13 : Nat))), AV.s (Value.string (e.asd (14 : Nat))), AV.s (Value.string (e.asd (15 : Nat))), AV.s (Value.string e.read), AV.s (Value.bool false)] (0 : Fz), Bk.arr (n * (3 : Nat)) (List.flatMap pcE w) (0 : Fz), Bk.arr (m * (1 : Nat)) (List.flatMap eS ds) (0 : Fz)][i]?).getD false) = true, true = true]) (by kernel_rfl) ⟨(by exact pcs_pure _ _), rfl, rfl, (hc), rfl, h, rfl, rfl, (by exact row_pureB (fun _ => rfl) _ _ _), (beF (by omega)), (by exact ids_two _ _ _ _ _ rfl rfl (row_pureB (fun _ => rfl) _ _ _) (row_pureB (fun _ => rfl) _ _ _)), rfl, trivial⟩) (by assumption)
theorem due_0 (e : En) (w : List Pc) (n : Nat) (hn : n = w.length) (hc : Pure Tryd.prog G1 20 [slP e.way] (.osl 0 0 n 3) [.arr (n * 3) (e.way.flatMap pcE) 0]) (h : LoopT C1 duB (duS e n 0 0 e.way []) (.exit 0) (duS e n n 0 w [])) (ha : e.ack = false) : Pu 8 [enA e] (.tup [enA { e with way := w, ack := false }, slS []]) := by
  have hs := slP_take n w hn
  have hr : AV.tup [A (enM { e with ack := false } (AV.sl n (List.take (n * 3) (List.drop 0 (w.flatMap pcE))))), AV.sl 0 []] = .tup [enA { e with way := w, ack := false }, slS []] := by rw [hs]; rfl
  exact pure_cast (pure_said (hs := hint [((2,2), {call := some ((AV.osl (0 : Nat) (0 : Nat) n (3 : Nat))), news := some ([Bk.arr (n * (3 : Nat)) (List.flatMap pcE e.way) (0 : Fz)]), sym := true}), ((4,1000), {loop := some ({ ks := [1, 2, 13, 14], l := [0, 1, 2], mx := [0], gh := [(4, 1)] }, duS e n (0 : Nat) (0 : Nat) e.way [], Ex.exit (0 : Nat), duS e n n (0 : Nat) w [])}), ((11,6), {val := some (bl (false))})]) (r := AV.tup [A [i64 ((↑e.most : Int)), AV.sl (n) (List.take (n * (3 : Nat)) (List.drop (0 : Nat) (List.flatMap pcE w))), i64 ((↑e.next : Int)), st (e.rest), i64 ((↑e.exp : Int)), st (e.asd (0 : Nat)), st (e.asd (1 : Nat)), st (e.asd (2 : Nat)), st (e.asd (3 : Nat)), st (e.asd (4 : Nat)), st (e.asd (5 : Nat)), st (e.asd (6 : Nat)), st (e.asd (7 : Nat)), st (e.asd (8 : Nat)), st (e.asd (9 : Nat)), st (e.asd (10 : Nat)), st (e.asd (11 : Nat)), st (e.asd (12 : Nat)), st (e.asd (13 : Nat)), st (e.asd (14 : Nat)), st (e.asd (15 : Nat)), st (e.read), bl (false)], AV.sl ((0 : Nat)) []]) (ps := [[Bk.arr (n * (3 : Nat)) (List.flatMap pcE e.way) (0 : Fz)].all pureB = true, true = true, true = true, _, duS e n (0 : Nat) (0 : Nat) e.way [] = duS e n (0 : Nat) (0 : Nat) e.way [], _, true = true, true = true, pureB (Bk.arr (n * (3 : Nat)) (List.flatMap pcE e.way) (0 : Fz)) = true, bl (e.ack) = bl (false), ([(2 : Nat), (3 : Nat)].all fun (i : Nat) => (Option.map pureB [Bk.arr (23 : Nat) [AV.s (Value.int IntKind.i64 (↑e.most : Int)), AV.osl (2 : Nat) (0 : Nat) n (3 : Nat), AV.s (Value.int IntKind.i64 (↑e.next : Int)), AV.s (Value.string e.rest), AV.s (Value.int IntKind.i64 (↑e.exp : Int)), AV.s (Value.string (e.asd (0 : Nat))), AV.s (Value.string (e.asd (1 : Nat))), AV.s (Value.string (e.asd (2 : Nat))), AV.s (Value.string (e.asd (3 : Nat))), AV.s (Value.string (e.asd (4 : Nat))), AV.s (Value.string (e.asd (5 : Nat))), AV.s (Value.string (e.asd (6 : Nat))), AV.s (Value.string (e.asd (7 : Nat))), AV.s (Value.string (e.asd (8 : Nat))), AV.s (Value.string (e.asd (9 : Nat))), AV.s (Value.string (e.asd (10 : Nat))), AV.s (Value.string (e.asd (11 : Nat))), AV.s (Value.string (e.asd (12 : Nat))), AV.s (Value.string (e.asd (13 : Nat))), AV.s (Value.string (e.asd (14 : Nat))), AV.s (Value.string (e.asd (15 : Nat))), AV.s (Value.string e.read), AV.s (Value.bool false)] (0 : Fz), Bk.arr (23 : Nat) [AV.s (Value.int IntKind.i64 (↑e.most : Int)), AV.osl (2 : Nat) (0 : Nat) n (3 : Nat), AV.s (Value.int IntKind.i64 (↑e.next : Int)), AV.s (Value.string e.rest), AV.s (Value.int IntKind.i64 (↑e.exp : Int)), AV.s (Value.string (e.asd (0 : Nat))), AV.s (Value.string (e.asd (1 : Nat))), AV.s (Value.string (e.asd (2 : Nat))), AV.s (Value.string (e.asd (3 : Nat))), AV.s (Value.string (e.asd (4 : Nat))), AV.s (Value.string (e.asd (5 : Nat))), AV.s (Value.string (e.asd (6 : Nat))), AV.s (Value.string (e.asd (7 : Nat))), AV.s (Value.string (e.asd (8 : Nat))), AV.s (Value.string (e.asd (9 : Nat))), AV.s (Value.string (e.asd (10 : Nat))), AV.s (Value.string (e.asd (11 : Nat))), AV.s (Value.string (e.asd (12 : Nat))), AV.s (Value.string (e.asd (13 : Nat))), AV.s (Value.string (e.asd (14 : Nat))), AV.s (Value.string (e.asd (15 : Nat))), AV.s (Value.string e.read), AV.s (Value.bool false)] (0 : Fz), Bk.arr (n * (3 : Nat)) (List.flatMap pcE w) (0 : Fz), Bk.arr (0 : Nat) [] (0 : Fz)][i]?).getD false) = true, true = true]) (by kernel_rfl) ⟨(by exact pcs_pure _ _), rfl, rfl, (hc), rfl, h, rfl, rfl, (by exact row_pureB (fun _ => rfl) _ _ _), (bvF (by (simp; omega))), (by exact row_ids (fun _ => rfl) _ _ _ _ _ rfl), rfl, trivial⟩) (by assumption)
theorem due_a (e : En) (w : List Pc) (n : Nat) (hn : n = w.length) (hc : Pure Tryd.prog G1 20 [slP e.way] (.osl 0 0 n 3) [.arr (n * 3) (e.way.flatMap pcE) 0]) (h : LoopT C1 duB (duS e n 0 0 e.way []) (.exit 0) (duS e n n 0 w [])) (ha : e.ack = true) (hk : Pu 21 [i64 1, i64 0, i64 (e.exp : Nat), st e0] (st (pkB 1 0 e.exp e0))) : Pu 8 [enA e] (.tup [enA { e with way := w, ack := false }, slS [pkB 1 0 e.exp e0]]) := by
  have hs := slP_take n w hn
  have hr : AV.tup [A (enM { e with ack := false } (AV.sl n (List.take (n * 3) (List.drop 0 (w.flatMap pcE))))), AV.sl 1 [st (pkB 1 0 e.exp e0)]] = .tup [enA { e with way := w, ack := false }, slS [pkB 1 0 e.exp e0]] := by rw [hs]; rfl
  exact pure_cast (pure_said (hs := hint [((2,2), {call := some ((AV.osl (0 : Nat) (0 : Nat) n (3 : Nat))), news := some ([Bk.arr (n * (3 : Nat)) (List.flatMap pcE e.way) (0 : Fz)]), sym := true}), ((4,1000), {loop := some ({ ks := [1, 2, 13, 14], l := [0, 1, 2], mx := [0], gh := [(4, 1)] }, duS e n (0 : Nat) (0 : Nat) e.way [], Ex.exit (0 : Nat), duS e n n (0 : Nat) w [])}), ((11,6), {val := some (bl (true))}), ((12,3), {call := some ((st (pkB (1 : Nat) (0 : Nat) e.exp e0)))})]) (r := AV.tup [A [i64 ((↑e.most : Int)), AV.sl (n) (List.take (n * (3 : Nat)) (List.drop (0 : Nat) (List.flatMap pcE w))), i64 ((↑e.next : Int)), st (e.rest), i64 ((↑e.exp : Int)), st (e.asd (0 : Nat)), st (e.asd (1 : Nat)), st (e.asd (2 : Nat)), st (e.asd (3 : Nat)), st (e.asd (4 : Nat)), st (e.asd (5 : Nat)), st (e.asd (6 : Nat)), st (e.asd (7 : Nat)), st (e.asd (8 : Nat)), st (e.asd (9 : Nat)), st (e.asd (10 : Nat)), st (e.asd (11 : Nat)), st (e.asd (12 : Nat)), st (e.asd (13 : Nat)), st (e.asd (14 : Nat)), st (e.asd (15 : Nat)), st (e.read), bl (false)], AV.sl ((1 : Nat)) [st (pkB (1 : Nat) (0 : Nat) e.exp e0)]]) (ps := [[Bk.arr (n * (3 : Nat)) (List.flatMap pcE e.way) (0 : Fz)].all pureB = true, true = true, true = true, _, duS e n (0 : Nat) (0 : Nat) e.way [] = duS e n (0 : Nat) (0 : Nat) e.way [], _, true = true, true = true, pureB (Bk.arr (n * (3 : Nat)) (List.flatMap pcE e.way) (0 : Fz)) = true, bl (e.ack) = bl (true), _, ([(2 : Nat), (5 : Nat)].all fun (i : Nat) => (Option.map pureB [Bk.arr (23 : Nat) [AV.s (Value.int IntKind.i64 (↑e.most : Int)), AV.osl (2 : Nat) (0 : Nat) n (3 : Nat), AV.s (Value.int IntKind.i64 (↑e.next : Int)), AV.s (Value.string e.rest), AV.s (Value.int IntKind.i64 (↑e.exp : Int)), AV.s (Value.string (e.asd (0 : Nat))), AV.s (Value.string (e.asd (1 : Nat))), AV.s (Value.string (e.asd (2 : Nat))), AV.s (Value.string (e.asd (3 : Nat))), AV.s (Value.string (e.asd (4 : Nat))), AV.s (Value.string (e.asd (5 : Nat))), AV.s (Value.string (e.asd (6 : Nat))), AV.s (Value.string (e.asd (7 : Nat))), AV.s (Value.string (e.asd (8 : Nat))), AV.s (Value.string (e.asd (9 : Nat))), AV.s (Value.string (e.asd (10 : Nat))), AV.s (Value.string (e.asd (11 : Nat))), AV.s (Value.string (e.asd (12 : Nat))), AV.s (Value.string (e.asd (13 : Nat))), AV.s (Value.string (e.asd (14 : Nat))), AV.s (Value.string (e.asd (15 : Nat))), AV.s (Value.string e.read), AV.s (Value.bool false)] (0 : Fz), Bk.arr (23 : Nat) [AV.s (Value.int IntKind.i64 (↑e.most : Int)), AV.osl (2 : Nat) (0 : Nat) n (3 : Nat), AV.s (Value.int IntKind.i64 (↑e.next : Int)), AV.s (Value.string e.rest), AV.s (Value.int IntKind.i64 (↑e.exp : Int)), AV.s (Value.string (e.asd (0 : Nat))), AV.s (Value.string (e.asd (1 : Nat))), AV.s (Value.string (e.asd (2 : Nat))), AV.s (Value.string (e.asd (3 : Nat))), AV.s (Value.string (e.asd (4 : Nat))), AV.s (Value.string (e.asd (5 : Nat))), AV.s (Value.string (e.asd (6 : Nat))), AV.s (Value.string (e.asd (7 : Nat))), AV.s (Value.string (e.asd (8 : Nat))), AV.s (Value.string (e.asd (9 : Nat))), AV.s (Value.string (e.asd (10 : Nat))), AV.s (Value.string (e.asd (11 : Nat))), AV.s (Value.string (e.asd (12 : Nat))), AV.s (Value.string (e.asd (13 : Nat))), AV.s (Value.string (e.asd (14 : Nat))), AV.s (Value.string (e.asd (15 : Nat))), AV.s (Value.string e.read), AV.s (Value.bool false)] (0 : Fz), Bk.arr (n * (3 : Nat)) (List.flatMap pcE w) (0 : Fz), Bk.dead, Bk.arr (1 : Nat) [AV.s (Value.string (pkB (1 : Nat) (0 : Nat) e.exp e0))] (0 : Fz), Bk.arr (1 : Nat) [AV.s (Value.string (pkB (1 : Nat) (0 : Nat) e.exp e0))] { n := (0 : Nat) : Fz }][i]?).getD false) = true, true = true]) (by kernel_rfl) ⟨(by exact pcs_pure _ _), rfl, rfl, (hc), rfl, h, rfl, rfl, (by exact row_pureB (fun _ => rfl) _ _ _), (bvT (by assumption)), (hk), (by exact row_ids (fun _ => rfl) _ _ _ _ _ rfl), rfl, trivial⟩) (by assumption)
def dueR (e : En) : List ByteArray := if dueL e.exp e.way = [] ∧ e.ack = true then [pkB 1 0 e.exp e0] else dueL e.exp e.way
theorem due_ok (e : En) (hl : e.way.length ≤ 1000) (hw : ∀ p ∈ e.way, PcOk p) (he : e.exp ≤ 60000) : Pu 8 [enA e] (.tup [enA { e with way := e.way.map duP, ack := false }, slS (dueR e)]) := by
  have hc := clone_ok e.way.length e.way rfl hl
  have h := du_loop e hl hw he
  have hn : e.way.length = (e.way.map duP).length := by rw [List.length_map]
  unfold dueR
  by_cases h0 : dueL e.exp e.way = []
  · rw [h0] at h
    cases ha : e.ack with
    | false => rw [if_neg (by simp), h0]; exact due_0 e _ _ hn hc h ha
    | true => rw [if_pos ⟨h0, rfl⟩]; exact due_a e _ _ hn hc h ha (ack_ok _ he)
  · rw [if_neg (fun q => h0 q.1)]
    exact due_1 e _ _ _ _ hn hc h rfl (fun q => h0 (List.eq_nil_of_length_eq_zero q))
end Go.Proofs.YtdcoomeagbjhlaaDoor.Lk
set_option linter.unusedVariables false
set_option linter.unusedSimpArgs false
set_option maxRecDepth 100000
set_option maxHeartbeats 4000000
namespace Go.Proofs.YtdcoomeagbjhlaaDoor.Lk
open Go.RowKit Go.Pm
open Go.Proofs.YtdcoomeagbjhlaaDoor.Or (G1 C1 Pu)
open Go.Proofs.YtdcoomeagbjhlaaDoor.Ca (eS slS cacheA)
noncomputable def K2 : Cx := ⟨Tryd.prog, G1, 2⟩
def numX (e : En) (m : Nat) : Pc := ⟨e.next, e.rest.extract 0 m, true⟩
def numS (e : En) (m : Nat) : En := { e with way := e.way ++ [numX e m], rest := e.rest.extract m e.rest.size, next := e.next + 1 }
noncomputable def nuB : Code := loopOf Tryd.prog 33 0
/-- the row that came in -/
def nuF (e : En) (n off : Nat) (pre : List AV) : St := ⟨mkT 62 [(0, .ptr 0 0)], [.arr 23 (enM e (.osl 1 off n 3)) 0, .arr (n * 3 + off) (pre ++ e.way.flatMap pcE) 0]⟩
/-- a new one -/
def nuN (e : En) (n : Nat) : St := ⟨mkT 62 [(0, .ptr 0 0)], [.arr 23 (enM e (.osl 2 0 n 3)) 0, .dead, .arr (n * 3) (e.way.flatMap pcE) 0]⟩
theorem ps_pure (pre : List AV) (hp : pre.all pureC = true) (l : List Pc) (n : Nat) (fz : Fz) : pureB (.arr n (pre ++ l.flatMap pcE) fz) = true := by
  show (pre ++ l.flatMap pcE).all pureC = true
  rw [List.all_append, hp, Bool.true_and]
  exact row_pureB (fun _ => rfl) l n fz
theorem nu_first (e : En) (n off m : Nat) (pre : List AV) (hn : n = e.way.length) (ho : off = pre.length) (hp : pre.all pureC = true) (hm : m = min e.most e.rest.size) (hr : ¬ e.rest = ⟨#[]⟩) (hr2 : e.rest.size ≤ 100000) (hw : n < 16) (hmo : e.most ≤ 1024) (hnx : e.next ≤ 60000) : Tri K2 nuB (nuF e n off pre) .normal (nuN (numS e m) (n + 1)) := by
  have e1 : List.drop off (pre ++ e.way.flatMap pcE) ++ pcE (numX e m) = (e.way ++ [numX e m]).flatMap pcE := by
    rw [ho, List.drop_left, row_snoc]
  have e2 : (pre ++ e.way.flatMap pcE).length = n * 3 + off := by
    rw [List.length_append, row_len (sz := 3) (fun _ => rfl)]; omega
  exact runF_ok (hs := hint [((0,5), {val := some (bl (true))}), ((0,12), {val := some (bl (true))}), ((1,9), { val := some (i64 (m : Nat)) }), ((2,14), {sym := true}), ((2,17), { sym := true, cells := some ((e.way ++ [numX e m]).flatMap pcE) }), ((3,6), {sym := true}), ((4,4), { val := some (i64 (e.next + 1 : Nat)) })]) (f := { ks := [0], l := [0, 1, 3], mx := [0] }) (ps := [bl (!e.rest.toList == { data := #[] : ByteArray }.toList) = bl (true), bl (decide ((↑n : Int) < (16 : Int))) = bl (true), i64 (if (↑e.rest.size : Int) < (↑e.most : Int) then (↑e.rest.size : Int) else (↑e.most : Int)) = i64 ((↑m : Int)), (decide ((0 : Int) ≤ (0 : Int) ∧ (0 : Int) ≤ (↑m : Int) ∧ (↑m : Int) ≤ (↑e.rest.size : Int) ∧ (↑e.rest.size : Int) ≤ (↑e.rest.size : Int)) && true) = true, decide (n * (3 : Nat) + off = n * (3 : Nat) + off ∧ (0 : Nat) ≤ n * (3 : Nat) + off ∧ n * (3 : Nat) + off = (pre ++ List.flatMap pcE e.way).length) = true, decide ((n + (1 : Nat)) * (32 : Nat) ≤ (140737488355328 : Nat)) = true, true = true, ((List.drop off (pre ++ List.flatMap pcE e.way) ++ [AV.s (Value.int IntKind.i64 (↑e.next : Int)), AV.s (Value.string (e.rest.extract (0 : Nat) (↑m : Int).toNat)), AV.s (Value.bool true)]) : List AV) = (List.flatMap pcE (e.way ++ [numX e m])), (decide ((0 : Int) ≤ (↑m : Int) ∧ (↑m : Int) ≤ (↑e.rest.size : Int) ∧ (↑e.rest.size : Int) ≤ (↑e.rest.size : Int) ∧ (↑e.rest.size : Int) ≤ (↑e.rest.size : Int)) && true) = true, i64 (IntKind.i64.wrap ((↑e.next : Int) + (1 : Int))) = i64 ((↑(e.next + (1 : Nat)) : Int)), true = true, pureB (Bk.arr ((n + (1 : Nat)) * (3 : Nat)) (List.flatMap pcE (e.way ++ [numX e m])) (0 : Fz)) = true]) (by kernel_rfl) ⟨(bnF (bsF (by assumption))), (bdT (by omega)), (by exact intE (by omega)), (by (simp; omega)), (by (first | exact e1 | exact decide_t (by omega) | exact decide_t ⟨rfl, by omega, e2.symm⟩)), (by (first | exact e1 | exact decide_t (by omega) | exact decide_t ⟨rfl, by omega, e2.symm⟩)), rfl, (by (first | exact e1 | exact decide_t (by omega) | exact decide_t ⟨rfl, by omega, e2.symm⟩)), (by (simp; omega)), (by exact intE (by rw [wrap_i64 (by omega) (by omega)]; omega)), rfl, (by exact row_pureB (fun _ => rfl) _ _ _), trivial⟩
theorem nu_next (e : En) (n m : Nat) (hn : n = e.way.length) (hm : m = min e.most e.rest.size) (hr : ¬ e.rest = ⟨#[]⟩) (hr2 : e.rest.size ≤ 100000) (hw : n < 16) (hmo : e.most ≤ 1024) (hnx : e.next ≤ 60000) : Tri K2 nuB (nuN e n) .normal (nuN (numS e m) (n + 1)) := by
  have e1 : e.way.flatMap pcE ++ pcE (numX e m) = (e.way ++ [numX e m]).flatMap pcE := (row_snoc _ _).symm
  have e2 : (e.way.flatMap pcE).length = n * 3 := by
    rw [row_len (sz := 3) (fun _ => rfl)]; omega
  exact runF_ok (hs := hint [((0,5), {val := some (bl (true))}), ((0,12), {val := some (bl (true))}), ((1,9), { val := some (i64 (m : Nat)) }), ((2,14), {sym := true}), ((2,17), { sym := true, cells := some ((e.way ++ [numX e m]).flatMap pcE) }), ((3,6), {sym := true}), ((4,4), { val := some (i64 (e.next + 1 : Nat)) })]) (f := { ks := [0], l := [0, 1, 4], mx := [0] }) (ps := [bl (!e.rest.toList == { data := #[] : ByteArray }.toList) = bl (true), bl (decide ((↑n : Int) < (16 : Int))) = bl (true), i64 (if (↑e.rest.size : Int) < (↑e.most : Int) then (↑e.rest.size : Int) else (↑e.most : Int)) = i64 ((↑m : Int)), (decide ((0 : Int) ≤ (0 : Int) ∧ (0 : Int) ≤ (↑m : Int) ∧ (↑m : Int) ≤ (↑e.rest.size : Int) ∧ (↑e.rest.size : Int) ≤ (↑e.rest.size : Int)) && true) = true, decide (n * (3 : Nat) = n * (3 : Nat) + (0 : Nat) ∧ (0 : Nat) ≤ n * (3 : Nat) ∧ n * (3 : Nat) = (List.flatMap pcE e.way).length) = true, decide ((n + (1 : Nat)) * (32 : Nat) ≤ (140737488355328 : Nat)) = true, true = true, ((List.drop (0 : Nat) (List.flatMap pcE e.way) ++ [AV.s (Value.int IntKind.i64 (↑e.next : Int)), AV.s (Value.string (e.rest.extract (0 : Nat) (↑m : Int).toNat)), AV.s (Value.bool true)]) : List AV) = (List.flatMap pcE (e.way ++ [numX e m])), (decide ((0 : Int) ≤ (↑m : Int) ∧ (↑m : Int) ≤ (↑e.rest.size : Int) ∧ (↑e.rest.size : Int) ≤ (↑e.rest.size : Int) ∧ (↑e.rest.size : Int) ≤ (↑e.rest.size : Int)) && true) = true, i64 (IntKind.i64.wrap ((↑e.next : Int) + (1 : Int))) = i64 ((↑(e.next + (1 : Nat)) : Int)), true = true, pureB (Bk.arr ((n + (1 : Nat)) * (3 : Nat)) (List.flatMap pcE (e.way ++ [numX e m])) (0 : Fz)) = true]) (by kernel_rfl) ⟨(bnF (bsF (by assumption))), (bdT (by omega)), (by exact intE (by omega)), (by (simp; omega)), (by (first | exact e1 | exact decide_t (by omega) | exact decide_t ⟨rfl, by omega, e2.symm⟩)), (by (first | exact e1 | exact decide_t (by omega) | exact decide_t ⟨rfl, by omega, e2.symm⟩)), rfl, (by (first | exact e1 | exact decide_t (by omega) | exact decide_t ⟨rfl, by omega, e2.symm⟩)), (by (simp; omega)), (by exact intE (by rw [wrap_i64 (by omega) (by omega)]; omega)), rfl, (by exact row_pureB (fun _ => rfl) _ _ _), trivial⟩
theorem nu_endF (e : En) (n off : Nat) (pre : List AV) (hp : pre.all pureC = true) (h : e.rest = ⟨#[]⟩ ∨ ¬ n < 16) : LoopT K2 nuB (nuF e n off pre) (.exit 0) (nuF e n off pre) := by
  rcases h with h | h
  · exact LoopT.fin (hs := hint [((0,5), {val := some (bl (false))})]) (f := { ks := [0], l := [0, 1], mx := [0] }) (ps := [bl (!e.rest.toList == { data := #[] : ByteArray }.toList) = bl (false), true = true, pureB (Bk.arr (n * (3 : Nat) + off) (pre ++ List.flatMap pcE e.way) (0 : Fz)) = true]) (by kernel_rfl) ⟨(bnT (bsT (by assumption))), rfl, (by exact ps_pure _ hp _ _ _), trivial⟩ (by decide)
  · by_cases h1 : e.rest = { data := #[] : ByteArray }
    · exact LoopT.fin (hs := hint [((0,5), {val := some (bl (false))})]) (f := { ks := [0], l := [0, 1], mx := [0] }) (ps := [bl (!e.rest.toList == { data := #[] : ByteArray }.toList) = bl (false), true = true, pureB (Bk.arr (n * (3 : Nat) + off) (pre ++ List.flatMap pcE e.way) (0 : Fz)) = true]) (by kernel_rfl) ⟨(bnT (bsT h1)), rfl, (by exact ps_pure _ hp _ _ _), trivial⟩ (by decide)
    · exact LoopT.fin (hs := hint [((0,5), {val := some (bl (true))}), ((0,12), {val := some (bl (false))})]) (f := { ks := [0], l := [0, 1], mx := [0] }) (ps := [bl (!e.rest.toList == { data := #[] : ByteArray }.toList) = bl (true), bl (decide ((↑n : Int) < (16 : Int))) = bl (false), true = true, pureB (Bk.arr (n * (3 : Nat) + off) (pre ++ List.flatMap pcE e.way) (0 : Fz)) = true]) (by kernel_rfl) ⟨(bnF (bsF h1)), (bdF (by omega)), rfl, (by exact ps_pure _ hp _ _ _), trivial⟩ (by decide)
theorem nu_endN (e : En) (n : Nat) (h : e.rest = ⟨#[]⟩ ∨ ¬ n < 16) : LoopT K2 nuB (nuN e n) (.exit 0) (nuN e n) := by
  rcases h with h | h
  · exact LoopT.fin (hs := hint [((0,5), {val := some (bl (false))})]) (f := { ks := [0], l := [0, 1, 2], mx := [0] }) (ps := [bl (!e.rest.toList == { data := #[] : ByteArray }.toList) = bl (false), true = true, pureB (Bk.arr (n * (3 : Nat)) (List.flatMap pcE e.way) (0 : Fz)) = true]) (by kernel_rfl) ⟨(bnT (bsT (by assumption))), rfl, (by exact row_pureB (fun _ => rfl) _ _ _), trivial⟩ (by decide)
  · by_cases h1 : e.rest = { data := #[] : ByteArray }
    · exact LoopT.fin (hs := hint [((0,5), {val := some (bl (false))})]) (f := { ks := [0], l := [0, 1, 2], mx := [0] }) (ps := [bl (!e.rest.toList == { data := #[] : ByteArray }.toList) = bl (false), true = true, pureB (Bk.arr (n * (3 : Nat)) (List.flatMap pcE e.way) (0 : Fz)) = true]) (by kernel_rfl) ⟨(bnT (bsT h1)), rfl, (by exact row_pureB (fun _ => rfl) _ _ _), trivial⟩ (by decide)
    · exact LoopT.fin (hs := hint [((0,5), {val := some (bl (true))}), ((0,12), {val := some (bl (false))})]) (f := { ks := [0], l := [0, 1, 2], mx := [0] }) (ps := [bl (!e.rest.toList == { data := #[] : ByteArray }.toList) = bl (true), bl (decide ((↑n : Int) < (16 : Int))) = bl (false), true = true, pureB (Bk.arr (n * (3 : Nat)) (List.flatMap pcE e.way) (0 : Fz)) = true]) (by kernel_rfl) ⟨(bnF (bsF h1)), (bdF (by omega)), rfl, (by exact row_pureB (fun _ => rfl) _ _ _), trivial⟩ (by decide)
end Go.Proofs.YtdcoomeagbjhlaaDoor.Lk
set_option linter.unusedVariables false
set_option linter.unusedSimpArgs false
set_option maxRecDepth 100000
set_option maxHeartbeats 4000000
namespace Go.Proofs.YtdcoomeagbjhlaaDoor.Lk
open Go.RowKit Go.Pm
open Go.Proofs.YtdcoomeagbjhlaaDoor.Or (G1 C1 Pu)
open Go.Proofs.YtdcoomeagbjhlaaDoor.Ca (eS slS cacheA)
theorem osl_eq {i a b n m k : Nat} (h1 : a = b) (h2 : n = m) : AV.osl i a n k = AV.osl i b m k := by subst h1 h2; rfl
noncomputable def akB : Code := loopOf Tryd.prog 35 2
def akS (e : En) (told n k : Nat) (l : List Pc) : St := ⟨mkT 32 [(0, .ptr 0 0), (1, i64 (told : Nat)), (4, i64 (k : Nat)), (10, .osl 1 0 n 3), (11, i64 (n : Nat)), (12, i64 (k : Nat))], [.arr 23 (enM e (.osl 1 0 n 3)) 0, .arr (n * 3) (l.flatMap pcE) 0]⟩
def akE (e : En) (n k : Nat) (l : List Pc) : St := ⟨mkT 32 [(0, .ptr 0 0), (4, i64 (k : Nat))], [.arr 23 (enM e (.osl 1 0 n 3)) 0, .arr (n * 3) (l.flatMap pcE) 0]⟩
theorem ak_step (e : En) (told n k : Nat) (l : List Pc) (hn : n = l.length) (hl : n ≤ 1000) (hk : k < n) (h : (nth l k).n < told) (ht : told ≤ 100000) : Tri K2 akB (akS e told n k l) .normal (akS e told n (k + 1) l) := by
  have e1 : List.take 3 (List.drop (0 + k * 3) (l.flatMap pcE)) = pcE (nth l k) := by rw [row_at (sz := 3) pcE_len l k (0 + k * 3) 0 3 (by omega) (by omega) (by decide)]; rfl
  exact runF_ok (hs := hint [((2,0), {val := some (bl (true))}), ((3,0), {sym := true}), ((3,1), { sym := true, cells := some (pcE (nth l k)) }), ((4,3), {val := some (bl (false))}), ((5,1), {val := some (i64 ((↑k : Int) + (1 : Int)))}), ((6,0), {val := some (i64 ((↑k : Int) + (1 : Int)))})]) (f := { ks := [0, 1, 4, 10, 11, 12], l := [0, 1], mx := [0] }) (ps := [bl (decide ((↑k : Int) < (↑n : Int))) = bl (true), decide ((0 : Int) ≤ (↑k : Int) ∧ (↑k : Int) < (↑n : Int)) = true, ((List.take (3 : Nat) (List.drop ((0 : Nat) + (↑k : Int).toNat * (3 : Nat)) (List.flatMap pcE l))) : List AV) = [i64 ((↑(nth l k).n : Int)), st ((nth l k).b), bl ((nth l k).d)], bl (decide ((↑(nth l k).n : Int) ≥ (↑told : Int))) = bl (false), i64 (IntKind.i64.wrap ((↑k : Int) + (1 : Int))) = i64 ((↑k : Int) + (1 : Int)), i64 (IntKind.i64.wrap ((↑k : Int) + (1 : Int))) = i64 ((↑k : Int) + (1 : Int)), true = true, pureB (Bk.arr (n * (3 : Nat)) (List.flatMap pcE l) (0 : Fz)) = true]) (by kernel_rfl) ⟨(bdT (by omega)), (by exact decide_t (by omega)), (by (first | exact e1 | exact decide_t (by omega))), (bdF (by omega)), (intE (by exact wrap_i64 (by omega) (by omega))), (intE (by exact wrap_i64 (by omega) (by omega))), rfl, (by exact row_pureB (fun _ => rfl) _ _ _), trivial⟩
theorem ak_stop (e : En) (told n k : Nat) (l : List Pc) (hn : n = l.length) (hl : n ≤ 1000) (hk : k < n) (h : ¬ (nth l k).n < told) (ht : told ≤ 100000) : LoopT K2 akB (akS e told n k l) (.exit 0) (akE e n k l) := by
  have e1 : List.take 3 (List.drop (0 + k * 3) (l.flatMap pcE)) = pcE (nth l k) := by rw [row_at (sz := 3) pcE_len l k (0 + k * 3) 0 3 (by omega) (by omega) (by decide)]; rfl
  exact LoopT.fin (hs := hint [((2,0), {val := some (bl (true))}), ((3,0), {sym := true}), ((3,1), { sym := true, cells := some (pcE (nth l k)) }), ((4,3), {val := some (bl (true))})]) (f := { ks := [0, 4], l := [0, 1], mx := [0] }) (ps := [bl (decide ((↑k : Int) < (↑n : Int))) = bl (true), decide ((0 : Int) ≤ (↑k : Int) ∧ (↑k : Int) < (↑n : Int)) = true, ((List.take (3 : Nat) (List.drop ((0 : Nat) + (↑k : Int).toNat * (3 : Nat)) (List.flatMap pcE l))) : List AV) = [i64 ((↑(nth l k).n : Int)), st ((nth l k).b), bl ((nth l k).d)], bl (decide ((↑(nth l k).n : Int) ≥ (↑told : Int))) = bl (true), true = true, pureB (Bk.arr (n * (3 : Nat)) (List.flatMap pcE l) (0 : Fz)) = true]) (by kernel_rfl) ⟨(bdT (by omega)), (by exact decide_t (by omega)), (by (first | exact e1 | exact decide_t (by omega))), (bdT (by omega)), rfl, (by exact row_pureB (fun _ => rfl) _ _ _), trivial⟩ (by decide)
theorem ak_end (e : En) (told n : Nat) (l : List Pc) : LoopT K2 akB (akS e told n n l) (.exit 0) (akE e n n l) := by
  exact LoopT.fin (hs := hint [((2,0), {val := some (bl (false))})]) (f := { ks := [0, 4], l := [0, 1], mx := [0] }) (ps := [bl (decide ((↑n : Int) < (↑n : Int))) = bl (false), true = true, pureB (Bk.arr (n * (3 : Nat)) (List.flatMap pcE l) (0 : Fz)) = true]) (by kernel_rfl) ⟨(bdF (by omega)), rfl, (by exact row_pureB (fun _ => rfl) _ _ _), trivial⟩ (by decide)
/-- how many of the first ones are below -/
def goneN (told : Nat) : List Pc → Nat
  | [] => 0
  | p :: l => if p.n < told then goneN told l + 1 else 0
theorem gone_le (told : Nat) : ∀ l : List Pc, goneN told l ≤ l.length
  | [] => Nat.le_refl _
  | p :: l => by
    unfold goneN
    have := gone_le told l
    rw [List.length_cons]
    split <;> omega
theorem gone_at (told : Nat) : ∀ l : List Pc, (∀ k, k < goneN told l → (nth l k).n < told) ∧ (goneN told l < l.length → ¬ (nth l (goneN told l)).n < told)
  | [] => ⟨fun k hk => absurd hk (by simp [goneN]), fun h => absurd h (by simp)⟩
  | p :: l => by
    obtain ⟨h1, h2⟩ := gone_at told l
    unfold goneN
    by_cases h : p.n < told
    · rw [if_pos h]
      refine ⟨fun k hk => ?_, fun hk => ?_⟩
      · cases k with
        | zero => exact h
        | succ k => exact h1 k (by omega)
      · rw [List.length_cons] at hk
        exact h2 (by omega)
    · rw [if_neg h]
      exact ⟨fun k hk => absurd hk (by omega), fun _ => h⟩
theorem ak_loop (e : En) (told : Nat) (l : List Pc) (hl : l.length ≤ 1000) (ht : told ≤ 100000) : LoopT K2 akB (akS e told l.length 0 l) (.exit 0) (akE e l.length (goneN told l) l) := by
  obtain ⟨h1, h2⟩ := gone_at told l
  have h3 := gone_le told l
  refine LoopT.count (fun k => akS e told l.length k l) (goneN told l) (fun k hk => ak_step e told l.length k l rfl hl (by omega) (h1 k hk) ht) ?_ 0 (Nat.zero_le _)
  by_cases h : goneN told l < l.length
  · exact ak_stop e told l.length _ l rfl hl h (h2 h) ht
  · have : goneN told l = l.length := by omega
    rw [this]
    exact ak_end e told l.length l
theorem ack_call (e : En) (told n g : Nat) (l : List Pc) (hn : n = l.length) (hl : n ≤ 1000) (hg : g ≤ n) (h : LoopT K2 akB (akS e told n 0 l) (.exit 0) (akE e n g l)) : CallH Tryd.prog G1 35 [.ptr 0 0, i64 (told : Nat)] [.arr 23 (enM e (.osl 1 0 n 3)) 0, .arr (n * 3) (l.flatMap pcE) 0] (.tup []) [.arr 23 (enM e (.osl 1 (g * 3) (n - g) 3)) 0, .arr (n * 3) (l.flatMap pcE) 0] := by
  exact (fnRun_ok (hs := hint [((2,1000), {loop := some ({ ks := [0, 1, 4, 10, 11, 12], l := [0, 1], mx := [0] }, akS e told n (0 : Nat) l, Ex.exit (0 : Nat), akE e n g l)}), ((7,6), { sym := true, val := some (.osl 1 (g * 3) (n - g) 3) })]) (ps := [akS e told n (0 : Nat) l = akS e told n (0 : Nat) l, _, true = true, pureB (Bk.arr (n * (3 : Nat)) (List.flatMap pcE l) (0 : Fz)) = true, (decide ((0 : Int) ≤ (↑g : Int) ∧ (↑g : Int) ≤ (↑n : Int) ∧ (↑n : Int) ≤ (↑n : Int) ∧ (↑n : Int) ≤ (↑n : Int)) && true) = true, (AV.osl (1 : Nat) ((0 : Nat) + (↑g : Int).toNat * (3 : Nat)) ((↑n : Int) - (↑g : Int)).toNat (3 : Nat)) = (AV.osl (1 : Nat) (g * (3 : Nat)) (n - g) (3 : Nat))]) (by kernel_rfl) ⟨rfl, h, rfl, (by exact row_pureB (fun _ => rfl) _ _ _), (by (first | exact osl_eq (by omega) (by omega) | exact decide_t (by omega) | (simp; omega))), (by (first | exact osl_eq (by omega) (by omega) | exact decide_t (by omega) | (simp; omega))), trivial⟩).1
end Go.Proofs.YtdcoomeagbjhlaaDoor.Lk
set_option linter.unusedVariables false
set_option linter.unusedSimpArgs false
set_option maxRecDepth 100000
set_option maxHeartbeats 4000000
namespace Go.Proofs.YtdcoomeagbjhlaaDoor.Lk
open Go.RowKit Go.Pm
open Go.Proofs.YtdcoomeagbjhlaaDoor.Or (G1 C1 Pu)
open Go.Proofs.YtdcoomeagbjhlaaDoor.Ca (eS slS cacheA)
theorem asd_at (e : En) (w : AV) (j x : Nat) (hx : x = 5 + j) (hj : j < 16) : List.take 1 (List.drop x (enM e w)) = [st (e.asd j)] := by
  subst hx
  match j, hj with
  | 0, _ => rfl
  | 1, _ => rfl
  | 2, _ => rfl
  | 3, _ => rfl
  | 4, _ => rfl
  | 5, _ => rfl
  | 6, _ => rfl
  | 7, _ => rfl
  | 8, _ => rfl
  | 9, _ => rfl
  | 10, _ => rfl
  | 11, _ => rfl
  | 12, _ => rfl
  | 13, _ => rfl
  | 14, _ => rfl
  | 15, _ => rfl
  | k + 16, h => omega
def putA (e : En) (j : Nat) (b : ByteArray) : En := { e with asd := fun i => if i = j then b else e.asd i }
theorem asd_put (e : En) (w : AV) (b : ByteArray) (j x : Nat) (hx : x = 5 + j) (hj : j < 16) : splice (enM e w) x [st b] = enM (putA e j b) w := by
  subst hx
  match j, hj with
  | 0, _ => rfl
  | 1, _ => rfl
  | 2, _ => rfl
  | 3, _ => rfl
  | 4, _ => rfl
  | 5, _ => rfl
  | 6, _ => rfl
  | 7, _ => rfl
  | 8, _ => rfl
  | 9, _ => rfl
  | 10, _ => rfl
  | 11, _ => rfl
  | 12, _ => rfl
  | 13, _ => rfl
  | 14, _ => rfl
  | 15, _ => rfl
  | k + 16, h => omega
def shiftA (e : En) : En := { e with read := e.read ++ e.asd 0, asd := fun i => if i = 15 then e0 else e.asd (i + 1), exp := e.exp + 1 }
noncomputable def taB : Code := loopOf Tryd.prog 36 5
def taS (e : En) (n off L : Nat) (cs : List AV) : St := ⟨mkT 71 [(0, .ptr 0 0)], [.arr 23 (enM e (.osl 1 off n 3)) 0, .arr L cs 0]⟩
theorem ta_step (e : En) (n off L : Nat) (cs : List AV) (hp : pureB (.arr L cs 0) = true) (h : ¬ e.asd 0 = ⟨#[]⟩) (hs : e.read.size + (e.asd 0).size ≤ 1000000) (hx : e.exp ≤ 60000) : Tri K2 taB (taS e n off L cs) .normal (taS (shiftA e) n off L cs) := by
  exact runF_ok (hs := hint [((5,5), {val := some (bl (true))}), ((6,9), {sym := true}), ((9,4), { val := some (i64 (e.exp + 1 : Nat)) })]) (f := { ks := [0], l := [0, 1], mx := [0] }) (ps := [bl (!(e.asd (0 : Nat)).toList == { data := #[] : ByteArray }.toList) = bl (true), decide (e.read.size + (e.asd (0 : Nat)).size ≤ (9223372036854775807 : Nat)) = true, i64 (IntKind.i64.wrap ((↑e.exp : Int) + (1 : Int))) = i64 ((↑(e.exp + (1 : Nat)) : Int)), true = true, pureB (Bk.arr L cs (0 : Fz)) = true]) (by kernel_rfl) ⟨(bnF (bsF (by assumption))), (by exact decide_t (by omega)), (by exact intE (by rw [wrap_i64 (by omega) (by omega)]; omega)), rfl, (by assumption), trivial⟩
theorem ta_end (e : En) (n off L : Nat) (cs : List AV) (hp : pureB (.arr L cs 0) = true) (h : e.asd 0 = ⟨#[]⟩) : LoopT K2 taB (taS e n off L cs) (.exit 0) (taS e n off L cs) := by
  exact LoopT.fin (hs := hint [((5,5), {val := some (bl (false))})]) (f := { ks := [0], l := [0, 1], mx := [0] }) (ps := [bl (!(e.asd (0 : Nat)).toList == { data := #[] : ByteArray }.toList) = bl (false), true = true, pureB (Bk.arr L cs (0 : Fz)) = true]) (by kernel_rfl) ⟨(bnT (bsT (by assumption))), rfl, (by assumption), trivial⟩ (by decide)
theorem take_old (e : En) (n off L k : Nat) (cs : List AV) (b : ByteArray) (hk : k < e.exp) (hk2 : e.exp ≤ 60000) : CallH Tryd.prog G1 36 [.ptr 0 0, i64 (k : Nat), st b] [.arr 23 (enM e (.osl 1 off n 3)) 0, .arr L cs 0] (.tup []) [.arr 23 (enM { e with ack := true } (.osl 1 off n 3)) 0, .arr L cs 0] := by
  exact (fnRun_ok (hs := hint [((1,5), {val := some (bl (true))})]) (ps := [bl (decide ((↑k : Int) < (↑e.exp : Int))) = bl (true)]) (by kernel_rfl) ⟨(bdT (by omega)), trivial⟩).1
theorem take_has (e : En) (n off L k j : Nat) (cs : List AV) (b : ByteArray) (hk : k = e.exp + j) (hj : j < 16) (hk2 : e.exp ≤ 60000) (h : ¬ e.asd j = ⟨#[]⟩) : CallH Tryd.prog G1 36 [.ptr 0 0, i64 (k : Nat), st b] [.arr 23 (enM e (.osl 1 off n 3)) 0, .arr L cs 0] (.tup []) [.arr 23 (enM { e with ack := true } (.osl 1 off n 3)) 0, .arr L cs 0] := by
  have e1 := asd_at { e with ack := true } (.osl 1 off n 3) j (0 + 5 + j * 1) (by omega) hj
  exact (fnRun_ok (hs := hint [((1,5), {val := some (bl (false))}), ((2,6), { val := some (i64 (j : Nat)) }), ((2,9), {sym := true}), ((3,2), { sym := true, cells := some [st (e.asd j)] }), ((3,3), {val := some (bl (true))})]) (ps := [bl (decide ((↑k : Int) < (↑e.exp : Int))) = bl (false), i64 (IntKind.i64.wrap ((↑k : Int) - (↑e.exp : Int))) = i64 ((↑j : Int)), decide ((0 : Int) ≤ (↑j : Int) ∧ (↑j : Int) < (16 : Int)) = true, ((List.take (1 : Nat) (List.drop ((5 : Nat) + (↑j : Int).toNat * (1 : Nat)) [AV.s (Value.int IntKind.i64 (↑e.most : Int)), AV.osl (1 : Nat) off n (3 : Nat), AV.s (Value.int IntKind.i64 (↑e.next : Int)), AV.s (Value.string e.rest), AV.s (Value.int IntKind.i64 (↑e.exp : Int)), AV.s (Value.string (e.asd (0 : Nat))), AV.s (Value.string (e.asd (1 : Nat))), AV.s (Value.string (e.asd (2 : Nat))), AV.s (Value.string (e.asd (3 : Nat))), AV.s (Value.string (e.asd (4 : Nat))), AV.s (Value.string (e.asd (5 : Nat))), AV.s (Value.string (e.asd (6 : Nat))), AV.s (Value.string (e.asd (7 : Nat))), AV.s (Value.string (e.asd (8 : Nat))), AV.s (Value.string (e.asd (9 : Nat))), AV.s (Value.string (e.asd (10 : Nat))), AV.s (Value.string (e.asd (11 : Nat))), AV.s (Value.string (e.asd (12 : Nat))), AV.s (Value.string (e.asd (13 : Nat))), AV.s (Value.string (e.asd (14 : Nat))), AV.s (Value.string (e.asd (15 : Nat))), AV.s (Value.string e.read), AV.s (Value.bool true)])) : List AV) = [st (e.asd j)], bl (!(e.asd j).toList == { data := #[] : ByteArray }.toList) = bl (true)]) (by kernel_rfl) ⟨(bdF (by omega)), (by exact intE (by rw [wrap_i64 (by omega) (by omega)]; omega)), (by exact decide_t (by omega)), (by (first | exact e1 | exact asd_at { e with ack := true } _ j _ (by omega) hj | exact decide_t (by omega))), (bnF (bsF (by assumption))), trivial⟩).1
theorem take_new (e e' : En) (n off L k j : Nat) (cs : List AV) (hp : pureB (.arr L cs 0) = true) (b : ByteArray) (hk : k = e.exp + j) (hj : j < 16) (hk2 : e.exp ≤ 60000) (h : e.asd j = ⟨#[]⟩) (Lp : LoopT K2 taB (taS (putA { e with ack := true } j b) n off L cs) (.exit 0) (taS e' n off L cs)) : CallH Tryd.prog G1 36 [.ptr 0 0, i64 (k : Nat), st b] [.arr 23 (enM e (.osl 1 off n 3)) 0, .arr L cs 0] (.tup []) [.arr 23 (enM e' (.osl 1 off n 3)) 0, .arr L cs 0] := by
  exact (fnRun_ok (hs := hint [((1,5), {val := some (bl (false))}), ((2,6), { val := some (i64 (j : Nat)) }), ((2,9), {sym := true}), ((3,2), { sym := true, cells := some [st (e.asd j)] }), ((3,3), {val := some (bl (false))}), ((4,3), { sym := true, cells := some (enM (putA { e with ack := true } j b) (.osl 1 off n 3)) }), ((5,1000), {loop := some ({ ks := [0], l := [0, 1], mx := [0] }, taS (putA { most := e.most, way := e.way, next := e.next, rest := e.rest, exp := e.exp, asd := e.asd, read := e.read, ack := true : En } j b) n off L cs, Ex.exit (0 : Nat), taS e' n off L cs)})]) (ps := [bl (decide ((↑k : Int) < (↑e.exp : Int))) = bl (false), i64 (IntKind.i64.wrap ((↑k : Int) - (↑e.exp : Int))) = i64 ((↑j : Int)), decide ((0 : Int) ≤ (↑j : Int) ∧ (↑j : Int) < (16 : Int)) = true, ((List.take (1 : Nat) (List.drop ((5 : Nat) + (↑j : Int).toNat * (1 : Nat)) [AV.s (Value.int IntKind.i64 (↑e.most : Int)), AV.osl (1 : Nat) off n (3 : Nat), AV.s (Value.int IntKind.i64 (↑e.next : Int)), AV.s (Value.string e.rest), AV.s (Value.int IntKind.i64 (↑e.exp : Int)), AV.s (Value.string (e.asd (0 : Nat))), AV.s (Value.string (e.asd (1 : Nat))), AV.s (Value.string (e.asd (2 : Nat))), AV.s (Value.string (e.asd (3 : Nat))), AV.s (Value.string (e.asd (4 : Nat))), AV.s (Value.string (e.asd (5 : Nat))), AV.s (Value.string (e.asd (6 : Nat))), AV.s (Value.string (e.asd (7 : Nat))), AV.s (Value.string (e.asd (8 : Nat))), AV.s (Value.string (e.asd (9 : Nat))), AV.s (Value.string (e.asd (10 : Nat))), AV.s (Value.string (e.asd (11 : Nat))), AV.s (Value.string (e.asd (12 : Nat))), AV.s (Value.string (e.asd (13 : Nat))), AV.s (Value.string (e.asd (14 : Nat))), AV.s (Value.string (e.asd (15 : Nat))), AV.s (Value.string e.read), AV.s (Value.bool true)])) : List AV) = [st (e.asd j)], bl (!(e.asd j).toList == { data := #[] : ByteArray }.toList) = bl (false), decide ((5 : Nat) + (↑j : Int).toNat * (1 : Nat) + (1 : Nat) ≤ (23 : Nat)) = true, decide ((0 : Nat) ≤ (5 : Nat) + (↑j : Int).toNat * (1 : Nat)) = true, ((splice [AV.s (Value.int IntKind.i64 (↑e.most : Int)), AV.osl (1 : Nat) off n (3 : Nat), AV.s (Value.int IntKind.i64 (↑e.next : Int)), AV.s (Value.string e.rest), AV.s (Value.int IntKind.i64 (↑e.exp : Int)), AV.s (Value.string (e.asd (0 : Nat))), AV.s (Value.string (e.asd (1 : Nat))), AV.s (Value.string (e.asd (2 : Nat))), AV.s (Value.string (e.asd (3 : Nat))), AV.s (Value.string (e.asd (4 : Nat))), AV.s (Value.string (e.asd (5 : Nat))), AV.s (Value.string (e.asd (6 : Nat))), AV.s (Value.string (e.asd (7 : Nat))), AV.s (Value.string (e.asd (8 : Nat))), AV.s (Value.string (e.asd (9 : Nat))), AV.s (Value.string (e.asd (10 : Nat))), AV.s (Value.string (e.asd (11 : Nat))), AV.s (Value.string (e.asd (12 : Nat))), AV.s (Value.string (e.asd (13 : Nat))), AV.s (Value.string (e.asd (14 : Nat))), AV.s (Value.string (e.asd (15 : Nat))), AV.s (Value.string e.read), AV.s (Value.bool true)] ((5 : Nat) + (↑j : Int).toNat * (1 : Nat)) [AV.s (Value.string b)]) : List AV) = [i64 ((↑(putA { most := e.most, way := e.way, next := e.next, rest := e.rest, exp := e.exp, asd := e.asd, read := e.read, ack := true : En } j b).most : Int)), (AV.osl (1 : Nat) off n (3 : Nat)), i64 ((↑(putA { most := e.most, way := e.way, next := e.next, rest := e.rest, exp := e.exp, asd := e.asd, read := e.read, ack := true : En } j b).next : Int)), st ((putA { most := e.most, way := e.way, next := e.next, rest := e.rest, exp := e.exp, asd := e.asd, read := e.read, ack := true : En } j b).rest), i64 ((↑(putA { most := e.most, way := e.way, next := e.next, rest := e.rest, exp := e.exp, asd := e.asd, read := e.read, ack := true : En } j b).exp : Int)), st ((putA { most := e.most, way := e.way, next := e.next, rest := e.rest, exp := e.exp, asd := e.asd, read := e.read, ack := true : En } j b).asd (0 : Nat)), st ((putA { most := e.most, way := e.way, next := e.next, rest := e.rest, exp := e.exp, asd := e.asd, read := e.read, ack := true : En } j b).asd (1 : Nat)), st ((putA { most := e.most, way := e.way, next := e.next, rest := e.rest, exp := e.exp, asd := e.asd, read := e.read, ack := true : En } j b).asd (2 : Nat)), st ((putA { most := e.most, way := e.way, next := e.next, rest := e.rest, exp := e.exp, asd := e.asd, read := e.read, ack := true : En } j b).asd (3 : Nat)), st ((putA { most := e.most, way := e.way, next := e.next, rest := e.rest, exp := e.exp, asd := e.asd, read := e.read, ack := true : En } j b).asd (4 : Nat)), st ((putA { most := e.most, way := e.way, next := e.next, rest := e.rest, exp := e.exp, asd := e.asd, read := e.read, ack := true : En } j b).asd (5 : Nat)), st ((putA { most := e.most, way := e.way, next := e.next, rest := e.rest, exp := e.exp, asd := e.asd, read := e.read, ack := true : En } j b).asd (6 : Nat)), st ((putA { most := e.most, way := e.way, next := e.next, rest := e.rest, exp := e.exp, asd := e.asd, read := e.read, ack := true : En } j b).asd (7 : Nat)), st ((putA { most := e.most, way := e.way, next := e.next, rest := e.rest, exp := e.exp, asd := e.asd, read := e.read, ack := true : En } j b).asd (8 : Nat)), st ((putA { most := e.most, way := e.way, next := e.next, rest := e.rest, exp := e.exp, asd := e.asd, read := e.read, ack := true : En } j b).asd (9 : Nat)), st ((putA { most := e.most, way := e.way, next := e.next, rest := e.rest, exp := e.exp, asd := e.asd, read := e.read, ack := true : En } j b).asd (10 : Nat)), st ((putA { most := e.most, way := e.way, next := e.next, rest := e.rest, exp := e.exp, asd := e.asd, read := e.read, ack := true : En } j b).asd (11 : Nat)), st ((putA { most := e.most, way := e.way, next := e.next, rest := e.rest, exp := e.exp, asd := e.asd, read := e.read, ack := true : En } j b).asd (12 : Nat)), st ((putA { most := e.most, way := e.way, next := e.next, rest := e.rest, exp := e.exp, asd := e.asd, read := e.read, ack := true : En } j b).asd (13 : Nat)), st ((putA { most := e.most, way := e.way, next := e.next, rest := e.rest, exp := e.exp, asd := e.asd, read := e.read, ack := true : En } j b).asd (14 : Nat)), st ((putA { most := e.most, way := e.way, next := e.next, rest := e.rest, exp := e.exp, asd := e.asd, read := e.read, ack := true : En } j b).asd (15 : Nat)), st ((putA { most := e.most, way := e.way, next := e.next, rest := e.rest, exp := e.exp, asd := e.asd, read := e.read, ack := true : En } j b).read), bl (true)], taS (putA { most := e.most, way := e.way, next := e.next, rest := e.rest, exp := e.exp, asd := e.asd, read := e.read, ack := true : En } j b) n off L cs = taS (putA { most := e.most, way := e.way, next := e.next, rest := e.rest, exp := e.exp, asd := e.asd, read := e.read, ack := true : En } j b) n off L cs, _, true = true, pureB (Bk.arr L cs (0 : Fz)) = true]) (by kernel_rfl) ⟨(bdF (by omega)), (by exact intE (by rw [wrap_i64 (by omega) (by omega)]; omega)), (by exact decide_t (by omega)), (by (first | exact asd_at { e with ack := true } _ j _ (by omega) hj | exact decide_t (by omega))), (bnT (bsT (by assumption))), (by (first | exact asd_put { e with ack := true } _ b j _ (by omega) hj | exact decide_t (by omega))), (by (first | exact asd_put { e with ack := true } _ b j _ (by omega) hj | exact decide_t (by omega))), (by (first | exact asd_put { e with ack := true } _ b j _ (by omega) hj | exact decide_t (by omega))), rfl, Lp, rfl, (by assumption), trivial⟩).1
end Go.Proofs.YtdcoomeagbjhlaaDoor.Lk
set_option linter.unusedVariables false
set_option linter.unusedSimpArgs false
set_option maxRecDepth 100000
set_option maxHeartbeats 4000000
namespace Go.Proofs.YtdcoomeagbjhlaaDoor.Lk
open Go.RowKit Go.Pm
open Go.Proofs.YtdcoomeagbjhlaaDoor.Or (G1 C1 Pu)
open Go.Proofs.YtdcoomeagbjhlaaDoor.Ca (eS slS cacheA)
def numD : Nat → En → En
  | 0, e => e
  | k + 1, e => if e.rest = ⟨#[]⟩ ∨ ¬ e.way.length < 16 then e else numD k (numS e (min e.most e.rest.size))
theorem numS_len (e : En) (m : Nat) : (numS e m).way.length = e.way.length + 1 := by show (e.way ++ [numX e m]).length = _; rw [List.length_append]; rfl
theorem numS_rest (e : En) (m : Nat) : (numS e m).rest.size ≤ e.rest.size := by show (e.rest.extract m e.rest.size).size ≤ _; rw [ByteArray.size_extract]; omega
theorem nu_loop : ∀ (k : Nat) (e : En) (n : Nat), n = e.way.length → 16 ≤ k + n → e.rest.size ≤ 100000 → e.most ≤ 1024 → e.next + k ≤ 60000 → LoopT K2 nuB (nuN e n) (.exit 0) (nuN (numD k e) (numD k e).way.length)
  | 0, e, n, hn, hk, hr, hm, hx => by
    subst hn
    exact nu_endN e _ (.inr (by omega))
  | k + 1, e, n, hn, hk, hr, hm, hx => by
    unfold numD
    by_cases h : e.rest = ⟨#[]⟩ ∨ ¬ e.way.length < 16
    · rw [if_pos h]
      subst hn
      exact nu_endN e _ h
    · rw [if_neg h]
      have h1 : ¬ e.rest = ⟨#[]⟩ := fun q => h (.inl q)
      have h2 : e.way.length < 16 := by
        rcases Nat.lt_or_ge e.way.length 16 with q | q
        · exact q
        · exact absurd (.inr (by omega)) h
      refine LoopT.next (nu_next e n _ hn rfl h1 hr (by omega) hm (by omega)) ?_
      have := numS_rest e (min e.most e.rest.size)
      exact nu_loop k _ (n + 1) (by rw [numS_len]; omega) (by omega) (by omega) hm (by show e.next + 1 + k ≤ _; omega)
theorem num_more (e e' : En) (n n' off : Nat) (pre : List AV) (hp : pre.all pureC = true) (h : LoopT K2 nuB (nuF e n off pre) (.exit 0) (nuN e' n')) : CallH Tryd.prog G1 33 [.ptr 0 0] [.arr 23 (enM e (.osl 1 off n 3)) 0, .arr (n * 3 + off) (pre ++ e.way.flatMap pcE) 0] (.tup []) [.arr 23 (enM e' (.osl 2 0 n' 3)) 0, .dead, .arr (n' * 3) (e'.way.flatMap pcE) 0] := by
  exact (fnRun_ok (hs := hint [((0,1000), {loop := some ({ ks := [0], l := [0, 1], mx := [0] }, nuF e n off pre, Ex.exit (0 : Nat), nuN e' n')})]) (ps := [nuF e n off pre = nuF e n off pre, _, true = true, pureB (Bk.arr (n * (3 : Nat) + off) (pre ++ List.flatMap pcE e.way) (0 : Fz)) = true]) (by kernel_rfl) ⟨rfl, h, rfl, (by exact ps_pure _ hp _ _ _), trivial⟩).1
theorem num_same (e : En) (n off : Nat) (pre : List AV) (hp : pre.all pureC = true) (h : LoopT K2 nuB (nuF e n off pre) (.exit 0) (nuF e n off pre)) : CallH Tryd.prog G1 33 [.ptr 0 0] [.arr 23 (enM e (.osl 1 off n 3)) 0, .arr (n * 3 + off) (pre ++ e.way.flatMap pcE) 0] (.tup []) [.arr 23 (enM e (.osl 1 off n 3)) 0, .arr (n * 3 + off) (pre ++ e.way.flatMap pcE) 0] := by
  exact (fnRun_ok (hs := hint [((0,1000), {loop := some ({ ks := [0], l := [0, 1], mx := [0] }, nuF e n off pre, Ex.exit (0 : Nat), nuF e n off pre)})]) (ps := [nuF e n off pre = nuF e n off pre, _, true = true, pureB (Bk.arr (n * (3 : Nat) + off) (pre ++ List.flatMap pcE e.way) (0 : Fz)) = true]) (by kernel_rfl) ⟨rfl, h, rfl, (by exact ps_pure _ hp _ _ _), trivial⟩).1
/-- what number leaves: as it was, or a new row -/
theorem num_call (e : En) (n off : Nat) (pre : List AV) (hn : n = e.way.length) (ho : off = pre.length) (hp : pre.all pureC = true) (hr : e.rest.size ≤ 100000) (hm : e.most ≤ 1024) (hx : e.next + 16 ≤ 60000) : 
    (numD 16 e = e ∧ CallH Tryd.prog G1 33 [.ptr 0 0] [.arr 23 (enM e (.osl 1 off n 3)) 0, .arr (n * 3 + off) (pre ++ e.way.flatMap pcE) 0] (.tup []) [.arr 23 (enM e (.osl 1 off n 3)) 0, .arr (n * 3 + off) (pre ++ e.way.flatMap pcE) 0]) ∨
    CallH Tryd.prog G1 33 [.ptr 0 0] [.arr 23 (enM e (.osl 1 off n 3)) 0, .arr (n * 3 + off) (pre ++ e.way.flatMap pcE) 0] (.tup []) [.arr 23 (enM (numD 16 e) (.osl 2 0 (numD 16 e).way.length 3)) 0, .dead, .arr ((numD 16 e).way.length * 3) ((numD 16 e).way.flatMap pcE) 0] := by
  by_cases h : e.rest = ⟨#[]⟩ ∨ ¬ e.way.length < 16
  · left
    refine ⟨by unfold numD; rw [if_pos h], num_same e n off pre hp (nu_endF e n off pre hp (by rw [hn]; exact h))⟩
  · right
    have h1 : ¬ e.rest = ⟨#[]⟩ := fun q => h (.inl q)
    have h2 : e.way.length < 16 := by
      rcases Nat.lt_or_ge e.way.length 16 with q | q
      · exact q
      · exact absurd (.inr (by omega)) h
    have h3 := numS_rest e (min e.most e.rest.size)
    have hL := nu_loop 15 (numS e (min e.most e.rest.size)) (n + 1) (by rw [numS_len]; omega) (by omega) (by omega) hm (by show e.next + 1 + 15 ≤ _; omega)
    have hF := LoopT.next (nu_first e n off _ pre hn ho hp rfl h1 hr (by omega) hm (by omega)) hL
    have e1 : numD 16 e = numD 15 (numS e (min e.most e.rest.size)) := by
      show (if _ then _ else _) = _
      rw [if_neg h]
    rw [e1]
    exact num_more e _ n _ off pre hp hF
def sumK (l : List Pc) : Nat → Nat
  | 0 => 0
  | k + 1 => sumK l k + (nth l k).b.size
theorem sumK_le (l : List Pc) (n : Nat) (h : sumK l n ≤ 100000) : ∀ k, k ≤ n → sumK l k ≤ 100000 := by
  intro k hk
  have : ∀ d, sumK l k ≤ sumK l (k + d) := by
    intro d
    induction d with
    | zero => exact Nat.le_refl _
    | succ d ih => exact Nat.le_trans ih (Nat.le_add_right _ _)
  have := this (n - k)
  rw [show k + (n - k) = n by omega] at this
  omega
noncomputable def suB : Code := loopOf Tryd.prog 19 5
def suS (e : En) (b : ByteArray) (n k s : Nat) : St := ⟨mkT 46 [(1, st b), (2, .ptr 0 0), (4, .ptr 1 0), (6, i64 (s : Nat)), (20, .sl n (e.way.flatMap pcE)), (21, i64 (n : Nat)), (22, i64 (k : Nat))], [.arr 23 (enM e (.sl n (e.way.flatMap pcE))) 0, .arr 23 (enM en0 .nsl) 0]⟩
theorem su_step (e : En) (b : ByteArray) (n k s : Nat) (hn : n = e.way.length) (hk : k < n) (hs : s + (nth e.way k).b.size ≤ 1000000) (hl : n ≤ 1000) : Tri C1 suB (suS e b n k s) .normal (suS e b n (k + 1) (s + (nth e.way k).b.size)) := by
  exact runF_ok (hs := hint [((5,0), {val := some (bl (true))}), ((6,0), {cells := some (pcE (nth e.way k) ++ List.flatMap pcE (List.drop (k + (1 : Nat)) e.way)), sym := true}), ((7,4), { val := some (i64 (s + (nth e.way k).b.size : Nat)) }), ((8,0), {val := some (i64 ((↑k : Int) + (1 : Int)))})]) (f := { ks := [1, 2, 4, 6, 20, 21, 22], l := [0, 1] }) (ps := [bl (decide ((↑k : Int) < (↑n : Int))) = bl (true), decide ((0 : Int) ≤ (↑k : Int) ∧ (↑k : Int) < (↑n : Int)) = true, ((List.drop ((↑k : Int).toNat * (3 : Nat)) (List.flatMap pcE e.way)) : List AV) = (pcE (nth e.way k) ++ List.flatMap pcE (List.drop (k + (1 : Nat)) e.way)), i64 (IntKind.i64.wrap ((↑s : Int) + (↑(nth e.way k).b.size : Int))) = i64 ((↑(s + (nth e.way k).b.size) : Int)), i64 (IntKind.i64.wrap ((↑k : Int) + (1 : Int))) = i64 ((↑k : Int) + (1 : Int)), true = true, true = true, true = true]) (by kernel_rfl) ⟨(bdT (by omega)), (by exact decide_t (by omega)), (by exact flat_nth (sz := 3) (k := k) (fun _ => rfl) (by omega)), (by exact intE (by rw [wrap_i64 (by omega) (by omega)]; omega)), (intE (by exact wrap_i64 (by omega) (by omega))), rfl, rfl, rfl, trivial⟩
theorem su_end (e : En) (b : ByteArray) (n s : Nat) : LoopT C1 suB (suS e b n n s) (.exit 0) (suS e b n n s) := by
  exact LoopT.fin (hs := hint [((5,0), {val := some (bl (false))})]) (f := { ks := [1, 2, 4, 6, 20, 21, 22], l := [0, 1] }) (ps := [bl (decide ((↑n : Int) < (↑n : Int))) = bl (false), true = true, true = true, true = true]) (by kernel_rfl) ⟨(bdF (by omega)), rfl, rfl, rfl, trivial⟩ (by decide)
end Go.Proofs.YtdcoomeagbjhlaaDoor.Lk
set_option linter.unusedVariables false
set_option linter.unusedSimpArgs false
set_option maxRecDepth 100000
set_option maxHeartbeats 4000000
namespace Go.Proofs.YtdcoomeagbjhlaaDoor.Lk
open Go.RowKit Go.Pm
open Go.Proofs.YtdcoomeagbjhlaaDoor.Or (G1 C1 Pu)
open Go.Proofs.YtdcoomeagbjhlaaDoor.Ca (eS slS cacheA)
theorem send_more (e e' : En) (b : ByteArray) (n n' s : Nat) (hn : n = e.way.length) (hn' : n' = e'.way.length) (hm : 1 ≤ e.most) (hs : s ≤ 65536) (hb : e.rest.size + b.size ≤ 65536) (hc : Pure Tryd.prog G1 20 [.sl n (e.way.flatMap pcE)] (.osl 0 0 n 3) [.arr (n * 3) (e.way.flatMap pcE) 0]) (h : LoopT C1 suB (suS e b n 0 (e.rest.size + b.size)) (.exit 0) (suS e b n n s))
    (hN : CallH Tryd.prog G1 33 [.ptr 0 0] [.arr 23 (enM { e with rest := e.rest ++ b } (.osl 1 0 n 3)) 0, .arr (n * 3) (e.way.flatMap pcE) 0] (.tup []) [.arr 23 (enM e' (.osl 2 0 n' 3)) 0, .dead, .arr (n' * 3) (e'.way.flatMap pcE) 0]) : Pu 19 [A (enM e (.sl n (e.way.flatMap pcE))), st b] (.tup [enA e', i64 0]) := by
  have hs' := slP_take n' e'.way hn'
  have hr : AV.tup [A (enM e' (AV.sl n' (List.take (n' * 3) (List.drop 0 (e'.way.flatMap pcE))))), i64 0] = .tup [enA e', i64 0] := by rw [hs']; rfl
  exact pure_cast (pure_said (hs := hint [((1,2), {val := some (bl (false))}), ((3,5), { val := some (i64 (e.rest.size + b.size : Nat)) }), ((5,1000), {loop := some ({ ks := [1, 2, 4, 6, 20, 21, 22], l := [0, 1] }, suS e b n (0 : Nat) (e.rest.size + b.size), Ex.exit (0 : Nat), suS e b n n s)}), ((9,1), {val := some (bl (false))}), ((11,2), {call := some ((AV.osl (0 : Nat) (0 : Nat) n (3 : Nat))), news := some ([Bk.arr (n * (3 : Nat)) (List.flatMap pcE e.way) (0 : Fz)]), sym := true}), ((12,3), {sym := true}), ((13,0), {sub := some ([0, 2], [false, true], [false, false, true], AV.tup [], [Bk.arr (23 : Nat) [AV.s (Value.int IntKind.i64 (↑e'.most : Int)), AV.osl (2 : Nat) (0 : Nat) n' (3 : Nat), AV.s (Value.int IntKind.i64 (↑e'.next : Int)), AV.s (Value.string e'.rest), AV.s (Value.int IntKind.i64 (↑e'.exp : Int)), AV.s (Value.string (e'.asd (0 : Nat))), AV.s (Value.string (e'.asd (1 : Nat))), AV.s (Value.string (e'.asd (2 : Nat))), AV.s (Value.string (e'.asd (3 : Nat))), AV.s (Value.string (e'.asd (4 : Nat))), AV.s (Value.string (e'.asd (5 : Nat))), AV.s (Value.string (e'.asd (6 : Nat))), AV.s (Value.string (e'.asd (7 : Nat))), AV.s (Value.string (e'.asd (8 : Nat))), AV.s (Value.string (e'.asd (9 : Nat))), AV.s (Value.string (e'.asd (10 : Nat))), AV.s (Value.string (e'.asd (11 : Nat))), AV.s (Value.string (e'.asd (12 : Nat))), AV.s (Value.string (e'.asd (13 : Nat))), AV.s (Value.string (e'.asd (14 : Nat))), AV.s (Value.string (e'.asd (15 : Nat))), AV.s (Value.string e'.read), AV.s (Value.bool e'.ack)] (0 : Fz), Bk.dead, Bk.arr (n' * (3 : Nat)) (List.flatMap pcE e'.way) (0 : Fz)])})]) (r := AV.tup [A [i64 ((↑e'.most : Int)), AV.sl (n') (List.take (n' * (3 : Nat)) (List.drop (0 : Nat) (List.flatMap pcE e'.way))), i64 ((↑e'.next : Int)), st (e'.rest), i64 ((↑e'.exp : Int)), st (e'.asd (0 : Nat)), st (e'.asd (1 : Nat)), st (e'.asd (2 : Nat)), st (e'.asd (3 : Nat)), st (e'.asd (4 : Nat)), st (e'.asd (5 : Nat)), st (e'.asd (6 : Nat)), st (e'.asd (7 : Nat)), st (e'.asd (8 : Nat)), st (e'.asd (9 : Nat)), st (e'.asd (10 : Nat)), st (e'.asd (11 : Nat)), st (e'.asd (12 : Nat)), st (e'.asd (13 : Nat)), st (e'.asd (14 : Nat)), st (e'.asd (15 : Nat)), st (e'.read), bl (e'.ack)], i64 ((0 : Int))]) (ps := [bl ((↑e.most : Int) == (0 : Int)) = bl (false), i64 (IntKind.i64.wrap ((↑e.rest.size : Int) + (↑b.size : Int))) = i64 ((↑(e.rest.size + b.size) : Int)), suS e b n (0 : Nat) (e.rest.size + b.size) = suS e b n (0 : Nat) (e.rest.size + b.size), _, true = true, true = true, true = true, bl (decide ((↑s : Int) > (65536 : Int))) = bl (false), [Bk.arr (n * (3 : Nat)) (List.flatMap pcE e.way) (0 : Fz)].all pureB = true, true = true, true = true, _, decide (e.rest.size + b.size ≤ (9223372036854775807 : Nat)) = true, _, pureB (Bk.arr (n * (3 : Nat)) (List.flatMap pcE e.way) (0 : Fz)) = true, pureB (Bk.arr (n' * (3 : Nat)) (List.flatMap pcE e'.way) (0 : Fz)) = true, ([(3 : Nat)].all fun (i : Nat) => (Option.map pureB [Bk.arr (23 : Nat) [AV.s (Value.int IntKind.i64 (↑e'.most : Int)), AV.osl (3 : Nat) (0 : Nat) n' (3 : Nat), AV.s (Value.int IntKind.i64 (↑e'.next : Int)), AV.s (Value.string e'.rest), AV.s (Value.int IntKind.i64 (↑e'.exp : Int)), AV.s (Value.string (e'.asd (0 : Nat))), AV.s (Value.string (e'.asd (1 : Nat))), AV.s (Value.string (e'.asd (2 : Nat))), AV.s (Value.string (e'.asd (3 : Nat))), AV.s (Value.string (e'.asd (4 : Nat))), AV.s (Value.string (e'.asd (5 : Nat))), AV.s (Value.string (e'.asd (6 : Nat))), AV.s (Value.string (e'.asd (7 : Nat))), AV.s (Value.string (e'.asd (8 : Nat))), AV.s (Value.string (e'.asd (9 : Nat))), AV.s (Value.string (e'.asd (10 : Nat))), AV.s (Value.string (e'.asd (11 : Nat))), AV.s (Value.string (e'.asd (12 : Nat))), AV.s (Value.string (e'.asd (13 : Nat))), AV.s (Value.string (e'.asd (14 : Nat))), AV.s (Value.string (e'.asd (15 : Nat))), AV.s (Value.string e'.read), AV.s (Value.bool e'.ack)] (0 : Fz), Bk.arr (23 : Nat) [AV.s (Value.int IntKind.i64 (↑e'.most : Int)), AV.osl (3 : Nat) (0 : Nat) n' (3 : Nat), AV.s (Value.int IntKind.i64 (↑e'.next : Int)), AV.s (Value.string e'.rest), AV.s (Value.int IntKind.i64 (↑e'.exp : Int)), AV.s (Value.string (e'.asd (0 : Nat))), AV.s (Value.string (e'.asd (1 : Nat))), AV.s (Value.string (e'.asd (2 : Nat))), AV.s (Value.string (e'.asd (3 : Nat))), AV.s (Value.string (e'.asd (4 : Nat))), AV.s (Value.string (e'.asd (5 : Nat))), AV.s (Value.string (e'.asd (6 : Nat))), AV.s (Value.string (e'.asd (7 : Nat))), AV.s (Value.string (e'.asd (8 : Nat))), AV.s (Value.string (e'.asd (9 : Nat))), AV.s (Value.string (e'.asd (10 : Nat))), AV.s (Value.string (e'.asd (11 : Nat))), AV.s (Value.string (e'.asd (12 : Nat))), AV.s (Value.string (e'.asd (13 : Nat))), AV.s (Value.string (e'.asd (14 : Nat))), AV.s (Value.string (e'.asd (15 : Nat))), AV.s (Value.string e'.read), AV.s (Value.bool e'.ack)] (0 : Fz), Bk.dead, Bk.arr (n' * (3 : Nat)) (List.flatMap pcE e'.way) (0 : Fz)][i]?).getD false) = true, true = true]) (by kernel_rfl) ⟨(beF (by omega)), (by exact intE (by rw [wrap_i64 (by omega) (by omega)]; omega)), rfl, h, rfl, rfl, rfl, (bdF (by omega)), (by exact pcs_pure _ _), rfl, rfl, (hc), (by exact decide_t (by omega)), (hN), (by exact row_pureB (fun _ => rfl) _ _ _), (by exact row_pureB (fun _ => rfl) _ _ _), (by exact row_ids (fun _ => rfl) _ _ _ _ _ rfl), rfl, trivial⟩) (by assumption)
theorem send_same (e : En) (b : ByteArray) (n s : Nat) (hn : n = e.way.length) (hm : 1 ≤ e.most) (hs : s ≤ 65536) (hb : e.rest.size + b.size ≤ 65536) (hc : Pure Tryd.prog G1 20 [.sl n (e.way.flatMap pcE)] (.osl 0 0 n 3) [.arr (n * 3) (e.way.flatMap pcE) 0]) (h : LoopT C1 suB (suS e b n 0 (e.rest.size + b.size)) (.exit 0) (suS e b n n s))
    (hN : CallH Tryd.prog G1 33 [.ptr 0 0] [.arr 23 (enM { e with rest := e.rest ++ b } (.osl 1 0 n 3)) 0, .arr (n * 3) (e.way.flatMap pcE) 0] (.tup []) [.arr 23 (enM { e with rest := e.rest ++ b } (.osl 1 0 n 3)) 0, .arr (n * 3) (e.way.flatMap pcE) 0]) : Pu 19 [A (enM e (.sl n (e.way.flatMap pcE))), st b] (.tup [enA { e with rest := e.rest ++ b }, i64 0]) := by
  have hs' := slP_take n e.way hn
  have hr : AV.tup [A (enM { e with rest := e.rest ++ b } (AV.sl n (List.take (n * 3) (List.drop 0 (e.way.flatMap pcE))))), i64 0] = .tup [enA { e with rest := e.rest ++ b }, i64 0] := by rw [hs']; rfl
  exact pure_cast (pure_said (hs := hint [((1,2), {val := some (bl (false))}), ((3,5), { val := some (i64 (e.rest.size + b.size : Nat)) }), ((5,1000), {loop := some ({ ks := [1, 2, 4, 6, 20, 21, 22], l := [0, 1] }, suS e b n (0 : Nat) (e.rest.size + b.size), Ex.exit (0 : Nat), suS e b n n s)}), ((9,1), {val := some (bl (false))}), ((11,2), {call := some ((AV.osl (0 : Nat) (0 : Nat) n (3 : Nat))), news := some ([Bk.arr (n * (3 : Nat)) (List.flatMap pcE e.way) (0 : Fz)]), sym := true}), ((12,3), {sym := true}), ((13,0), {sub := some ([0, 2], [false, true], [false, true], AV.tup [], [Bk.arr (23 : Nat) [AV.s (Value.int IntKind.i64 (↑e.most : Int)), AV.osl (1 : Nat) (0 : Nat) n (3 : Nat), AV.s (Value.int IntKind.i64 (↑e.next : Int)), AV.s (Value.string (e.rest ++ b)), AV.s (Value.int IntKind.i64 (↑e.exp : Int)), AV.s (Value.string (e.asd (0 : Nat))), AV.s (Value.string (e.asd (1 : Nat))), AV.s (Value.string (e.asd (2 : Nat))), AV.s (Value.string (e.asd (3 : Nat))), AV.s (Value.string (e.asd (4 : Nat))), AV.s (Value.string (e.asd (5 : Nat))), AV.s (Value.string (e.asd (6 : Nat))), AV.s (Value.string (e.asd (7 : Nat))), AV.s (Value.string (e.asd (8 : Nat))), AV.s (Value.string (e.asd (9 : Nat))), AV.s (Value.string (e.asd (10 : Nat))), AV.s (Value.string (e.asd (11 : Nat))), AV.s (Value.string (e.asd (12 : Nat))), AV.s (Value.string (e.asd (13 : Nat))), AV.s (Value.string (e.asd (14 : Nat))), AV.s (Value.string (e.asd (15 : Nat))), AV.s (Value.string e.read), AV.s (Value.bool e.ack)] (0 : Fz), Bk.arr (n * (3 : Nat)) (List.flatMap pcE e.way) (0 : Fz)])})]) (r := AV.tup [A [i64 ((↑e.most : Int)), AV.sl (n) (List.take (n * (3 : Nat)) (List.drop (0 : Nat) (List.flatMap pcE e.way))), i64 ((↑e.next : Int)), st (e.rest ++ b), i64 ((↑e.exp : Int)), st (e.asd (0 : Nat)), st (e.asd (1 : Nat)), st (e.asd (2 : Nat)), st (e.asd (3 : Nat)), st (e.asd (4 : Nat)), st (e.asd (5 : Nat)), st (e.asd (6 : Nat)), st (e.asd (7 : Nat)), st (e.asd (8 : Nat)), st (e.asd (9 : Nat)), st (e.asd (10 : Nat)), st (e.asd (11 : Nat)), st (e.asd (12 : Nat)), st (e.asd (13 : Nat)), st (e.asd (14 : Nat)), st (e.asd (15 : Nat)), st (e.read), bl (e.ack)], i64 ((0 : Int))]) (ps := [bl ((↑e.most : Int) == (0 : Int)) = bl (false), i64 (IntKind.i64.wrap ((↑e.rest.size : Int) + (↑b.size : Int))) = i64 ((↑(e.rest.size + b.size) : Int)), suS e b n (0 : Nat) (e.rest.size + b.size) = suS e b n (0 : Nat) (e.rest.size + b.size), _, true = true, true = true, true = true, bl (decide ((↑s : Int) > (65536 : Int))) = bl (false), [Bk.arr (n * (3 : Nat)) (List.flatMap pcE e.way) (0 : Fz)].all pureB = true, true = true, true = true, _, decide (e.rest.size + b.size ≤ (9223372036854775807 : Nat)) = true, _, pureB (Bk.arr (n * (3 : Nat)) (List.flatMap pcE e.way) (0 : Fz)) = true, pureB (Bk.arr (n * (3 : Nat)) (List.flatMap pcE e.way) (0 : Fz)) = true, ([(2 : Nat)].all fun (i : Nat) => (Option.map pureB [Bk.arr (23 : Nat) [AV.s (Value.int IntKind.i64 (↑e.most : Int)), AV.osl (2 : Nat) (0 : Nat) n (3 : Nat), AV.s (Value.int IntKind.i64 (↑e.next : Int)), AV.s (Value.string (e.rest ++ b)), AV.s (Value.int IntKind.i64 (↑e.exp : Int)), AV.s (Value.string (e.asd (0 : Nat))), AV.s (Value.string (e.asd (1 : Nat))), AV.s (Value.string (e.asd (2 : Nat))), AV.s (Value.string (e.asd (3 : Nat))), AV.s (Value.string (e.asd (4 : Nat))), AV.s (Value.string (e.asd (5 : Nat))), AV.s (Value.string (e.asd (6 : Nat))), AV.s (Value.string (e.asd (7 : Nat))), AV.s (Value.string (e.asd (8 : Nat))), AV.s (Value.string (e.asd (9 : Nat))), AV.s (Value.string (e.asd (10 : Nat))), AV.s (Value.string (e.asd (11 : Nat))), AV.s (Value.string (e.asd (12 : Nat))), AV.s (Value.string (e.asd (13 : Nat))), AV.s (Value.string (e.asd (14 : Nat))), AV.s (Value.string (e.asd (15 : Nat))), AV.s (Value.string e.read), AV.s (Value.bool e.ack)] (0 : Fz), Bk.arr (23 : Nat) [AV.s (Value.int IntKind.i64 (↑e.most : Int)), AV.osl (2 : Nat) (0 : Nat) n (3 : Nat), AV.s (Value.int IntKind.i64 (↑e.next : Int)), AV.s (Value.string (e.rest ++ b)), AV.s (Value.int IntKind.i64 (↑e.exp : Int)), AV.s (Value.string (e.asd (0 : Nat))), AV.s (Value.string (e.asd (1 : Nat))), AV.s (Value.string (e.asd (2 : Nat))), AV.s (Value.string (e.asd (3 : Nat))), AV.s (Value.string (e.asd (4 : Nat))), AV.s (Value.string (e.asd (5 : Nat))), AV.s (Value.string (e.asd (6 : Nat))), AV.s (Value.string (e.asd (7 : Nat))), AV.s (Value.string (e.asd (8 : Nat))), AV.s (Value.string (e.asd (9 : Nat))), AV.s (Value.string (e.asd (10 : Nat))), AV.s (Value.string (e.asd (11 : Nat))), AV.s (Value.string (e.asd (12 : Nat))), AV.s (Value.string (e.asd (13 : Nat))), AV.s (Value.string (e.asd (14 : Nat))), AV.s (Value.string (e.asd (15 : Nat))), AV.s (Value.string e.read), AV.s (Value.bool e.ack)] (0 : Fz), Bk.arr (n * (3 : Nat)) (List.flatMap pcE e.way) (0 : Fz)][i]?).getD false) = true, true = true]) (by kernel_rfl) ⟨(beF (by omega)), (by exact intE (by rw [wrap_i64 (by omega) (by omega)]; omega)), rfl, h, rfl, rfl, rfl, (bdF (by omega)), (by exact pcs_pure _ _), rfl, rfl, (hc), (by exact decide_t (by omega)), (hN), (by exact row_pureB (fun _ => rfl) _ _ _), (by exact row_pureB (fun _ => rfl) _ _ _), (by exact row_ids (fun _ => rfl) _ _ _ _ _ rfl), rfl, trivial⟩) (by assumption)
def sendD (e : En) (b : ByteArray) : En := numD 16 { e with rest := e.rest ++ b }
theorem send_ok (e : En) (b : ByteArray) (hm : 1 ≤ e.most) (hm2 : e.most ≤ 1024) (hl : e.way.length ≤ 1000) (hs : e.rest.size + b.size + sumK e.way e.way.length ≤ 65536) (hx : e.next + 16 ≤ 60000) : Pu 19 [enA e, st b] (.tup [enA (sendD e b), i64 0]) := by
  have hc := clone_ok e.way.length e.way rfl hl
  have h := LoopT.count (fun k => suS e b e.way.length k (e.rest.size + b.size + sumK e.way k)) e.way.length (fun k hk => by
    have := sumK_le e.way e.way.length (by omega) (k + 1) (by omega)
    have e1 : e.rest.size + b.size + sumK e.way (k + 1) = e.rest.size + b.size + sumK e.way k + (nth e.way k).b.size := by show _ + (_ + _) = _; omega
    rw [e1]
    exact su_step e b _ k _ rfl hk (by show e.rest.size + b.size + sumK e.way k + _ ≤ _; have e2 : sumK e.way (k + 1) = sumK e.way k + (nth e.way k).b.size := rfl; omega) hl) (su_end e b _ _) 0 (Nat.zero_le _)
  have hrs : (e.rest ++ b).size = e.rest.size + b.size := ByteArray.size_append
  rcases num_call { e with rest := e.rest ++ b } e.way.length 0 [] rfl rfl rfl (by show (e.rest ++ b).size ≤ _; omega) hm2 hx with ⟨h1, h2⟩ | h2
  · have := send_same e b e.way.length _ rfl hm hs (by omega) hc h h2
    unfold sendD
    rw [h1]
    exact this
  · exact send_more e _ b e.way.length _ _ rfl rfl hm hs (by omega) hc h h2
end Go.Proofs.YtdcoomeagbjhlaaDoor.Lk
