/- The machine of plain values: ranges over functions. By the prover of this seat. A call upon some of the own blocks: the others stay. By the prover of this seat. A function's law from what its body is shown to do; loops whose end is one of many. By the prover of this seat. -/
import Derived.RangeFuncRecord
import Derived.RangeFuncSeq
import Derived.RangeFuncCalls
import Derived.TacticsIn
import Derived.OrdersIn
import Derived.Test.YtcnlgdbmcdlknaaPmE
set_option linter.unusedVariables false
namespace Go.Pm
open Go Go.RowKit
section
/-- the fence of a round of the loop l -/
def inR (l : Nat) : Fence := Fence.wide.inRound l
theorem rowsIn_of {P : Program} {row : String} {args : Array Value} {W : World} {R : Value → World → Prop} {l n : Nat} (h : Rows P row args W R) : RowsIn (inR l) n P row args W R :=
  fun c cs _ => let ⟨v, w', r, s⟩ := h c cs; ⟨v, w', r, stepsIn_wide.2 s⟩
theorem uponIn_of {P : Program} {o : Oper} {a : Act} {next : Act → World → Prop} {Q : Exit → Act → World → Prop} {l n : Nat} : ∀ {r : Result Next}, o.upon P a next Q r → o.uponIn (inR l) n P a next Q r := by
  intro r h
  match r, h with
  | .ok (.value v) w', h => exact h
  | .ok .skip w', h => exact h
  | .ok (.defer d) w', h => exact h
  | .ok (.enter f args) w', h => exact ⟨fun hd => by simp [inR, Fence.wide] at hd, CallsIn.inRound l (callsIn_wide.2 h)⟩
  | .ok (.row row args) w', h => exact ⟨fun hd => by simp [inR, Fence.wide] at hd, rowsIn_of h⟩
  | .halt (.panic v) w', h => exact h
def noDefer (o : Oper) : Bool := match o.op with
  | .defer _ => false
  | _ => true
theorem wpListIn_of {P : Program} {ops : Array Oper} {Q : Exit → Act → World → Prop} {l n : Nat} (hQ : ∀ a w, ¬ Q .outgrown a w) : ∀ (os : List Oper) (a : Act) (W : World), os.all noDefer = true → wpList P ops Q os a W → wpListIn (inR l) n P ops Q os a W := by
  intro os
  induction os with
  | nil => intro a W _ h; exact h
  | cons o os ih =>
    intro a W hd h
    rw [List.all_cons, Bool.and_eq_true] at hd
    unfold wpList at h
    unfold wpListIn
    split
    · rename_i hw
      rw [if_pos hw] at h
      rcases h with h | ⟨_, a0, w0, hq⟩
      · refine ⟨fun f _ => trivial, ?_⟩
        have hdo : ∀ c, o.op ≠ .defer c := fun c e => by have := hd.1; unfold noDefer at this; rw [e] at this; cases this
        rw [show (inR l).round = some l from rfl, Oper.semAt_some l _ _ hdo]
        refine uponIn_of (Oper.wp_mono (fun a' w' h' => ih a' w' hd.2 h') h)
      · exact absurd hq (hQ a0 w0)
    · rename_i hw
      rw [if_neg hw] at h
      exact ⟨fun f _ => trivial, ih _ _ hd.2 h⟩
theorem operIn_of {P : Program} {o : Oper} {Q : Exit → Act → World → Prop} {l n : Nat} {K K' : Act → World → Prop} (hd : noDefer o = true) (hk : ∀ a w, K a w → K' a w) {a : Act} {W : World} (h : o.wp P a W K Q) : o.wpIn (inR l) n P a W K' Q := by
  refine ⟨fun f _ => trivial, ?_⟩
  have hdo : ∀ c, o.op ≠ .defer c := fun c e => by unfold noDefer at hd; rw [e] at hd; cases hd
  rw [show (inR l).round = some l from rfl, Oper.semAt_some l _ _ hdo]
  exact uponIn_of (Oper.wp_mono hk h)
theorem wpAnyIn_of {P : Program} {ops : Array Oper} {md : Region.Mode} {Q : Exit → Act → World → Prop} {l n : Nat} (hQ : ∀ a w, ¬ Q .outgrown a w) (hnd : ops.toList.all noDefer = true) : ∀ (fuel : Nat) (listed : Array Bool) (a : Act) (W : World), wpAny P md ops Q fuel listed a W → wpAnyIn (inR l) n P md ops Q fuel listed a W := by
  intro fuel
  induction fuel with
  | zero => intro listed a W h; exact h
  | succ fuel ih =>
    intro listed a W h
    refine ⟨h.1, fun i hi => ?_⟩
    have h2 := h.2 i hi
    unfold wpOp at h2
    unfold wpOpIn
    split
    · rename_i ho
      rw [ho] at h2
      exact ih _ _ _ h2
    · rename_i o ho
      rw [ho] at h2
      simp only at h2
      have hno : noDefer o = true := List.all_eq_true.1 hnd o (by
        have := Array.mem_of_getElem? ho
        simpa using this)
      split
      · rename_i hw
        rw [if_pos hw] at h2
        rcases h2 with h2 | ⟨_, a0, w0, hq⟩
        · exact operIn_of hno (fun a' w' h' => ih _ _ _ h') h2
        · exact absurd hq (hQ a0 w0)
      · rename_i hw
        rw [if_neg hw] at h2
        exact ⟨fun f _ => trivial, ih _ _ _ h2⟩
/-- from st, in a round of a range over a function, the code comes to st' -/
def TriR (C : Cx) (c : Code) (st : St) (e : Ex) (st' : St) : Prop :=
  ∀ (l n : Nat) (w0 : World) (ρ : Nm) (M : Mem) (a : Act) (W : World), Rel C w0 ρ M st a W → c.wpIn (inR l) n C.P (After C w0 ρ M e st') a W
/-- code that may stand in a round, as far as the machine walks it -/
def rndC : Code → Bool
  | .skip => true
  | .region _ ops _ => ops.toList.all noDefer
  | .seq a b => rndC a && rndC b
  | .cond _ a b => rndC a && rndC b
  | .exit _ => true
  | .block _ b => rndC b
  | _ => false
theorem triR_ok {C : Cx} : ∀ (c : Code) (hs : Nat → Nat → Hint) (st : St) (e : Ex) (st' : St) (ps : List Prop), runH C c hs st = some (e, st', ps) → allP ps → rndC c = true → TriR C c st e st' := by
  intro c
  induction c with
  | skip => intro hs st e st' ps h _ _ l n w0 ρ M a W hR; simp [runH] at h; obtain ⟨rfl, rfl, _⟩ := h; exact wpIn_skip ⟨rfl, ρ, M, Mem.le.refl M, fun _ _ _ h => h, Fresh.refl _ _, hR⟩
  | exit id => intro hs st e st' ps h _ _ l n w0 ρ M a W hR; simp [runH] at h; obtain ⟨rfl, rfl, _⟩ := h; exact wpIn_exit ⟨rfl, ρ, M, Mem.le.refl M, fun _ _ _ h => h, Fresh.refl _ _, hR⟩
  | region id ops draw =>
    intro hs st e st' ps h hp hc
    unfold runH at h
    have hnd : ops.toList.all noDefer = true := hc
    cases hq : thAll (hs id frzKey).frz st with
    | mk st0 ps0 =>
    rw [hq] at h
    dsimp only at h
    split at h
    · rename_i t A es ps' htr
      split at h
      · rename_i hd
        cases h
        obtain ⟨hp0, hp⟩ := allP_append hp
        intro l n w0 ρ M0 a W hR0
        obtain ⟨M, m1, m2, hR⟩ := thAll_ok _ hq hp0 hR0
        refine wpIn_mono (Q := After C w0 ρ M .normal ⟨t, A⟩) ?_ (fun x a' W' h => After.step m1 (fun _ _ _ h => h) m2 h)
        have fin : ∀ ρ' M' a' W', M.le M' → ρ.le ρ' → Fresh M M' w0.heap.size → Rel C w0 ρ' M' ⟨t, A⟩ a' W' → After C w0 ρ M .normal ⟨t, A⟩ .normal a' W' := fun ρ' M' a' W' q1 q2 q3 q4 => ⟨rfl, ρ', M', q1, fun i _ x hx => q2 i x hx, q3, q4⟩
        cases draw with
        | false =>
          have := tr_ok (Q := After C w0 ρ M .normal ⟨t, A⟩) ops.toList 0 st0.t st0.h t A es _ htr hp ρ M a W hR fin
          simp only [Array.toArray_toList] at this
          exact wpIn_region_list (wpListIn_of (fun a' w' hx => by cases hx.1) _ _ _ hnd this)
        | true =>
          have hdd := hd.resolve_left (by simp)
          have hm : C.P.follows .mixedOrders = true := by
            unfold drawOk at hdd
            simp only [Bool.and_eq_true] at hdd
            exact hdd.1.1.1.1.1
          exact wpIn_region_any hm (wpAnyIn_of (fun a' w' hx => by cases hx.1) hnd _ _ _ _ (draw_any (Q := After C w0 ρ M .normal ⟨t, A⟩) htr hp hdd hR fin))
      · cases h
    · cases h
  | seq x y ihx ihy =>
    intro hs st e st' ps h hp hc
    simp only [rndC, Bool.and_eq_true] at hc
    unfold runH at h
    split at h
    · rename_i st1 p1 h1
      split at h
      · rename_i e2 st2 p2 h2
        cases h
        obtain ⟨hp1, hp2⟩ := allP_append hp
        intro l n w0 ρ M a W hR
        refine wpIn_seq (wpIn_mono (ihx _ _ _ _ _ h1 hp1 hc.1 l n w0 ρ M a W hR) (fun e' a' W' h => ?_))
        obtain ⟨rfl, ρ1, M1, q1, q2, q3, q4⟩ := h
        show y.wpIn (inR l) n C.P _ a' W'
        refine wpIn_mono (ihy _ _ _ _ _ h2 hp2 hc.2 l n w0 ρ1 M1 a' W' q4) (fun e2 a2 W2 h => ?_)
        exact After.step (C := C) q1 q2 q3 h
      · cases h
    · rename_i hne
      intro l n w0 ρ M a W hR
      refine wpIn_seq (wpIn_mono (ihx _ _ _ _ _ h hp hc.1 l n w0 ρ M a W hR) (fun e' a' W' h => ?_))
      have he := h.1
      subst he
      cases e with
      | normal => exact (hne st' ps (by assumption)).elim
      | exit n => exact h
      | ret => exact h
  | cond c x y ihx ihy =>
    intro hs st e st' ps h hp hc
    simp only [rndC, Bool.and_eq_true] at hc
    unfold runH at h
    split at h
    · rename_i hcc
      intro l n w0 ρ M a W hR
      have hv := eval_ok hR.slots hR.glob c
      rw [hcc] at hv
      exact wpIn_cond hv.inv_s (ihx _ _ _ _ _ h hp hc.1 l n w0 ρ M a W hR)
    · rename_i hcc
      intro l n w0 ρ M a W hR
      have hv := eval_ok hR.slots hR.glob c
      rw [hcc] at hv
      exact wpIn_cond hv.inv_s (ihy _ _ _ _ _ h hp hc.2 l n w0 ρ M a W hR)
    · cases h
  | label l => intro hs st e st' ps h _ hc; simp [rndC] at hc
  | ret => intro hs st e st' ps h _ hc; simp [rndC] at hc
  | block id x ih =>
    intro hs st e st' ps h hp hc
    have hc : rndC x = true := hc
    have key : ∀ {st1 : St} {e1 : Ex}, TriR C x st e1 st1 → TriR C (.block id x) st (match e1 with | .exit j => if j = id then .normal else .exit j | e => e) st1 := by
      intro st1 e1 hx l n w0 ρ M a W hR
      refine wpIn_block (wpIn_mono (hx l n w0 ρ M a W hR) (fun e' a' W' hh => ?_))
      obtain ⟨rfl, hh⟩ := hh
      cases e1 with
      | normal => exact ⟨rfl, hh⟩
      | ret => exact ⟨rfl, hh⟩
      | exit j =>
        show (if j = id then _ else _)
        split
        · rename_i hj
          subst hj
          simp only [if_true]
          exact ⟨rfl, hh⟩
        · rename_i hj
          simp only [if_neg hj]
          exact ⟨rfl, hh⟩
    unfold runH at h
    split at h
    · rename_i j st1 p1 h1
      split at h
      · rename_i hj
        cases h
        have := key (ih _ _ _ _ _ h1 hp hc)
        simp only [hj, if_true] at this
        exact this
      · rename_i hj
        cases h
        have := key (ih _ _ _ _ _ h1 hp hc)
        simp only [if_neg hj] at this
        exact this
    · rename_i hne
      have := key (ih _ _ _ _ _ h hp hc)
      cases e with
      | normal => exact this
      | ret => exact this
      | exit j => exact absurd h (hne j st' ps)
  | loop x ih => intro hs st e st' ps h _ hc; simp [rndC] at hc
  | scope x ih => intro hs st e st' ps h _ hc; simp [rndC] at hc
  | goto l => intro hs st e st' ps h _ hc; simp [rndC] at hc
  | rangeFunc g params a b => intro hs st e st' ps h _ hc; simp [rndC] at hc
  | refuse why => intro hs st e st' ps h _ hc; simp [rndC] at hc
/-! the record of a range over a function, as it turns -/
def Mem.note (M : Mem) (l : Nat) (o : Obj) : Mem := { M with obj := fun b => if b = l then some o else M.obj b }
theorem VR.note {M : Mem} {ρ : Nm} {a : AV} {v : Value} (l : Nat) (o : Obj) (h : VR M ρ a v) : VR (M.note l o) ρ a v := VR.monoC (M := M) (M' := M.note l o) (fun _ _ _ e => e) (fun _ _ e => e) h (Nm.le.refl _)
theorem BR.note {ρ : Nm} {M : Mem} {W : World} {b : Nat} {s : Sz} {B : Bk} (l : Nat) (o : Obj) (h : BR ρ M W b s B) : BR ρ (M.note l o) W b s B := by
  cases B with
  | dead => trivial
  | arr L cs fz =>
    obtain ⟨b1, b2, ⟨cur, e, fr, b3, b4, b5, b6⟩, b7, b8⟩ := h
    exact ⟨b1, b2, ⟨cur, e, fr, b3, b4, b5, fun i c hc => by obtain ⟨u, u1, u2, u3⟩ := b6 i c hc; exact ⟨u, u1, u2, u3.note l o⟩⟩, b7, b8⟩
  | map es fz =>
    obtain ⟨⟨ents, clock, b1, bt, pq, b2, b3, b4, b5, b6⟩, b7⟩ := h
    exact ⟨⟨ents, clock, b1, bt, pq, b2, b3, b4, fun i c v x y => (b5 i c v x y).note l o, fun i c v x y => (b6 i c v x y).note l o⟩, b7⟩
  | iter cur left =>
    obtain ⟨h0i, m, since, seen, last, b1, b2⟩ := h
    refine ⟨h0i, m, since, seen, last, b1, ?_⟩
    cases m with
    | none => exact b2
    | some mb =>
      obtain ⟨kv, k1, k2, k3, ⟨rest, r1, r2, r3, r4⟩, k4⟩ := b2
      exact ⟨kv, k1, k2, k3, ⟨rest, r1, r2, fun i c v x y => (r3 i c v x y).note l o, fun i c v x y => (r4 i c v x y).note l o⟩, fun c hc => by obtain ⟨e, e1, e2, e3, e4⟩ := k4 c hc; exact ⟨e, e1, e2, e3.note l o, e4.note l o⟩⟩
theorem WR.turn {w0 W W' : World} {ρ : Nm} {M : Mem} {H : List Bk} (h : WR w0 ρ M H W) {l : Nat} {o o' : Obj} (ho : W.heap[l]? = some o) (hr : recB o = true) (hr' : recB o' = true) (hl : w0.heap.size ≤ l) (hW : W'.heap[l]? = some o') (hk : ∀ k, k ≠ l → W'.heap[k]? = W.heap[k]?) (hos : W'.os = W.os ∧ W'.tape = W.tape ∧ W'.output = W.output ∧ W.heap.size ≤ W'.heap.size) : WR w0 ρ (M.note l o') H W' := by
  have hcell : ∀ (b : Nat) (x : Obj), W.heap[b]? = some x → recB x = false → W'.heap[b]? = W.heap[b]? := fun b x hb hx => hk b fun e => by
    subst e
    rw [ho] at hb
    cases hb
    rw [hr] at hx
    cases hx
  have hblk : ∀ i b s B, ρ i = some (b, s) → H[i]? = some B → B.live → W'.heap[b]? = W.heap[b]? := by
    intro i b s B hi hB hlv
    have hbr := h.blk i b s B hi hB
    cases B with
    | dead => exact absurd hlv (by simp [Bk.live])
    | arr L cs fz =>
      obtain ⟨b1, b2, ⟨cur, e, fr, b3, _⟩, _⟩ := hbr
      exact hcell b _ b3 rfl
    | map es fz =>
      obtain ⟨⟨ents, clock, b1, _⟩, _⟩ := hbr
      exact hcell b _ b1 rfl
    | iter c l =>
      obtain ⟨h0i, m, since, seen, last, b1, _⟩ := hbr
      exact hcell b _ b1 rfl
  refine ⟨?_, ⟨fun b o v e => ?_, fun b kv e => ?_, fun b x e => ?_, Nat.le_trans h.fro.base hos.2.2.2⟩, h.dom, h.inj, h.new, fun i b s B hi hB => ?_, fun i b s B hi hB hlv => by
    show (if b = l then some o' else M.obj b) = none
    rw [if_neg (fun q => ?_)]
    · exact h.apart i b s B hi hB hlv
    · subst q
      have hbr := h.blk i b s B hi hB
      cases B with
      | dead => exact absurd hlv (by simp [Bk.live])
      | arr L cs fz =>
        obtain ⟨b1, b2, ⟨cur, e, fr, b3, _⟩, _⟩ := hbr
        rw [b3] at ho; cases ho; cases hr
      | map es fz =>
        obtain ⟨⟨ents, clock, b1, _⟩, _⟩ := hbr
        rw [b1] at ho; cases ho; cases hr
      | iter c l =>
        obtain ⟨h0i, m, since, seen, last, b1, _⟩ := hbr
        rw [b1] at ho; cases ho; cases hr⟩
  · exact h.bel.trans ⟨hos.1, hos.2.1, hos.2.2.1, hos.2.2.2, fun k hkk => hk k (by omega)⟩
  · obtain ⟨k1, k2⟩ := h.fro.cell b o v e
    refine ⟨?_, k2⟩
    rw [World.cell?_of_block (w := W) (a := ⟨b, o, none⟩) ?_]
    · exact k1
    · show W'.heap[b]? = W.heap[b]?
      cases hb : W.heap[b]? with
      | none => simp [World.cell?, hb] at k1
      | some x =>
        rw [← hb]
        cases x with
        | cells c e f => exact hcell b _ hb rfl
        | _ => simp [World.cell?, hb] at k1
  · obtain ⟨k1, k2⟩ := h.fro.map b kv e
    exact ⟨(hcell b _ k1 rfl).trans k1, k2⟩
  · have e' : (if b = l then some o' else M.obj b) = some x := e
    split at e'
    · rename_i hb
      cases e'
      subst hb
      refine ⟨hW, fun i v hc => ?_, fun kv hc => ?_⟩
      · obtain ⟨k1, _⟩ := h.fro.cell b i v hc
        cases o with
        | cells c e f => cases hr
        | _ => simp [World.cell?, ho] at k1
      · obtain ⟨k1, _⟩ := h.fro.map b kv hc
        rw [ho] at k1; cases k1; cases hr
    · rename_i hb
      obtain ⟨k1, k2⟩ := h.fro.obj b x e'
      exact ⟨(hk b hb).trans k1, k2⟩
  · by_cases hlv : B.live
    · exact ((h.blk i b s B hi hB).keep (Nm.le.refl _) (hblk i b s B hi hB hlv)).note _ _
    · cases B with
      | dead => trivial
      | arr => exact absurd trivial hlv
      | map => exact absurd trivial hlv
      | iter => exact absurd trivial hlv
theorem WR.turnO {w0 W : World} {ρ : Nm} {M : Mem} {H : List Bk} (h : WR w0 ρ M H W) {l : Nat} {o o' : Obj} (ho : W.heap[l]? = some o) (hr : recB o = true) (hr' : recB o' = true) (hl : w0.heap.size ≤ l) : WR w0 ρ (M.note l o') H (W.putObj l o') :=
  h.turn ho hr hr' hl (World.putObj_heap_same (Array.getElem?_eq_some_iff.1 ho).1) (fun k hk => World.putObj_heap_other hk) ⟨rfl, rfl, rfl, by rw [World.putObj_size]; exact Nat.le_refl _⟩
theorem WR.noteO {w0 W : World} {ρ : Nm} {M : Mem} {H : List Bk} (h : WR w0 ρ M H W) {l : Nat} {o : Obj} (ho : W.heap[l]? = some o) (hr : recB o = true) (hl : w0.heap.size ≤ l) : WR w0 ρ (M.note l o) H W :=
  h.turn ho hr hr hl ho (fun _ _ => rfl) ⟨rfl, rfl, rfl, Nat.le_refl _⟩
theorem Fresh.note (M : Mem) {l n : Nat} (o : Obj) (h : n ≤ l) : Fresh M (M.note l o) n := ⟨fun _ _ _ _ e => e, fun _ _ _ e => e, fun b x hb e => by
  have e' : (if b = l then some o else M.obj b) = some x := e
  rw [if_neg (by omega)] at e'
  exact e'⟩
theorem Fro.less {M M' : Mem} {W : World} (h : Fro M' W) (hM : M.le M') : Fro M W := ⟨fun b o v e => h.cell b o v (hM.cell b o v e), fun b kv e => h.map b kv (hM.map b kv e), (fun b o e => by
    obtain ⟨k1, k2, k3⟩ := h.obj b o (hM.obj b o e)
    rw [hM.oc b o e] at k2 k3
    exact ⟨k1, fun i v hc => k2 i v (hM.cell b i v hc), fun kv hc => k3 kv (hM.map b kv hc)⟩), by rw [← hM.base]; exact h.base⟩
theorem Mem.le.note {M M' : Mem} {l : Nat} {o : Obj} (h : M.le M') (hl : ∀ x, M.obj l = some x → x = o) : M.le (M'.note l o) :=
  ⟨h.cell, h.map, fun b x e => by
    show (if b = l then some o else M'.obj b) = some x
    split
    · rename_i hb; subst hb; rw [hl x e]
    · exact h.obj b x e, h.base, h.oc⟩
/-- what an iterator over pairs does: it yields these, one by one, till it is told 'no more', and changes nothing by itself -/
def IterC (P : Program) (gf : FuncId) (lb : List AV) (xs : List (AV × AV)) : Prop :=
  ∀ (l : Nat) (M : Mem) (vals : List Value) (J Jx : Nat → World → Prop) (W : World), L2 (VR M Nm.none) lb vals → (∀ k W, J k W → Fro M W ∧ J k W.drew) →
    (∀ k x W u v, xs[k]? = some x → J k W → VR M Nm.none x.1 u → VR M Nm.none x.2 v → YieldAt Fence.wide 0 P l #[u, v] W fun e W' => (e = .returned (.bool true) ∧ J (k + 1) W') ∨ (e = .returned (.bool false) ∧ Jx k W')) →
    J 0 W → CallsIn Fence.wide 0 P gf (#[.func (.yield l) #[] #[]] ++ vals.toArray) W fun e W' => (∃ v, e = .returned v) ∧ (J xs.length W' ∨ ∃ k, k < xs.length ∧ Jx k W')
theorem foldl2 (p q : Tmp) (u v : Value) (t : Array Value) : ((#[p, q] : Array Tmp).zip #[u, v]).foldl (fun tmps (x : Tmp × Value) => tmps.setIfInBounds x.1 x.2) t = (t.setIfInBounds p u).setIfInBounds q v := by
  simp
theorem range_tri {C : Cx} {g : Operand} {p q : Tmp} {assign body : Code} {st : St} {gf : FuncId} {lb : List AV} (xs : List (AV × AV)) (hI : IterC C.P gf lb xs) (hent : ∀ args w, (callFunc gf args).run C.P w = .ok (.enter gf args) w) (hg : evalA C st.t g = .fn (.func gf) [] lb) (hlb : lb.all pureC0 = true)
    (S : Nat → List Bk) (h0 : S 0 = st.h) (T : Nat → List AV) (m : Nat) (hm : m ≤ xs.length)
    (hA : ∀ k x, k ≤ m → xs[k]? = some x → TriR ⟨C.P, C.G, st.h.length⟩ assign ⟨(st.t.set p x.1).set q x.2, S k⟩ .normal ⟨T k, S k⟩)
    (hB : ∀ k, k < m → ∃ t', TriR ⟨C.P, C.G, st.h.length⟩ body ⟨T k, S k⟩ .normal ⟨t', S (k + 1)⟩) (e : Ex) (H' : List Bk)
    (hE : (m = xs.length ∧ e = .normal ∧ H' = S m) ∨ (m < xs.length ∧ ∃ id t', e = .exit id ∧ TriR ⟨C.P, C.G, st.h.length⟩ body ⟨T m, S m⟩ (.exit id) ⟨t', H'⟩)) : Tri C (.rangeFunc g #[p, q] assign body) st e ⟨st.t, H'⟩ := by
  intro w0 ρ M a W hR
  refine (wpIn_wide (n := 1)).1 (wpIn_rangeFunc ?_)
  intro fn hfn
  have hv := eval_ok hR.slots hR.glob g
  rw [hg] at hv
  obtain ⟨us, vals, hfv, hus, hvals⟩ : ∃ (us vs : List Value), a.eval g = .func (.func gf) us.toArray vs.toArray ∧ us = [] ∧ L2 (VR M Nm.none) lb vs := by
    generalize a.eval g = v at hv
    cases hv with
    | fn h1 h2 h3 h4 =>
      rename_i us vs
      refine ⟨us, vs, rfl, List.eq_nil_of_length_eq_zero (by simpa using h1.symm), h3, fun i c v hc hv => ?_⟩
      have hp := List.all_eq_true.1 hlb c (List.mem_of_getElem? hc)
      exact (h4 i c v hc hv).pure (by cases c <;> first | exact hp | (simp [pureC0] at hp)) Nm.none
  subst hus
  have hw := hR.wr
  have hsz : w0.heap.size ≤ W.heap.size := hw.bel.size
  rw [show Fence.wide.round = none from rfl]
  obtain ⟨rec, hrec⟩ : ∃ rec : LoopState → Option Code → Loop, rec = fun st pe => { state := st, pending := pe, fn, tmps := a.tmps, params := #[p, q], assign, body, defers := W.heap.size } := ⟨_, rfl⟩
  obtain ⟨W1, hW1⟩ : ∃ W1, (W.alloc (.deferred (some []))).alloc (.loop (rec .ready none)) = W1 := ⟨_, rfl⟩
  have hL1 : W1.heap[W.heap.size + 1]? = some (.loop (rec .ready none)) := by
    rw [← hW1]; have := World.alloc_heap_new (W.alloc (.deferred (some []))) (.loop (rec .ready none)); rwa [World.size_alloc] at this
  have hK1 : W1.heap[W.heap.size]? = some (.deferred (some [])) := by
    rw [← hW1]; exact (Below.heap_alloc _ _ _ (by simp)).trans (World.alloc_heap_new W _)
  have hb1 : Below W.heap.size W W1 := by rw [← hW1]; exact ((Below.refl _ W).alloc (Nat.le_refl _) _).alloc (by simp) _
  have hw1 : WR w0 ρ M st.h W1 := hw.world (hw.bel.trans (hb1.mono hsz)) fun b hb => hb1.block b hb
  have hlo : ∀ b o, M.obj b = some o → b < W.heap.size := fun b o e => hw.fro.lto e
  -- the memory with the two records
  have hw2 : WR w0 ρ ((M.note W.heap.size (.deferred (some []))).note (W.heap.size + 1) (.loop (rec .ready none))) st.h W1 := (hw1.noteO hK1 rfl hsz).noteO hL1 rfl (by omega)
  obtain ⟨M1, hM1⟩ : ∃ M1, M1 = (M.note W.heap.size (.deferred (some []))).note (W.heap.size + 1) (.loop (rec .ready none)) := ⟨_, rfl⟩
  rw [← hM1] at hw2
  have hMM1 : M.le M1 := by
    rw [hM1]
    exact ((Mem.le.refl M).note (fun x ex => absurd (hlo _ _ ex) (by omega))).note (fun x ex => absurd (hlo _ _ ex) (by omega))
  have hD1 : M1.obj W.heap.size = some (.deferred (some [])) := by
    rw [hM1]
    show (if W.heap.size = W.heap.size + 1 then _ else if W.heap.size = W.heap.size then some (Obj.deferred (some [])) else M.obj W.heap.size) = _
    rw [if_neg (by omega), if_pos rfl]
  have hR1 : M1.obj (W.heap.size + 1) = some (.loop (rec .ready none)) := by
    rw [hM1]
    show (if W.heap.size + 1 = W.heap.size + 1 then _ else _) = _
    rw [if_pos rfl]
  -- what memories keep, but for the loop's record
  let Ke : Mem → Mem → Prop := fun A B => (∀ b o v, A.cell b o = some v → B.cell b o = some v) ∧ (∀ b v, A.map b = some v → B.map b = some v) ∧ (∀ b v, b ≠ W.heap.size + 1 → A.obj b = some v → B.obj b = some v) ∧ B.base = A.base ∧ ∀ b v, A.obj b = some v → b ≠ W.heap.size + 1 → B.oc b = A.oc b
  have keOf : ∀ {A B : Mem}, A.le B → Ke A B := fun h => ⟨h.cell, h.map, fun b v _ e => h.obj b v e, h.base, fun b v e _ => h.oc b v e⟩
  have keT : ∀ {A B D : Mem}, Ke A B → Ke B D → Ke A D := fun h k => ⟨fun b o v e => k.1 b o v (h.1 b o v e), fun b v e => k.2.1 b v (h.2.1 b v e), fun b v hb e => k.2.2.1 b v hb (h.2.2.1 b v hb e), k.2.2.2.1.trans h.2.2.2.1, fun b v e hb => (k.2.2.2.2 b v (h.2.2.1 b v hb e) hb).trans (h.2.2.2.2 b v e hb)⟩
  have keN : ∀ (A : Mem) (o : Obj), Ke A (A.note (W.heap.size + 1) o) := fun A o => ⟨fun _ _ _ e => e, fun _ _ e => e, fun b v hb e => by
    show (if b = W.heap.size + 1 then some o else A.obj b) = some v
    rw [if_neg hb]; exact e, rfl, fun _ _ _ _ => rfl⟩
  have leOf : ∀ {B : Mem}, Ke M B → M.le B := fun h => ⟨h.1, h.2.1, fun b v e => h.2.2.1 b v (by have := hlo b v e; omega) e, h.2.2.2.1, fun b v e => h.2.2.2.2 b v e (by have := hlo b v e; omega)⟩
  have noted : ∀ (A : Mem) (o : Obj), (A.note (W.heap.size + 1) o).obj (W.heap.size + 1) = some o := fun A o => by
    show (if W.heap.size + 1 = W.heap.size + 1 then some o else _) = _
    rw [if_pos rfl]
  -- between two rounds
  let Jg : Loop → List Bk → World → Prop := fun r B V => ∃ ρk Mk, Ke M1 Mk ∧ Mk.obj (W.heap.size + 1) = some (.loop r) ∧ ρ.le ρk ∧ Fresh M Mk w0.heap.size ∧ WR w0 ρk Mk B V ∧ st.h.length ≤ B.length
  have jdrew : ∀ r B V, Jg r B V → Fro M V ∧ Jg r B V.drew := by
    rintro r B V ⟨ρk, Mk, j1, j2, j3, j4, j5, j6⟩
    exact ⟨j5.fro.less (leOf (keT (keOf hMM1) j1)), ρk, Mk, j1, j2, j3, j4, j5.drew, j6⟩
  have hfr1 : Fresh M M1 w0.heap.size := by rw [hM1]; have hsz := hw.bel.size; exact (Fresh.note M _ (by omega)).trans (Fresh.note _ _ (by omega))
  refine ⟨W.heap.size + 1, [{ target := .collected W.heap.size, args := #[] }], W1, { target := .fn (.func gf) vals.toArray, args := #[.func (.yield (W.heap.size + 1)) #[] #[]] }, W1, gf,
    #[.func (.yield (W.heap.size + 1)) #[] #[]] ++ vals.toArray, W1, ?_, ?_, fun _ _ => trivial, ?_, fun _ => (by omega), ?_⟩
  · rw [← hW1, hrec]; exact run_enterLoop_outer _ _ _ _ _
  · simp only [resolve, hfv]
    simp [go_sem]
  · simp [invoke, go_sem, hent]
  · have hfin : ∀ (r : Loop) (V : World) (B : List Bk), r.state ≠ .busy → Jg r B V → (Instr.endLoop (W.heap.size + 1)).run C.P V = .ok r.pending (V.putObj (W.heap.size + 1) (.loop { r with state := .exhausted })) ∧ ∃ ρ' M', M.le M' ∧ (∀ i, i < C.keep → ∀ x, ρ i = some x → ρ' i = some x) ∧ Fresh M M' w0.heap.size ∧ Rel C w0 ρ' M' ⟨st.t, B⟩ { a with defers := [{ target := .collected W.heap.size, args := #[] }] ++ a.defers } (V.putObj (W.heap.size + 1) (.loop { r with state := .exhausted })) := by
      rintro r V B hb ⟨ρk, Mk, j1, j2, j3, j4, j5, j6⟩
      have hl := (j5.fro.obj _ _ j2).1
      have hw3 := j5.turnO hl rfl (o' := .loop { r with state := .exhausted }) rfl (by omega)
      have hke := keT (keOf hMM1) (keT j1 (keN Mk (.loop { r with state := .exhausted })))
      have hle := leOf hke
      refine ⟨run_endLoop hl hb, ρk, _, hle, fun i _ x hx => j3 i x hx, ⟨fun b o v hb e => j4.cell b o v hb e, fun b v hb e => j4.map b v hb e, fun b v hb e => j4.obj b v hb ((Fresh.note Mk _ (by have := hw.bel.size; omega)).obj b v hb e)⟩, ⟨hR.slots.mono hle j3, hw3, fun g cs hgc => (hR.glob g cs hgc).mono hle (Nm.le.refl _), Nat.le_trans hR.keep j6, ?_⟩⟩
      obtain ⟨ds, d1, d2, d3⟩ := hR.defers
      refine ⟨W.heap.size :: ds, by show _ :: a.defers = _; rw [d1]; rfl, List.nodup_cons.2 ⟨fun hmem => absurd (hlo _ _ (d3 _ hmem).2) (by omega), d2⟩, fun b hb => ?_⟩
      rcases List.mem_cons.1 hb with rfl | hb
      · exact ⟨by rw [hle.base]; exact hw.fro.base, (keT j1 (keN Mk _)).2.2.1 _ _ (by omega) hD1⟩
      · exact ⟨by rw [hle.base]; exact (d3 b hb).1, hle.obj _ _ (d3 b hb).2⟩
    refine (hI (W.heap.size + 1) M vals (fun k V => k ≤ m ∧ Jg (rec .ready none) (S k) V) (fun k V => ∃ id, e = .exit id ∧ m < xs.length ∧ Jg (rec .done (some (.exit id))) H' V) W1 hvals
      (fun k V hJ => ⟨(jdrew _ _ _ hJ.2).1, hJ.1, (jdrew _ _ _ hJ.2).2⟩) ?_ ⟨Nat.zero_le _, ρ, M1, ⟨fun _ _ _ e => e, fun _ _ e => e, fun _ _ _ e => e, rfl, fun _ _ _ _ => rfl⟩, hR1, Nm.le.refl _, hfr1, by rw [h0]; exact hw2, by rw [h0]; exact Nat.le_refl _⟩).mono ?_
    · -- one round
      rintro k x V u v hx ⟨hkm, ρk, Mk, j1, j2, j3, j4, j5, j6⟩ hu hv
      have hl := (j5.fro.obj _ _ j2).1
      have hy := run_yield (P := C.P) (args := #[u, v]) hl (by rw [hrec]; rfl)
      rw [hrec] at hy
      refine ⟨_, _, _, _, hy, roundIn_of_wpIn trivial ?_⟩
      rw [foldl2]
      have hMk : M.le Mk := leOf (keT (keOf hMM1) j1)
      have hRk : Rel ⟨C.P, C.G, st.h.length⟩ w0 ρk Mk ⟨(st.t.set p x.1).set q x.2, S k⟩ { tmps := (a.tmps.setIfInBounds p u).setIfInBounds q v, defers := [] } V := by
        refine ⟨?_, j5, fun g cs hgc => (hR.glob g cs hgc).mono hMk (Nm.le.refl _), j6, Marks.nil _⟩
        have s1 : L2 (VR Mk ρk) st.t ({ tmps := a.tmps, defers := [] } : Act).tmps.toList := hR.slots.mono hMk j3
        have s2 := put_slots s1 (some p) (hu.mono hMk (Nm.none_le ρk))
        exact put_slots s2 (some q) (hv.mono hMk (Nm.none_le ρk))
      refine wpIn_mono (hA k x hkm hx (W.heap.size + 1) _ w0 ρk Mk _ V hRk) (fun ex a1 V1 hh => ?_)
      obtain ⟨rfl, ρ1, M2, q1, q2, q3, q4⟩ := hh
      have hl1 := (q4.wr.fro.obj _ _ (q1.obj _ _ j2)).1
      refine ⟨_, run_beginRound hl1 (by rw [hrec]), ?_⟩
      have hw3 := q4.wr.turnO hl1 rfl (o' := .loop { rec .ready none with state := .busy }) rfl (by omega)
      have hR3 : Rel ⟨C.P, C.G, st.h.length⟩ w0 ρ1 (M2.note (W.heap.size + 1) (.loop { rec .ready none with state := .busy })) ⟨T k, S k⟩ a1 (V1.putObj (W.heap.size + 1) (.loop { rec .ready none with state := .busy })) := by
        refine ⟨⟨q4.slots.len, fun i c v p q => (q4.slots.at_ i c v p q).note _ _⟩, hw3, fun g cs hgc => (q4.glob g cs hgc).note _ _, q4.keep, ?_⟩
        obtain ⟨ds, d1, d2, d3⟩ := q4.defers
        refine ⟨ds, d1, d2, fun b hb => ⟨(d3 b hb).1, ?_⟩⟩
        refine (keN M2 _).2.2.1 _ _ (fun eb => ?_) (d3 b hb).2
        have := (d3 b hb).2
        rw [eb, q1.obj _ _ j2] at this
        cases this
      have hρ1 : ρ.le ρ1 := fun i y hy => q2 i (hw.dom i y hy) y (j3 i y hy)
      have hke3 : Ke M1 (M2.note (W.heap.size + 1) (.loop { rec .ready none with state := .busy })) := keT j1 (keT (keOf q1) (keN _ _))
      have hf3 : Fresh M (M2.note (W.heap.size + 1) (.loop { rec .ready none with state := .busy })) w0.heap.size := ⟨fun b o v hb e => j4.cell b o v hb (q3.cell b o v hb e), fun b v hb e => j4.map b v hb (q3.map b v hb e), fun b v hb e => j4.obj b v hb (q3.obj b v hb ((Fresh.note M2 _ (by have := hw.bel.size; omega)).obj b v hb e))⟩
      have fin : ∀ {ρ4 : Nm} {M4 : Mem} {t4 : List AV} {B4 : List Bk} {a4 : Act} {V4 : World} (jump : Option Code), (M2.note (W.heap.size + 1) (.loop { rec .ready none with state := .busy })).le M4 → (∀ i, i < st.h.length → ∀ x, ρ1 i = some x → ρ4 i = some x) → Fresh (M2.note (W.heap.size + 1) (.loop { rec .ready none with state := .busy })) M4 w0.heap.size → Rel ⟨C.P, C.G, st.h.length⟩ w0 ρ4 M4 ⟨t4, B4⟩ a4 V4 →
          ∃ V5, (Instr.endRound (W.heap.size + 1) jump).run C.P V4 = .ok (.bool jump.isNone) V5 ∧ Jg (rec (if jump.isNone then .ready else .done) jump) B4 V5 := by
        intro ρ4 M4 t4 B4 a4 V4 jump r1 r2 r3 r4
        have hl4 := (r4.wr.fro.obj _ _ (r1.obj _ _ (noted _ _))).1
        have hend := run_endRound (P := C.P) jump hl4
        refine ⟨_, hend, ρ4, _, keT hke3 (keT (keOf r1) (keN M4 _)), noted _ _, fun i y hy => r2 i (hw.dom i y hy) y (hρ1 i y hy), ⟨fun b o v hb e => hf3.cell b o v hb (r3.cell b o v hb e), fun b v hb e => hf3.map b v hb (r3.map b v hb e), fun b v hb e => hf3.obj b v hb (r3.obj b v hb ((Fresh.note M4 _ (by have := hw.bel.size; omega)).obj b v hb e))⟩, ?_, r4.keep⟩
        have := r4.wr.turnO hl4 rfl (o' := .loop { { rec .ready none with state := .busy } with state := if jump.isNone then .ready else .done, pending := jump }) rfl (by omega)
        rw [hrec] at this ⊢
        exact this
      by_cases hkm2 : k < m
      · obtain ⟨t', hbk⟩ := hB k hkm2
        refine wpIn_mono (hbk (W.heap.size + 1) _ w0 ρ1 _ _ _ hR3) (fun ex a4 V4 hh => ?_)
        obtain ⟨rfl, ρ4, M4, r1, r2, r3, r4⟩ := hh
        obtain ⟨V5, f1, f2⟩ := fin none r1 r2 r3 r4
        exact ⟨_, V5, f1, .inl ⟨rfl, hkm2, f2⟩⟩
      · have hkm3 : k = m := by omega
        subst hkm3
        have hlt : k < xs.length := (List.getElem?_eq_some_iff.1 hx).1
        rcases hE with ⟨e1, _⟩ | ⟨_, id, t', e1, hbk⟩
        · omega
        · refine wpIn_mono (hbk (W.heap.size + 1) _ w0 ρ1 _ _ _ hR3) (fun ex a4 V4 hh => ?_)
          obtain ⟨rfl, ρ4, M4, r1, r2, r3, r4⟩ := hh
          obtain ⟨V5, f1, f2⟩ := fin (some (.exit id)) r1 r2 r3 r4
          exact ⟨_, V5, f1, .inr ⟨rfl, id, e1, hlt, f2⟩⟩
    · rintro ex V ⟨⟨v, rfl⟩, hh⟩
      rcases hh with ⟨hk, hJ⟩ | ⟨k, _, id, e1, hlt, hJ⟩
      · have hmx : m = xs.length := by omega
        rcases hE with ⟨_, e2, e3⟩ | ⟨e2, _⟩
        · obtain ⟨f1, f2⟩ := hfin _ V _ (by rw [hrec]; simp) hJ
          rw [← hmx, ← e3] at f2
          have hp : (rec .ready none).pending = none := by rw [hrec]
          subst e2
          refine ⟨_, _, f1, ?_⟩
          split
          · exact ⟨rfl, f2⟩
          · rename_i c hc
            rw [hp] at hc
            cases hc
        · omega
      · obtain ⟨f1, f2⟩ := hfin _ V _ (by rw [hrec]; simp) hJ
        have hp : (rec .done (some (.exit id))).pending = some (.exit id) := by rw [hrec]
        subst e1
        refine ⟨_, _, f1, ?_⟩
        split
        · rename_i hc
          rw [hp] at hc
          cases hc
        · rename_i c hc
          rw [hp] at hc
          cases hc
          exact wpIn_exit ⟨rfl, f2⟩
/-! the range over a function whose body's first region is r -/
def findRange (r : Nat) : Code → Option Code
  | .loop b => findRange r b
  | .seq a b => match findRange r a with
    | some c => some c
    | none => findRange r b
  | .cond _ a b => match findRange r a with
    | some c => some c
    | none => findRange r b
  | .block _ b => findRange r b
  | .scope b => findRange r b
  | .rangeFunc g ps a b => if regKey b = r then some (.rangeFunc g ps a b) else none
  | _ => none
def rangeOf (P : Program) (f r : Nat) : Code := match P.funcs[f]? with
  | some fn => match fn.body with
    | some c => (findRange r c).getD .skip
    | none => .skip
  | none => .skip
def assignOf : Code → Code
  | .rangeFunc _ _ a _ => a
  | c => c
def bodyOf : Code → Code
  | .rangeFunc _ _ _ b => b
  | c => c
theorem TriR.forget {C : Cx} {c : Code} {f : Fg} {st st1 : St} {e : Ex} (h : TriR C c st e st1) (ha : allP (fgAsk f C.keep st1.h)) : TriR C c st e (Pm.forget f st1) := by
  intro l n w0 ρ M a W hR
  refine wpIn_mono (h l n w0 ρ M a W hR) (fun x a' W' hx => ?_)
  obtain ⟨q0, ρ', M', q1, q2, q3, q4⟩ := hx
  obtain ⟨ρ1, hk, hR1⟩ := forget_ok q4 ha
  exact ⟨q0, ρ1, M', q1, fun i hi x hx => hk i hi x (q2 i hi x hx), q3, hR1⟩
/-- a round's code, reckoned, and what is forgotten behind it -/
def runFR (C : Cx) (hs : Nat → Nat → Hint) (f : Fg) (c : Code) (st : St) : Option (Ex × St × List Prop) :=
  if rndC c = true then match runH C c hs st with
    | some (e, st1, ps) => some (e, Pm.forget f st1, ps ++ fgAsk f C.keep st1.h)
    | none => none
  else none
theorem runFR_ok {C : Cx} {hs : Nat → Nat → Hint} {f : Fg} {c : Code} {st st' : St} {e : Ex} {ps : List Prop} (h : runFR C hs f c st = some (e, st', ps)) (hp : allP ps) : TriR C c st e st' := by
  unfold runFR at h
  split at h
  · rename_i hc
    split at h
    · rename_i e1 st1 ps1 hr
      cases h
      obtain ⟨h1, h2⟩ := allP_append hp
      exact (triR_ok c hs st e st1 ps1 hr h1 hc).forget h2
    · cases h
  · cases h
end
end Go.Pm

set_option linter.unusedVariables false
set_option linter.unusedSimpArgs false
namespace Go.Pm
open Go Go.RowKit
def selB (f : Nat → Option Nat) (H : List Bk) : List Nat → List Bool → Option (List Bk)
  | [], _ => some []
  | i :: r, p :: ps => match H[i]?, selB f H r ps with
    | some B, some l => some (rnB f p B :: l)
    | _, _ => none
  | _ :: _, [] => none
/-- a block that can be held while others are worked upon -/
def holdB : Bk → Bool
  | .arr _ _ fz => Nat.beq fz.n 0
  | .map _ fz => !fz
  | _ => true
def restOk (ix : List Nat) : Nat → List Bk → Bool
  | _, [] => true
  | n, B :: r => ((backN ix n).isSome || holdB B) && restOk ix (n + 1) r
def outHd (ix : List Nat) (f : Nat → Option Nat) (p : List Bool) (Hs : List Bk) : Nat → List Bk → List Bk
  | _, [] => []
  | n, B :: r => (match backN ix n with
    | some j => rnB f (p.getD j false) (Hs.getD j .dead)
    | none => B) :: outHd ix f p Hs (n + 1) r
def outB (ix : List Nat) (p : List Bool) (H Hs : List Bk) : List Bk := outHd ix (kapN ix H.length) p Hs 0 H ++ outTl (kapN ix H.length) (p.drop ix.length) (Hs.drop ix.length)
theorem selB_at {f : Nat → Option Nat} {H : List Bk} : ∀ {ix : List Nat} {ps : List Bool} {Hs : List Bk}, selB f H ix ps = some Hs → ix.length = Hs.length ∧ ∀ (j i : Nat), ix[j]? = some i → ∃ (B : Bk) (p : Bool), H[i]? = some B ∧ ps[j]? = some p ∧ Hs[j]? = some (rnB f p B)
  | [], ps, Hs, h => by
    unfold selB at h
    cases h
    exact ⟨rfl, fun j i h => by simp at h⟩
  | x :: r, [], Hs, h => by cases h
  | x :: r, p :: ps, Hs, h => by
    unfold selB at h
    split at h
    · rename_i B l hB hl
      cases h
      obtain ⟨h1, h2⟩ := selB_at hl
      refine ⟨by simp [h1], fun j i hj => ?_⟩
      cases j with
      | zero =>
        simp at hj
        subst hj
        exact ⟨B, p, hB, rfl, rfl⟩
      | succ j => exact h2 j i hj
    · cases h
theorem restOk_at {ix : List Nat} : ∀ {n : Nat} {H : List Bk}, restOk ix n H = true → ∀ (i : Nat) (B : Bk), H[i]? = some B → backN ix (n + i) = none → holdB B = true
  | n, C :: r, h, i, B, h1, h2 => by
    unfold restOk at h
    rw [Bool.and_eq_true, Bool.or_eq_true] at h
    cases i with
    | zero =>
      simp at h1
      subst h1
      rw [Nat.add_zero] at h2
      rw [h2] at h
      simpa using h.1
    | succ i => exact restOk_at h.2 i B h1 (by rw [show n + 1 + i = n + (i + 1) by omega]; exact h2)
  | n, [], h, i, B, h1, h2 => by simp at h1
theorem outHd_at {ix : List Nat} {f : Nat → Option Nat} {p : List Bool} {Hs : List Bk} : ∀ (n : Nat) (H : List Bk), (outHd ix f p Hs n H).length = H.length ∧ ∀ (i : Nat) (B : Bk), H[i]? = some B → (outHd ix f p Hs n H)[i]? = some (match backN ix (n + i) with
    | some j => rnB f (p.getD j false) (Hs.getD j .dead)
    | none => B)
  | n, [] => ⟨rfl, fun i B h => by simp at h⟩
  | n, C :: r => by
    obtain ⟨h1, h2⟩ := outHd_at (ix := ix) (f := f) (p := p) (Hs := Hs) (n + 1) r
    refine ⟨by simp [outHd, h1], fun i B h => ?_⟩
    cases i with
    | zero => simp at h; subst h; rfl
    | succ i =>
      have := h2 i B h
      rw [show n + 1 + i = n + (i + 1) by omega] at this
      exact this
theorem CallH.sub {P : Program} {G : Nat → Option (List AV)} {fn : FuncId} {as args : List AV} {Hs H Hs' : List Bk} {r : AV} (h : CallH P G fn as Hs r Hs') (ix : List Nat) (p p' : List Bool) (hn : nodupN ix = true) (ha : args.map (rnT (backN ix)) = as) (hs : selB (backN ix) H ix p = some Hs)
    (hq : allP (pureQ p Hs)) (hq' : allP (pureQ p' Hs')) (hlen : Nat.ble ix.length Hs'.length = true) : CallH P G fn args H (rnT (kapN ix H.length) r) (outB ix p' H Hs') := by
  obtain ⟨h0, h⟩ := h
  refine ⟨h0, fun w0 ρ M W vals hw hg hv => ?_⟩
  have hnd := nodupN_ok hn
  obtain ⟨hil, hsel⟩ := selB_at hs
  have hlen := Nat.le_of_ble_eq_true hlen
  have hlt : ∀ j i, ix[j]? = some i → i < H.length := fun j i hj => by
    obtain ⟨B, q, hB, _⟩ := hsel j i hj
    exact (List.getElem?_eq_some_iff.1 hB).1
  -- what is held
  obtain ⟨Held, hHeld⟩ : ∃ Held : Nat → Prop, Held = fun b => ∃ i s B, ρ i = some (b, s) ∧ H[i]? = some B ∧ B.live ∧ backN ix i = none := ⟨_, rfl⟩
  have dec : ∀ b, Decidable (Held b) := fun b => Classical.propDecidable _
  obtain ⟨M1, hM1⟩ : ∃ M1 : Mem, M1 = { M with obj := fun b => if Held b then W.heap[b]? else M.obj b, oc := fun b => if Held b then (M.cell b, M.map b) else M.oc b } := ⟨_, rfl⟩
  have c1 : M1.cell = M.cell := by rw [hM1]
  have m1 : M1.map = M.map := by rw [hM1]
  have o1 : ∀ b, M1.obj b = if Held b then W.heap[b]? else M.obj b := fun b => by rw [hM1]
  have b1 : M1.base = M.base := by rw [hM1]
  have oc1 : ∀ b, M1.oc b = if Held b then (M.cell b, M.map b) else M.oc b := fun b => by rw [hM1]
  have vr1 : ∀ {σ : Nm} {a : AV} {v : Value}, VR M σ a v → VR M1 σ a v := fun q => VR.monoC (by rw [c1]; exact fun _ _ _ e => e) (by rw [m1]; exact fun _ _ e => e) q (Nm.le.refl _)
  -- the held ones are there
  have hclear : ∀ b, Held b → ∃ o, W.heap[b]? = some o := by
    intro b hb
    rw [hHeld] at hb
    obtain ⟨i, s, B, hi, hB, hl, hx⟩ := hb
    have hlt := (hw.blk i b s B hi hB).lt hl
    exact ⟨_, Array.getElem?_eq_getElem hlt⟩
  -- the numbers of the call's own
  obtain ⟨ρs, hρs⟩ : ∃ ρs : Nm, ρs = fun j => match ix[j]? with
    | some i => ρ i
    | none => none := ⟨_, rfl⟩
  have rs : ∀ j x, ρs j = some x → ∃ i, ix[j]? = some i ∧ ρ i = some x := by
    intro j x hj
    rw [hρs] at hj
    simp only at hj
    split at hj
    · rename_i i e; exact ⟨i, e, hj⟩
    · cases hj
  have sr : ∀ j i x, ix[j]? = some i → ρ i = some x → ρs j = some x := by
    intro j i x hj hi
    rw [hρs]
    simp only [hj]
    exact hi
  have hin : ∀ i j x, backN ix i = some j → ρ i = some x → ρs j = some x := fun i j x e hi => sr j i x (backN_some e) hi
  have hbk : ∀ j x B, ρs j = some x → Hs[j]? = some B → ∃ i B0 q, ix[j]? = some i ∧ ρ i = some x ∧ H[i]? = some B0 ∧ p[j]? = some q ∧ B = rnB (backN ix) q B0 := by
    intro j x B hj hB
    obtain ⟨i, hi, hx⟩ := rs j x hj
    obtain ⟨B0, q, e1, e2, e3⟩ := hsel j i hi
    rw [hB] at e3
    cases e3
    exact ⟨i, B0, q, hi, hx, e1, e2, rfl⟩
  have hws : WR w0 ρs M1 Hs W := by
    refine ⟨hw.bel, ⟨by rw [c1]; exact hw.fro.cell, by rw [m1]; exact hw.fro.map, fun b o e => ?_, by rw [b1]; exact hw.fro.base⟩, fun j x hj => ?_, fun j k b s t B B' hj hk g1 l1 g2 l2 => ?_, fun j b s B hj g1 l1 => ?_, fun j b s B hj g1 => ?_, fun j b s B hj g1 l1 => ?_⟩
    · rw [o1] at e
      rw [c1, m1, oc1]
      split at e
      · rename_i hb
        rw [if_pos hb]
        exact ⟨e, fun i v q => q, fun kv q => q⟩
      · rename_i hb
        rw [if_neg hb]
        exact hw.fro.obj b o e
    · obtain ⟨i, hi, _⟩ := rs j x hj
      have := (List.getElem?_eq_some_iff.1 hi).1
      omega
    · obtain ⟨i, B0, q, e1, e2, e3, _, rfl⟩ := hbk j _ _ hj g1
      obtain ⟨i', B0', q', e1', e2', e3', _, rfl⟩ := hbk k _ _ hk g2
      have := hw.inj i i' b s t B0 B0' e2 e2' e3 (rnB_live l1) e3' (rnB_live l2)
      subst this
      obtain ⟨p1, q1⟩ := List.getElem?_eq_some_iff.1 e1
      obtain ⟨p2, q2⟩ := List.getElem?_eq_some_iff.1 e1'
      exact (List.getElem_inj hnd).1 (q1.trans q2.symm)
    · obtain ⟨i, B0, q, e1, e2, e3, _, rfl⟩ := hbk j _ _ hj g1
      exact hw.new i b s B0 e2 e3 (rnB_live l1)
    · obtain ⟨i, B0, q, e1, e2, e3, e4, rfl⟩ := hbk j _ _ hj g1
      have hbr : BR ρs M W b s (rnB (backN ix) q B0) := rnB_ok hin (hw.blk i b s B0 e2 e3) (fun e _ => by
        subst e
        exact pureQ_at hq j _ e4 g1)
      exact hbr.mem ⟨by rw [c1]; exact fun _ _ _ e => e, by rw [m1]; exact fun _ _ e => e, fun b o e => by
        rw [o1]
        split
        · rename_i hb
          rw [hHeld] at hb
          obtain ⟨i, s, B, hi, hB, hl, hx⟩ := hb
          rw [hw.apart i b s B hi hB hl] at e
          cases e
        · exact e, b1, fun b o e => by
        rw [oc1]
        split
        · rename_i hb
          rw [hHeld] at hb
          obtain ⟨i, s, B, hi, hB, hl, hx⟩ := hb
          rw [hw.apart i b s B hi hB hl] at e
          cases e
        · rfl⟩ (fun o v e => by rw [c1] at e; exact e) (fun kv e => by rw [m1] at e; exact e) rfl (Nm.le.refl _)
    · obtain ⟨i, B0, q, e1, e2, e3, _, rfl⟩ := hbk j _ _ hj g1
      rw [o1]
      split
      · rename_i hb
        rw [hHeld] at hb
        obtain ⟨i', s', B', hi', hB', hl', hx'⟩ := hb
        have := hw.inj i i' b s s' B0 B' e2 hi' e3 (rnB_live l1) hB' hl'
        subst this
        rw [back_at hnd e1] at hx'
        cases hx'
      · exact hw.apart i b s B0 e2 e3 (rnB_live l1)
  have hle1 : M.le M1 := ⟨by rw [c1]; exact fun _ _ _ e => e, by rw [m1]; exact fun _ _ e => e, fun b o e => by
    rw [o1]
    split
    · rename_i hb
      rw [hHeld] at hb
      obtain ⟨i, s, B, hi, hB, hl, hx⟩ := hb
      rw [hw.apart i b s B hi hB hl] at e
      cases e
    · exact e, b1, fun b o e => by
    rw [oc1]
    split
    · rename_i hb
      rw [hHeld] at hb
      obtain ⟨i, s, B, hi, hB, hl, hx⟩ := hb
      rw [hw.apart i b s B hi hB hl] at e
      cases e
    · rfl⟩
  have hvs : L2 (VR M1 ρs) as vals := by
    rw [← ha]
    refine ⟨by rw [List.length_map]; exact hv.len, fun i c v a b => ?_⟩
    rw [List.getElem?_map, Option.map_eq_some_iff] at a
    obtain ⟨c0, a0, rfl⟩ := a
    exact vr1 (rnT_ok hin (hv.at_ i c0 v a0 b))
  refine (h w0 ρs M1 W vals hws (fun g cs e => vr1 (hg g cs e)) hvs).mono fun e W' hh => ?_
  obtain ⟨v, ρ1, M', rfl, q1, q2, q3, q4, q5⟩ := hh
  -- the memory behind the call: what was held is let go
  obtain ⟨M2, hM2⟩ : ∃ M2 : Mem, M2 = { M' with obj := fun b => if Held b then none else M'.obj b, oc := fun b => if Held b then M.oc b else M'.oc b } := ⟨_, rfl⟩
  have c2 : M2.cell = M'.cell := by rw [hM2]
  have m2 : M2.map = M'.map := by rw [hM2]
  have o2 : ∀ b, M2.obj b = if Held b then none else M'.obj b := fun b => by rw [hM2]
  have b2 : M2.base = M'.base := by rw [hM2]
  have oc2 : ∀ b, M2.oc b = if Held b then M.oc b else M'.oc b := fun b => by rw [hM2]
  have vr2 : ∀ {σ : Nm} {a : AV} {v : Value}, VR M' σ a v → VR M2 σ a v := fun q => VR.monoC (by rw [c2]; exact fun _ _ _ e => e) (by rw [m2]; exact fun _ _ e => e) q (Nm.le.refl _)
  have hle2 : M.le M2 := ⟨by rw [c2]; exact fun b o v e => q1.cell b o v (hle1.cell b o v e), by rw [m2]; exact fun b v e => q1.map b v (hle1.map b v e), fun b o e => by
    rw [o2]
    split
    · rename_i hb
      rw [hHeld] at hb
      obtain ⟨i, s, B, hi, hB, hl, hx⟩ := hb
      rw [hw.apart i b s B hi hB hl] at e
      cases e
    · exact q1.obj b o (hle1.obj b o e), by rw [b2]; exact q1.base.trans b1, fun b o e => by
    rw [oc2]
    split
    · rfl
    · exact (q1.oc b o (hle1.obj b o e)).trans (hle1.oc b o e)⟩
  have hheld : ∀ b, Held b → W'.heap[b]? = W.heap[b]? ∧ (∃ o, M'.obj b = some o) ∧ (∀ i v, M'.cell b i = some v → M.cell b i = some v) ∧ ∀ kv, M'.map b = some kv → M.map b = some kv := by
    intro b hb
    obtain ⟨o, ho⟩ := hclear b hb
    have e1 : M1.obj b = some o := by rw [o1, if_pos hb]; exact ho
    have e2 := q1.obj b o e1
    obtain ⟨k1, k2, k3⟩ := q3.fro.obj b o e2
    rw [q1.oc b o e1, oc1, if_pos hb] at k2 k3
    exact ⟨k1.trans ho.symm, ⟨o, e2⟩, k2, k3⟩
  -- the numbers behind the call
  obtain ⟨ρ2, hρ2⟩ : ∃ ρ2 : Nm, ρ2 = fun i => if i < H.length then (match backN ix i with
    | some j => ρ1 j
    | none => ρ i) else ρ1 (ix.length + (i - H.length)) := ⟨_, rfl⟩
  have hH := outHd_at (ix := ix) (f := kapN ix H.length) (p := p') (Hs := Hs') 0 H
  have hT := outTl_at (f := kapN ix H.length) (p'.drop ix.length) (Hs'.drop ix.length)
  -- each number: the call's j, or one that was held
  have cse : ∀ i x B, ρ2 i = some x → (outB ix p' H Hs')[i]? = some B →
      (∃ j B0, kapN ix H.length j = some i ∧ ρ1 j = some x ∧ Hs'[j]? = some B0 ∧ B = rnB (kapN ix H.length) (p'.getD j false) B0) ∨ (backN ix i = none ∧ i < H.length ∧ ρ i = some x ∧ H[i]? = some B) := by
    intro i x B hi hB
    rw [hρ2] at hi
    simp only at hi
    unfold outB at hB
    by_cases hl : i < H.length
    · rw [if_pos hl] at hi
      rw [List.getElem?_append_left (by rw [hH.1]; exact hl), hH.2 i _ (List.getElem?_eq_getElem hl), Nat.zero_add] at hB
      cases hb : backN ix i with
      | some j =>
        rw [hb] at hi hB
        simp only at hi hB
        cases hB
        have hj := q3.dom j x hi
        refine .inl ⟨j, Hs'[j], ?_, hi, List.getElem?_eq_getElem hj, ?_⟩
        · unfold kapN; rw [backN_some hb]
        · rw [List.getD_eq_getElem?_getD (l := Hs'), List.getElem?_eq_getElem hj]; rfl
      | none =>
        rw [hb] at hi hB
        simp only at hi hB
        cases hB
        exact .inr ⟨rfl, hl, hi, List.getElem?_eq_getElem hl⟩
    · rw [if_neg hl] at hi
      rw [List.getElem?_append_right (by rw [hH.1]; omega), hH.1] at hB
      have hj := q3.dom _ x hi
      have hd : (Hs'.drop ix.length)[i - H.length]? = some Hs'[ix.length + (i - H.length)] := by rw [List.getElem?_drop, List.getElem?_eq_getElem hj]
      rw [hT.2 _ _ hd] at hB
      cases hB
      refine .inl ⟨ix.length + (i - H.length), _, ?_, hi, List.getElem?_eq_getElem hj, ?_⟩
      · unfold kapN
        rw [List.getElem?_eq_none (by omega)]
        simp only [Option.some.injEq]
        omega
      · congr 1
        rw [List.getD_eq_getElem?_getD, List.getD_eq_getElem?_getD, List.getElem?_drop]
  have kinj : ∀ j k i, j < Hs'.length → k < Hs'.length → kapN ix H.length j = some i → kapN ix H.length k = some i → j = k := by
    intro j k i _ _ e1 e2
    unfold kapN at e1 e2
    cases hj : ix[j]? with
    | some a =>
      rw [hj] at e1
      cases hk : ix[k]? with
      | some b =>
        rw [hk] at e2
        simp only [Option.some.injEq] at e1 e2
        subst e1
        subst e2
        obtain ⟨p1, q1⟩ := List.getElem?_eq_some_iff.1 hj
        obtain ⟨p2, q2⟩ := List.getElem?_eq_some_iff.1 hk
        exact (List.getElem_inj hnd).1 (q1.trans q2.symm)
      | none =>
        rw [hk] at e2
        simp only [Option.some.injEq] at e1 e2
        have := hlt j a hj
        omega
    | none =>
      rw [hj] at e1
      cases hk : ix[k]? with
      | some b =>
        rw [hk] at e2
        simp only [Option.some.injEq] at e1 e2
        have := hlt k b hk
        omega
      | none =>
        rw [hk] at e2
        simp only [Option.some.injEq] at e1 e2
        rw [List.getElem?_eq_none_iff] at hj hk
        omega
  have hout : ∀ j i x, kapN ix H.length j = some i → ρ1 j = some x → ρ2 i = some x := by
    intro j i x e hj
    rw [hρ2]
    simp only
    unfold kapN at e
    split at e
    · rename_i a ha
      cases e
      rw [if_pos (hlt j i ha), back_at hnd ha]
      exact hj
    · rename_i ha
      cases e
      rw [List.getElem?_eq_none_iff] at ha
      rw [if_neg (by omega), show ix.length + (H.length + (j - ix.length) - H.length) = j by omega]
      exact hj
  have hlive : ∀ {i x B}, backN ix i = none → ρ i = some x → H[i]? = some B → B.live → Held x.1 := by
    intro i x B e1 e2 e3 e4
    rw [hHeld]
    exact ⟨i, x.2, B, e2, e3, e4, e1⟩
  refine ⟨v, ρ2, M2, rfl, hle2, ?_, ?_, vr2 (rnT_ok hout q4), ?_⟩
  · intro i x hi
    have hl := hw.dom i x hi
    rw [hρ2]
    simp only [if_pos hl]
    cases hb : backN ix i with
    | some j => exact q2 j x (hin i j x hb hi)
    | none => exact hi
  · refine ⟨q3.bel, ⟨by rw [c2]; exact q3.fro.cell, by rw [m2]; exact q3.fro.map, fun b o e => ?_, by rw [b2]; exact q3.fro.base⟩, fun i x hi => ?_, fun i i' b s t B B' hi hi' g1 l1 g2 l2 => ?_, fun i b s B hi g1 l1 => ?_, fun i b s B hi g1 => ?_, fun i b s B hi g1 l1 => ?_⟩
    · rw [o2] at e
      rw [c2, m2, oc2]
      split at e
      · cases e
      · rename_i hb
        rw [if_neg hb]
        exact q3.fro.obj b o e
    · unfold outB
      rw [List.length_append, hH.1, hT.1, List.length_drop]
      rw [hρ2] at hi
      simp only at hi
      split at hi
      · omega
      · have := q3.dom _ x hi
        omega
    · rcases cse i _ _ hi g1 with ⟨j, B0, e1, e2, e3, rfl⟩ | ⟨e0, e1, e2, e3⟩ <;> rcases cse i' _ _ hi' g2 with ⟨j', B0', e1', e2', e3', rfl⟩ | ⟨e0', e1', e2', e3'⟩
      · have := q3.inj j j' b s t B0 B0' e2 e2' e3 (rnB_live l1) e3' (rnB_live l2)
        subst this
        rw [e1] at e1'
        cases e1'
        rfl
      · have hb := (hheld b (hlive e0' e2' e3' l2)).2.1
        obtain ⟨o, ho⟩ := hb
        rw [q3.apart j b s B0 e2 e3 (rnB_live l1)] at ho
        cases ho
      · have hb := (hheld b (hlive e0 e2 e3 l1)).2.1
        obtain ⟨o, ho⟩ := hb
        rw [q3.apart j' b t B0' e2' e3' (rnB_live l2)] at ho
        cases ho
      · exact hw.inj i i' b s t B B' e2 e2' e3 l1 e3' l2
    · rcases cse i _ _ hi g1 with ⟨j, B0, e1, e2, e3, rfl⟩ | ⟨e0, e1, e2, e3⟩
      · exact q3.new j b s B0 e2 e3 (rnB_live l1)
      · exact hw.new i b s B e2 e3 l1
    · rcases cse i _ _ hi g1 with ⟨j, B0, e1, e2, e3, rfl⟩ | ⟨e0, e1, e2, e3⟩
      · have hbr : BR ρ2 M' W' b s (rnB (kapN ix H.length) (p'.getD j false) B0) := rnB_ok hout (q3.blk j b s B0 e2 e3) (fun e _ => by
          rw [List.getD_eq_getElem?_getD] at e
          cases hpj : p'[j]? with
          | none => rw [hpj] at e; cases e
          | some y =>
            rw [hpj] at e
            simp only [Option.getD_some] at e
            subst e
            exact pureQ_at hq' j _ hpj e3)
        cases hc : rnB (kapN ix H.length) (p'.getD j false) B0 with
        | dead => trivial
        | arr L cs fz =>
          rw [hc] at hbr
          obtain ⟨d1, d2, ⟨cur, e, fr, d3, d4, d5, d6⟩, d7, d8⟩ := hbr
          exact ⟨d1, d2, ⟨cur, e, fr, d3, d4, d5, fun k c hk => by
            obtain ⟨u, u1, u2, u3⟩ := d6 k c hk
            exact ⟨u, u1, u2, vr2 u3⟩⟩, by rw [c2]; exact d7, d8⟩
        | map es fz =>
          rw [hc] at hbr
          obtain ⟨⟨ents, clock, d1, dt, pq, d2, d3, d4, d5, d6⟩, d7⟩ := hbr
          exact ⟨⟨ents, clock, d1, dt, pq, d2, d3, d4, fun k c u x y => vr2 (d5 k c u x y), fun k c u x y => vr2 (d6 k c u x y)⟩, by rw [m2]; exact d7⟩
        | iter cur left =>
          rw [hc] at hbr
          obtain ⟨h0i, m, since, seen, last, d1, d2⟩ := hbr
          refine ⟨h0i, m, since, seen, last, d1, ?_⟩
          cases m with
          | none => exact d2
          | some mb =>
            obtain ⟨kv, k1, k2, k3, ⟨rest, r1, r2, r3, r4⟩, k4⟩ := d2
            exact ⟨kv, by rw [m2]; exact k1, k2, k3, ⟨rest, r1, r2, fun k c u x y => vr2 (r3 k c u x y), fun k c u x y => vr2 (r4 k c u x y)⟩, fun c hc => by obtain ⟨e, e1, e2, e3, e4⟩ := k4 c hc; exact ⟨e, e1, e2, vr2 e3, vr2 e4⟩⟩
      · by_cases hl : B.live
        · have hb := hlive e0 e2 e3 hl
          obtain ⟨k1, k2, k3, k4⟩ := hheld b hb
          refine (hw.blk i b s B e2 e3).mem hle2 (fun o v e => ?_) (fun kv e => ?_) k1 (fun k y hk => ?_)
          · rw [c2] at e; exact k3 o v e
          · rw [m2] at e; exact k4 kv e
          · have hkl := hw.dom k y hk
            rw [hρ2]
            simp only [if_pos hkl]
            cases hbk : backN ix k with
            | some j => exact q2 j y (hin k j y hbk hk)
            | none => exact hk
        · cases B with
          | dead => trivial
          | arr => exact absurd trivial hl
          | map => exact absurd trivial hl
          | iter => exact absurd trivial hl
    · rw [o2]
      split
      · rfl
      · rename_i hnb
        rcases cse i _ _ hi g1 with ⟨j, B0, e1, e2, e3, rfl⟩ | ⟨e0, e1, e2, e3⟩
        · exact q3.apart j b s B0 e2 e3 (rnB_live l1)
        · exact absurd (hlive e0 e2 e3 l1) hnb
  · refine ⟨fun b o v hb e => ?_, fun b kv hb e => ?_, fun b o hb e => ?_⟩
    · rw [c2] at e
      have := q5.cell b o v hb e
      rw [c1] at this
      exact this
    · rw [m2] at e
      have := q5.map b kv hb e
      rw [m1] at this
      exact this
    · rw [o2] at e
      split at e
      · cases e
      · rename_i hnb
        have := q5.obj b o hb e
        rw [o1, if_neg hnb] at this
        exact this
/-! blocks that a call leaves, laid otherwise -/
def backO : List (Option Nat) → Nat → Option Nat
  | [], _ => none
  | some x :: r, i => if Nat.beq x i then some 0 else match backO r i with
    | some j => some (j + 1)
    | none => none
  | none :: r, i => match backO r i with
    | some j => some (j + 1)
    | none => none
def layB (f : Nat → Option Nat) (H : List Bk) : List Bool → List (Option Nat) → List Bk
  | _, [] => []
  | p, none :: r => .dead :: layB f H (p.drop 1) r
  | p, some j :: r => rnB f (p.getD 0 false) (H.getD j .dead) :: layB f H (p.drop 1) r
def layQ (H : List Bk) : List Bool → List (Option Nat) → List Prop
  | true :: p, some j :: r => (pureB (H.getD j .dead) = true) :: layQ H p r
  | _ :: p, _ :: r => layQ H p r
  | _, _ => []
def keptO : Nat → Nat → List (Option Nat) → Bool
  | _, 0, _ => true
  | i, n + 1, none :: r => keptO (i + 1) n r
  | i, n + 1, some j :: r => Nat.beq i j && keptO (i + 1) n r
  | _, _ + 1, [] => false
def nodupO : List (Option Nat) → Bool
  | [] => true
  | none :: r => nodupO r
  | some x :: r => !(backO r x).isSome && nodupO r
theorem backO_some : ∀ {ix : List (Option Nat)} {i j : Nat}, backO ix i = some j → ix[j]? = some (some i)
  | some x :: r, i, j, h => by
    unfold backO at h
    split at h
    · rename_i e
      cases h
      rw [(beq_iff _ _).1 e]; rfl
    · split at h
      · rename_i k e
        cases h
        show r[k]? = some (some i)
        exact backO_some e
      · cases h
  | none :: r, i, j, h => by
    unfold backO at h
    split at h
    · rename_i k e
      cases h
      show r[k]? = some (some i)
      exact backO_some e
    · cases h
theorem backO_none : ∀ {ix : List (Option Nat)} {i : Nat}, backO ix i = none → some i ∉ ix
  | [], i, _ => by simp
  | some x :: r, i, h => by
    unfold backO at h
    split at h
    · cases h
    · rename_i e
      split at h
      · cases h
      · rename_i e2
        intro hm
        rcases List.mem_cons.1 hm with q | hm
        · cases q
          exact e ((beq_iff _ _).2 rfl)
        · exact backO_none e2 hm
  | none :: r, i, h => by
    unfold backO at h
    split at h
    · cases h
    · rename_i e2
      intro hm
      rcases List.mem_cons.1 hm with q | hm
      · cases q
      · exact backO_none e2 hm
theorem nodupO_at : ∀ {ix : List (Option Nat)}, nodupO ix = true → ∀ (i k j : Nat), ix[i]? = some (some j) → ix[k]? = some (some j) → i = k
  | some x :: r, h, i, k, j, h1, h2 => by
    unfold nodupO at h
    rw [Bool.and_eq_true] at h
    have hno : some x ∉ r := by
      cases e : backO r x with
      | some y => rw [e] at h; simp at h
      | none => exact backO_none e
    cases i with
    | zero =>
      simp at h1
      cases k with
      | zero => rfl
      | succ k =>
        subst h1
        exact absurd (List.mem_of_getElem? (show r[k]? = some (some x) from h2)) hno
    | succ i =>
      cases k with
      | zero =>
        simp at h2
        subst h2
        exact absurd (List.mem_of_getElem? (show r[i]? = some (some x) from h1)) hno
      | succ k => rw [nodupO_at h.2 i k j h1 h2]
  | none :: r, h, i, k, j, h1, h2 => by
    cases i with
    | zero => simp at h1
    | succ i =>
      cases k with
      | zero => simp at h2
      | succ k => rw [nodupO_at (ix := r) h i k j h1 h2]
  | [], h, i, k, j, h1, h2 => by simp at h1
theorem keptO_at : ∀ {i n : Nat} {ix : List (Option Nat)}, keptO i n ix = true → n ≤ ix.length ∧ ∀ (k j : Nat), k < n → ix[k]? = some (some j) → j = i + k
  | i, 0, ix, h => ⟨Nat.zero_le _, fun k j hk => by omega⟩
  | i, n + 1, none :: r, h => by
    obtain ⟨h1, h2⟩ := keptO_at (ix := r) h
    refine ⟨by simp; omega, fun k j hk hj => ?_⟩
    cases k with
    | zero => simp at hj
    | succ k => have := h2 k j (by omega) hj; omega
  | i, n + 1, some x :: r, h => by
    unfold keptO at h
    rw [Bool.and_eq_true] at h
    obtain ⟨h1, h2⟩ := keptO_at h.2
    refine ⟨by simp; omega, fun k j hk hj => ?_⟩
    cases k with
    | zero =>
      simp at hj
      have := (beq_iff _ _).1 h.1
      omega
    | succ k => have := h2 k j (by omega) hj; omega
theorem layB_at {f : Nat → Option Nat} {H : List Bk} : ∀ (p : List Bool) (src : List (Option Nat)), (layB f H p src).length = src.length ∧ ∀ (i : Nat), (∀ j, src[i]? = some (some j) → (layB f H p src)[i]? = some (rnB f (p.getD i false) (H.getD j .dead))) ∧ (src[i]? = some none → (layB f H p src)[i]? = some .dead)
  | p, [] => ⟨rfl, fun i => ⟨fun j h => by simp at h, fun h => by simp at h⟩⟩
  | p, x :: r => by
    obtain ⟨h1, h2⟩ := layB_at (f := f) (H := H) (p.drop 1) r
    have e : ∀ i, (p.drop 1).getD i false = p.getD (i + 1) false := fun i => by
      rw [List.getD_eq_getElem?_getD, List.getD_eq_getElem?_getD, List.getElem?_drop, Nat.add_comm]
    cases x with
    | none =>
      refine ⟨by show (layB f H (p.drop 1) r).length + 1 = _; rw [h1]; rfl, fun i => ?_⟩
      cases i with
      | zero => exact ⟨fun j h => by simp at h, fun _ => rfl⟩
      | succ i => exact ⟨fun j h => by rw [← e i]; exact (h2 i).1 j h, fun h => (h2 i).2 h⟩
    | some y =>
      refine ⟨by show (layB f H (p.drop 1) r).length + 1 = _; rw [h1]; rfl, fun i => ?_⟩
      cases i with
      | zero => exact ⟨fun j h => by simp at h; subst h; rfl, fun h => by simp at h⟩
      | succ i => exact ⟨fun j h => by rw [← e i]; exact (h2 i).1 j h, fun h => (h2 i).2 h⟩
theorem layQ_at {H : List Bk} : ∀ {p : List Bool} {src : List (Option Nat)}, allP (layQ H p src) → ∀ (i j : Nat), p.getD i false = true → src[i]? = some (some j) → pureB (H.getD j .dead) = true
  | true :: p, some x :: r, h, i, j, h1, h2 => by
    cases i with
    | zero => simp at h2; subst h2; exact h.1
    | succ i => exact layQ_at (p := p) h.2 i j h1 h2
  | true :: p, none :: r, h, i, j, h1, h2 => by
    cases i with
    | zero => simp at h2
    | succ i => exact layQ_at (p := p) (src := r) h i j h1 h2
  | false :: p, x :: r, h, i, j, h1, h2 => by
    cases i with
    | zero => simp at h1
    | succ i => exact layQ_at (p := p) (src := r) (by cases x <;> exact h) i j h1 h2
  | [], src, h, i, j, h1, h2 => by simp at h1
  | _ :: _, [], h, i, j, h1, h2 => by simp at h2
/-- the blocks that a call leaves, laid otherwise: src tells where each comes from -/
theorem CallH.lay {P : Program} {G : Nat → Option (List AV)} {fn : FuncId} {args : List AV} {H H1 : List Bk} {r : AV} (h : CallH P G fn args H r H1) (src : List (Option Nat)) (p : List Bool) (hk : keptO 0 H.length src = true) (hn : nodupO src = true) (hq : allP (layQ H1 p src)) :
    CallH P G fn args H (rnT (backO src) r) (layB (backO src) H1 p src) := by
  obtain ⟨h0, h⟩ := h
  refine ⟨h0, fun w0 ρ M W vals hw hg hv => (h w0 ρ M W vals hw hg hv).mono fun e W' hh => ?_⟩
  obtain ⟨v, ρ1, M', rfl, q1, q2, q3, q4, q5⟩ := hh
  obtain ⟨k1, k2⟩ := keptO_at hk
  have hd := nodupO_at hn
  obtain ⟨l1, l2⟩ := layB_at (f := backO src) (H := H1) p src
  obtain ⟨ρ2, hρ2⟩ : ∃ ρ2 : Nm, ρ2 = fun i => if i < H.length then ρ1 i else match src[i]? with
    | some (some j) => ρ1 j
    | _ => none := ⟨_, rfl⟩
  have hf : ∀ j i x, backO src j = some i → ρ1 j = some x → ρ2 i = some x := by
    intro j i x e hj
    have hs := backO_some e
    rw [hρ2]
    simp only
    split
    · rename_i hi
      have := k2 i j hi hs
      rw [Nat.zero_add] at this
      subst this
      exact hj
    · rw [hs]; exact hj
  have cse : ∀ i x B, ρ2 i = some x → (layB (backO src) H1 p src)[i]? = some B → B.live → ∃ j B0, src[i]? = some (some j) ∧ ρ1 j = some x ∧ H1[j]? = some B0 ∧ B = rnB (backO src) (p.getD i false) B0 := by
    intro i x B hi hB hl
    have hil : i < src.length := by rw [← l1]; exact (List.getElem?_eq_some_iff.1 hB).1
    cases hs : src[i] with
    | none =>
      rw [(l2 i).2 (by rw [List.getElem?_eq_getElem hil, hs])] at hB
      cases hB
      exact hl.elim
    | some j =>
      have hsi : src[i]? = some (some j) := by rw [List.getElem?_eq_getElem hil, hs]
      rw [(l2 i).1 j hsi] at hB
      cases hB
      have hj : ρ1 j = some x := by
        rw [hρ2] at hi
        simp only at hi
        split at hi
        · rename_i hlt
          have := k2 i j hlt hsi
          rw [Nat.zero_add] at this
          subst this
          exact hi
        · rw [hsi] at hi; exact hi
      have hjd := q3.dom j x hj
      exact ⟨j, H1[j], hsi, hj, List.getElem?_eq_getElem hjd, by rw [List.getD_eq_getElem?_getD (l := H1), List.getElem?_eq_getElem hjd]; rfl⟩
  refine ⟨v, ρ2, M', rfl, q1, ?_, ?_, rnT_ok hf q4, q5⟩
  · intro i x hi
    rw [hρ2]
    simp only [if_pos (hw.dom i x hi)]
    exact q2 i x hi
  · refine ⟨q3.bel, q3.fro, fun i x hi => ?_, fun i i' b s t B B' hi hi' g1 l1' g2 l2' => ?_, fun i b s B hi g1 l1' => ?_, fun i b s B hi g1 => ?_, fun i b s B hi g1 l1' => ?_⟩
    · rw [l1]
      rw [hρ2] at hi
      simp only at hi
      split at hi
      · omega
      · split at hi
        · rename_i e; exact (List.getElem?_eq_some_iff.1 e).1
        · cases hi
    · obtain ⟨j, B0, e1, e2, e3, rfl⟩ := cse i _ _ hi g1 l1'
      obtain ⟨j', B0', e1', e2', e3', rfl⟩ := cse i' _ _ hi' g2 l2'
      have := q3.inj j j' b s t B0 B0' e2 e2' e3 (rnB_live l1') e3' (rnB_live l2')
      subst this
      exact hd i i' j e1 e1'
    · obtain ⟨j, B0, e1, e2, e3, rfl⟩ := cse i _ _ hi g1 l1'
      exact q3.new j b s B0 e2 e3 (rnB_live l1')
    · by_cases hl : B.live
      · obtain ⟨j, B0, e1, e2, e3, rfl⟩ := cse i _ _ hi g1 hl
        exact rnB_ok hf (q3.blk j b s B0 e2 e3) (fun e _ => by
          have := layQ_at hq i j e e1
          rw [List.getD_eq_getElem?_getD, e3] at this
          exact this)
      · cases B with
        | dead => trivial
        | arr => exact absurd trivial hl
        | map => exact absurd trivial hl
        | iter => exact absurd trivial hl
    · obtain ⟨j, B0, e1, e2, e3, rfl⟩ := cse i _ _ hi g1 l1'
      exact q3.apart j b s B0 e2 e3 (rnB_live l1')
end Go.Pm

set_option linter.unusedVariables false
set_option linter.unusedSimpArgs false
namespace Go.Pm
open Go Go.RowKit
theorem callH_tri {P : Program} {G : Nat → Option (List AV)} {f : FuncId} {fn : Func} {c : Code} {args : List AV} {H : List Bk} {st : St} {e : Ex} {vs : List AV} (hfn : P.funcs[f]? = some fn) (hc : fn.body = some c) (hname : (fn.name == "runtime.NumGoroutine") = false) (hne : ∀ j, e ≠ .exit j)
    (hvs : resL ⟨P, G, H.length⟩ st fn.results.toList = some vs) (htri : Tri ⟨P, G, H.length⟩ c ⟨args ++ List.replicate (fn.ntmps - args.length) (.tup []), H⟩ e st) : CallH P G f args H (oneOf vs) st.h := by
  refine ⟨by unfold enterOk; rw [hfn]; simp [hc, hname], ?_⟩
  intro w0 ρ M W vals hw hg hargs
  have hw' : WR w0 ρ (M.enter W.heap.size) H W := ⟨hw.bel, ⟨hw.fro.cell, hw.fro.map, hw.fro.obj, Nat.le_refl _⟩, hw.dom, hw.inj, hw.new, fun i b s B h1 h2 => (hw.blk i b s B h1 h2).enter _, hw.apart⟩
  have hg' : GlobR G (M.enter W.heap.size) := fun g cs h => (hg g cs h).enter _
  have hargs' : L2 (VR (M.enter W.heap.size) ρ) args vals := ⟨hargs.len, fun i c v h1 h2 => (hargs.at_ i c v h1 h2).enter _⟩
  have hR : Rel ⟨P, G, H.length⟩ w0 ρ (M.enter W.heap.size) ⟨args ++ List.replicate (fn.ntmps - args.length) (.tup []), H⟩ { tmps := vals.toArray ++ Array.replicate (fn.ntmps - vals.toArray.size) undef, defers := [] } W := by
    refine ⟨?_, hw', hg', Nat.le_refl _, Marks.nil _⟩
    have : (vals.toArray ++ Array.replicate (fn.ntmps - vals.toArray.size) undef).toList = vals ++ List.replicate (fn.ntmps - args.length) undef := by simp [hargs.len]
    rw [this]
    refine hargs'.append ⟨by simp, fun i c v h1 h2 => ?_⟩
    rw [List.getElem?_replicate] at h1 h2
    split at h1
    · rename_i hi
      rw [if_pos hi] at h2
      cases h1; cases h2
      exact .mkTup (vs := []) L2.nil
    · cases h1
  refine (callsIn_wide (n := 0)).1 (callsIn_of_wp_marks hfn hc trivial ((wpIn_wide (n := 0)).2 (Code.wp_mono (fun x a' W1 hx => ?_) (htri w0 ρ (M.enter W.heap.size) _ W hR))) rfl)
  obtain ⟨rfl, ρ', M1, q1', q2, q3', q4'⟩ := hx
  have hb1 : M1.base = W.heap.size := q1'.base
  obtain ⟨ds, d1, d2, d3, q4⟩ := q4'.shut M.base (Nat.le_trans hw.fro.base (by rw [← hb1]; exact q4'.wr.fro.base)) (by rw [hb1]; exact hw.bel.size)
  generalize hW' : shutW W1 ds = W' at q4
  generalize hM' : M1.drop M.base = M' at q4
  have q1 : M.le M' := by
    subst hM'
    refine ⟨q1'.cell, q1'.map, fun b o e => ?_, rfl, q1'.oc⟩
    show (if b < M1.base then M1.obj b else none) = some o
    rw [if_pos (by rw [hb1]; exact hw.fro.lto e)]
    exact q1'.obj b o e
  have q3 : Fresh M M' w0.heap.size := by subst hM'; exact ⟨q3'.cell, q3'.map, fun b o hb e => by
    have e' : (if b < M1.base then M1.obj b else none) = some o := e
    split at e'
    · exact q3'.obj b o hb e'
    · cases e'⟩
  obtain ⟨us, hus, hrs⟩ := res_ok q4 _ _ hvs
  have hle : ρ.le ρ' := fun i x hi => q2 i (hw.dom i x hi) x hi
  have hres : ∃ u, (results fn a'.tmps).run P W' = .ok u W' ∧ VR M' ρ' (oneOf vs) u := by
    rw [results_get]
    have hm : (fn.results.mapM (rvGet a'.tmps)).run P W' = .ok us.toArray W' := by
      rw [← Array.toArray_toList (xs := fn.results), List.mapM_toArray, ← bind_pure_comp]
      simp only [Sem.run_bind]
      have hrs' : (fn.results.toList.mapM (rvGet a'.tmps)).run P W' = .ok us W' := hrs
      simp only [hrs', Result.andThen_ok, Sem.run_pure, Function.comp]
    simp only [Sem.run_bind]
    simp only [hm, Result.andThen_ok, Sem.run_pure]
    match vs, us, hus with
    | [v], [u], hus =>
      exact ⟨u, by simp, hus.at_ 0 v u rfl rfl⟩
    | [], [], hus => exact ⟨.tuple #[], by simp, .mkTup (vs := []) L2.nil⟩
    | v :: v2 :: vs, u :: u2 :: us, hus => exact ⟨.tuple (u :: u2 :: us).toArray, by simp, .mkTup hus⟩
    | [], u :: us, hus => have := hus.len; simp at this
    | [v], [], hus => have := hus.len; simp at this
    | [v], u :: u2 :: us, hus => have := hus.len; simp at this
    | v :: v2 :: vs, [], hus => have := hus.len; simp at this
    | v :: v2 :: vs, [u], hus => have := hus.len; simp at this
  obtain ⟨u, hu1, hu2⟩ := hres
  have fin : ∃ v ρ' M', Ending.returned u = .returned v ∧ M.le M' ∧ ρ.le ρ' ∧ WR w0 ρ' M' st.h W' ∧ VR M' ρ' (oneOf vs) v ∧ Fresh M M' w0.heap.size := ⟨u, ρ', M', rfl, q1, hle, q4.wr, hu2, q3⟩
  cases e with
  | normal =>
    show LeavesInM Fence.wide 0 P fn a'.tmps _ a'.defers .returning W1
    rw [d1]
    exact leaves_marks ds W1 d2 d3 (by rw [hW']; exact ⟨u, hu1, fin⟩)
  | ret =>
    show LeavesInM Fence.wide 0 P fn a'.tmps _ a'.defers .returning W1
    rw [d1]
    exact leaves_marks ds W1 d2 d3 (by rw [hW']; exact ⟨u, hu1, fin⟩)
  | exit j => exact (hne j rfl).elim
/-- a loop's end, one of many -/
def LoopX (C : Cx) (c : Code) (st : St) (Q : Ex → St → Prop) : Prop :=
  ∀ (w0 : World) (ρ : Nm) (M : Mem) (a : Act) (W : World), Rel C w0 ρ M st a W → ∀ (b : Frame) (k : List Item) (cs : List Frame), ∃ e st' x a' W', Q e st' ∧
    After C w0 ρ M e st' x a' W' ∧ Arrives C.P (lone (b.at a (.code c :: .inLoop c :: k)) cs W) b k cs x a' W'
/-- a code's end, one of many -/
def TriX (C : Cx) (c : Code) (st : St) (Q : Ex → St → Prop) : Prop :=
  ∀ (w0 : World) (ρ : Nm) (M : Mem) (a : Act) (W : World), Rel C w0 ρ M st a W → c.wp C.P (fun x a' W' => ∃ e st', Q e st' ∧ After C w0 ρ M e st' x a' W') a W
theorem LoopX.tri {C : Cx} {c : Code} {st : St} {Q : Ex → St → Prop} (h : LoopX C c st Q) : TriX C (.loop c) st Q := by
  intro w0 ρ M a W hR b k cs
  obtain ⟨e, st', x, a', W', hq, h2, harr⟩ := h w0 ρ M a W hR b k cs
  exact ⟨x, a', W', ⟨e, st', hq, h2⟩, .of_steps (.one step_loop) harr⟩
theorem Tri.x {C : Cx} {c : Code} {st st' : St} {e : Ex} (h : Tri C c st e st') : TriX C c st (fun e' s => e' = e ∧ s = st') := by
  intro w0 ρ M a W hR
  exact Code.wp_mono (fun x a' W' hx => ⟨e, st', ⟨rfl, rfl⟩, hx⟩) (h w0 ρ M a W hR)
theorem TriX.tri {C : Cx} {c : Code} {st st' : St} {e : Ex} (h : TriX C c st (fun e' s => e' = e ∧ s = st')) : Tri C c st e st' := by
  intro w0 ρ M a W hR
  refine Code.wp_mono (fun x a' W' hx => ?_) (h w0 ρ M a W hR)
  obtain ⟨_, _, ⟨rfl, rfl⟩, h2⟩ := hx
  exact h2
theorem TriX.imp {C : Cx} {c : Code} {st : St} {Q Q' : Ex → St → Prop} (h : TriX C c st Q) (hq : ∀ e s, Q e s → Q' e s) : TriX C c st Q' := by
  intro w0 ρ M a W hR
  refine Code.wp_mono (fun x a' W' hx => ?_) (h w0 ρ M a W hR)
  obtain ⟨e, s, h1, h2⟩ := hx
  exact ⟨e, s, hq e s h1, h2⟩
/-- one behind the other, where the first one's end is one of many -/
theorem TriX.seq {C : Cx} {x y : Code} {st : St} {Q Q' : Ex → St → Prop} (h1 : TriX C x st Q) (h2 : ∀ e st1, Q e st1 → (e = .normal ∧ TriX C y st1 Q') ∨ (e ≠ .normal ∧ Q' e st1)) : TriX C (.seq x y) st Q' := by
  intro w0 ρ M a W hR
  refine wp_seq (Code.wp_mono (fun e' a' W' h => ?_) (h1 w0 ρ M a W hR))
  obtain ⟨e, st1, hq, ha⟩ := h
  rcases h2 e st1 hq with ⟨rfl, hy⟩ | ⟨hne, hq'⟩
  · obtain ⟨rfl, ρ1, M1, q1, q2, q3, q4⟩ := ha
    show y.wp C.P _ a' W'
    refine Code.wp_mono (fun e2 a2 W2 h => ?_) (hy w0 ρ1 M1 a' W' q4)
    obtain ⟨e3, s3, k1, k2⟩ := h
    exact ⟨e3, s3, k1, After.step (C := C) q1 q2 q3 k2⟩
  · have he := ha.1
    subst he
    cases e with
    | normal => exact absurd rfl hne
    | exit n => exact ⟨_, _, hq', ha⟩
    | ret => exact ⟨_, _, hq', ha⟩
/-- a loop that walks over a map, in whatever order, to one of many ends -/
theorem LoopX.range {C : Cx} {c : Code} {n : Oper} {it : Tmp} {b : Nat} {α : Type} (row : α → AV × AV) (hn : headN c = some n) (hop : n.op = .next (.tmp it) false) (S : List α) (T : List α → List AV) (A : List α → List Bk) {e : Ex} (hne : e ≠ .normal) (E : List α → St)
    (hit : ∀ D, (T D)[it]? = some (.ptr b 0)) (hb : ∀ D, b < (A D).length)
    (hstep : ∀ (D : List α) (x : α) (R : List α), (D ++ x :: R).Perm S → TriN C c ⟨putT (T D) n.dst (.tup [.s (.bool true), (row x).1, (row x).2]), putB (A D) (b, .iter [((row x).1, (row x).2)] (R.map row))⟩ .normal ⟨T (D ++ [x]), putB (A (D ++ [x])) (b, .iter [((row x).1, (row x).2)] (R.map row))⟩)
    (hfin : ∀ (D : List α) (cur : List (AV × AV)), D.Perm S → TriN C c ⟨putT (T D) n.dst (.tup [.s (.bool false)]), putB (A D) (b, .iter cur [])⟩ e (E D)) :
    ∀ (m : Nat) (D L : List α) (cur : List (AV × AV)), L.length = m → (D ++ L).Perm S → LoopX C c ⟨T D, putB (A D) (b, .iter cur (L.map row))⟩ (fun e' s => e' = e ∧ ∃ D', D'.Perm S ∧ s = E D') := by
  intro m
  induction m with
  | zero =>
    intro D L cur hm hp w0 ρ M a W hR fr k cs
    obtain rfl := List.length_eq_zero_iff.1 hm
    rw [List.append_nil] at hp
    rcases next_op hop (hit D) (by rw [get_putB, if_pos rfl]) hR with ⟨_, h2⟩ | ⟨_, _, _, h1, _⟩
    · obtain ⟨x, a1, W1, hq, harr⟩ := next_round hn (hfin D cur hp) (fun next Q hq => h2 next Q (hq ρ rfl)) fr (.inLoop c :: k) cs
      obtain ⟨rfl, ρ', M', q1, q2, q3, q4⟩ := hq
      refine ⟨e, _, _, a1, W1, ⟨rfl, D, hp, rfl⟩, ⟨rfl, ρ', M', q1, q2, q3, q4⟩, ?_⟩
      cases e with
      | normal => exact absurd rfl hne
      | exit n => exact .pass (x := .inLoop c) rfl (fun _ _ => .inl (by simp [Ex.to])) harr
      | ret => exact .pass (x := .inLoop c) rfl (fun _ _ => .inl (by simp [Ex.to])) harr
    · have := h1.length_eq; simp at this
  | succ m ih =>
    intro D L cur hm hp w0 ρ M a W hR fr k cs
    rcases next_op hop (hit D) (by rw [get_putB, if_pos rfl]) hR with ⟨h1, _⟩ | ⟨kk, vv, rest, h1, h2⟩
    · have := congrArg List.length h1; rw [List.length_map, hm] at this; simp at this
    · obtain ⟨L', p1, p2⟩ := perm_map_inv h1 rfl
      cases L' with
      | nil => cases p2
      | cons x R =>
        rw [List.map_cons] at p2
        injection p2 with e1 e2
        subst e2
        have ek : kk = (row x).1 := by rw [← e1]
        have ev : vv = (row x).2 := by rw [← e1]
        subst ek ev
        have hlen : R.length = m := by have := p1.length_eq; simp at this; omega
        have hp2 : (D ++ x :: R).Perm S := (p1.symm.append_left D).trans hp
        obtain ⟨y, a1, W1, hq, harr⟩ := next_round hn (hstep D x R hp2) (fun next Q hq => h2 next Q (by rw [putB_putB (hb D)]; exact hq ρ rfl)) fr (.inLoop c :: k) cs
        obtain ⟨rfl, ρ1, M1, q1, q2, q3, q4⟩ := hq
        obtain ⟨e2, s2, x2, a2, W2, hQ, hq2, harr2⟩ := ih (D ++ [x]) R [((row x).1, (row x).2)] hlen (by rw [List.append_assoc]; exact hp2) w0 ρ1 M1 a1 W1 q4 fr k cs
        exact ⟨e2, s2, x2, a2, W2, hQ, After.step (C := C) q1 q2 q3 hq2, .of_steps (Steps.trans harr (.one step_inLoop)) harr2⟩
/-! rows with keys -/
/-- what a call hands back, seen more weakly -/
theorem CallH.weak {P : Program} {G : Nat → Option (List AV)} {f : FuncId} {args : List AV} {H H' : List Bk} {r r' : AV} (h : CallH P G f args H r H') (hr : ∀ M ρ v, VR M ρ r v → VR M ρ r' v) : CallH P G f args H r' H' :=
  ⟨h.1, fun w0 ρ M W vals hw hg ha => (h.2 w0 ρ M W vals hw hg ha).mono fun e w' hh => by
    obtain ⟨v, ρ', M', q0, q1, q2, q3, q4, q5⟩ := hh
    exact ⟨v, ρ', M', q0, q1, q2, q3, hr _ _ _ q4, q5⟩⟩
end Go.Pm
