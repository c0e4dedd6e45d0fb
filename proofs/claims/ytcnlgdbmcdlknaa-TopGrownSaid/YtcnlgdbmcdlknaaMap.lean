/- Maps that a call makes, as association lists. By the prover of this seat. -/
import Derived.WalkKit
import Derived.Maps.OwnOps
import Derived.Carry
namespace Go.Gz
open Go.RowKit
/-- the call returns v and leaves the world alone -/
def Ret (v : Value) (w : World) (e : Ending) (w' : World) : Prop := e = .returned v ∧ w = w'
/-- the call returns v; what was there before it stays -/
def RetB (v : Value) (w : World) (e : Ending) (w' : World) : Prop := e = .returned v ∧ Below w.heap.size w w'
/-- the entry's value under a key -/
def mget {α β : Type} [BEq α] (kvs : List (α × β)) (a : α) : Option β := (kvs.find? (fun p => p.1 == a)).map (·.2)
/-- the list with a key's value laid anew -/
def mset {α β : Type} [BEq α] : List (α × β) → α → β → List (α × β)
  | [], a, v => [(a, v)]
  | p :: r, a, v => if p.1 == a then (a, v) :: r else p :: mset r a v
theorem mget_mset {α β : Type} [BEq α] [LawfulBEq α] (kvs : List (α × β)) (a b : α) (v : β) : mget (mset kvs a v) b = if a == b then some v else mget kvs b := by
  induction kvs with
  | nil => simp only [mset, mget, List.find?_cons]; cases h : a == b <;> simp
  | cons p r ih =>
    unfold mset
    by_cases h : p.1 == a
    · rw [if_pos h]
      have h' := eq_of_beq h
      simp only [mget, List.find?_cons, h']
      cases a == b <;> simp
    · rw [if_neg h]
      simp only [mget, List.find?_cons] at ih ⊢
      cases h2 : p.1 == b
      · simpa [mget] using ih
      · have e := eq_of_beq h2
        subst e
        have : (a == p.1) = false := by
          cases h3 : a == p.1
          · rfl
          · exact absurd (by rw [eq_of_beq h3]; simp) h
        simp [this]
theorem length_mset {α β : Type} [BEq α] (kvs : List (α × β)) (a : α) (v : β) : (mset kvs a v).length ≤ kvs.length + 1 := by
  induction kvs with
  | nil => simp [mset]
  | cons p r ih => unfold mset; split <;> simp; omega
/-- the pairs, as values -/
def raw {α β : Type} (K : α → Value) (V : β → Value) (kvs : List (α × β)) : List (Value × Value) := kvs.map fun p => (K p.1, V p.2)
def rawE (es : List MapEntry) : List (Value × Value) := es.map fun e => (e.key, e.val)
/-- block b is a map with just these entries, in the order in which they came -/
def MapAt {α β : Type} (K : α → Value) (V : β → Value) (w : World) (b : Nat) (kvs : List (α × β)) : Prop :=
  ∃ es clock, w.heap[b]? = some (.map es clock) ∧ rawE es.toList = raw K V kvs
section
variable {α β : Type} {K : α → Value} {V : β → Value} {w : World} {b : Nat} {kvs : List (α × β)}
theorem MapAt.lt (h : MapAt K V w b kvs) : b < w.heap.size := by
  obtain ⟨es, clock, hb, _⟩ := h
  exact (Array.getElem?_eq_some_iff.1 hb).1
theorem MapAt.block {w' : World} (h : MapAt K V w b kvs) (e : w'.heap[b]? = w.heap[b]?) : MapAt K V w' b kvs := by
  obtain ⟨es, clock, hb, r⟩ := h
  exact ⟨es, clock, e.trans hb, r⟩
theorem MapAt.below {w' : World} (h : MapAt K V w b kvs) (hb : Below w.heap.size w w') : MapAt K V w' b kvs := h.block (hb.block b h.lt)
theorem MapAt.made (K : α → Value) (V : β → Value) (w : World) : MapAt K V (w.alloc (.map #[] 0)) w.heap.size [] :=
  ⟨#[], 0, (MapKept.heap_alloc w _).1, rfl⟩
end
/-- what the laws want of a key's type: K lays a key's value -/
structure KeyT {α : Type} [BEq α] (P : Program) (k : TypeId) (K : α → Value) : Prop where
  check : ∀ w em a, (Instr.checkKey em 10000 k (K a)).run P w = .ok () w
  stays : ∀ w a, (Instr.keyThatStays (K a) (K a)).run P w = .ok (K a) w
  find : ∀ (w : World) (a : α) {β : Type} (V : β → Value) (es : List MapEntry) (kvs : List (α × β)), rawE es = raw K V kvs →
    (mget kvs a = none ∧ (Instr.findKey k (K a) es).run P w = .ok none w ∧ ∀ v, mset kvs a v = kvs ++ [(a, v)]) ∨
    (∃ j v e, mget kvs a = some v ∧ (Instr.findKey k (K a) es).run P w = .ok (some (j, V v)) w ∧ es[j]? = some e ∧ e.key = K a ∧
      ∀ v', rawE (es.modify j fun e => { e with key := K a, val := V v' }) = raw K V (mset kvs a v'))
section
variable {α : Type} [BEq α] [LawfulBEq α] {K : α → Value}
theorem beq_turn (a b : α) : (a == b) = (b == a) := by
  cases h1 : a == b <;> cases h2 : b == a <;> first | rfl | (have := eq_of_beq h1; subst this; simp at h2) | (have := eq_of_beq h2; rw [this] at h1; simp at h1)
theorem findNow_list {β : Type} {V : β → Value} {d : TypeDesc} (hs : ∀ a b, Instr.sameNow d (K a) (K b) = some (a == b)) (a : α) : ∀ (es : List MapEntry) (kvs : List (α × β)) (i : Nat), rawE es = raw K V kvs →
    (mget kvs a = none ∧ Instr.findNow d (K a) es i = some none ∧ ∀ v, mset kvs a v = kvs ++ [(a, v)]) ∨
    (∃ j v e, mget kvs a = some v ∧ Instr.findNow d (K a) es i = some (some (i + j, V v)) ∧ es[j]? = some e ∧ e.key = K a ∧
      ∀ v', rawE (es.modify j fun e => { e with key := K a, val := V v' }) = raw K V (mset kvs a v')) := by
  intro es
  induction es with
  | nil =>
    intro kvs i h
    have : kvs = [] := by cases kvs <;> simp_all [raw, rawE]
    subst this
    exact .inl ⟨rfl, rfl, fun v => rfl⟩
  | cons e r ih =>
    intro kvs i h
    cases kvs with
    | nil => simp [raw, rawE] at h
    | cons p kvs =>
      simp only [raw, rawE, List.map_cons, List.cons.injEq, Prod.mk.injEq] at h
      obtain ⟨⟨hk, hv⟩, hr⟩ := h
      have hs' := hs a p.1
      rw [beq_turn] at hs'
      unfold Instr.findNow
      rw [hk, hs']
      cases hp : p.1 == a
      · rcases ih kvs (i + 1) hr with ⟨h1, h2, h3⟩ | ⟨j, v, e0, h1, h2, h3, h4, h5⟩
        · refine .inl ⟨by simpa [mget, List.find?_cons, hp] using h1, h2, fun v => ?_⟩
          unfold mset
          rw [if_neg (by simp [hp]), h3 v]
          rfl
        · refine .inr ⟨j + 1, v, e0, by simpa [mget, List.find?_cons, hp] using h1, by simp only [h2]; congr 3; omega, by simpa using h3, h4, fun v' => ?_⟩
          unfold mset
          rw [if_neg (by simp [hp])]
          have := h5 v'
          simp only [raw, rawE, List.modify_succ_cons, List.map_cons, hk, hv] at this ⊢
          rw [this]
      · have e' := eq_of_beq hp
        refine .inr ⟨0, p.2, e, by simp [mget, hp], by simp [hv], by simp, by rw [hk, e'], fun v' => ?_⟩
        unfold mset
        rw [if_pos hp]
        simp [raw, rawE, hr]
theorem plain_key {P : Program} {k : TypeId} {d : TypeDesc} (hk : P.underlying k = some d) (hs : ∀ a b, Instr.sameNow d (K a) (K b) = some (a == b)) (hkey : ∀ a, MapKept.IsKey d (K a)) : KeyT P k K where
  check w em a := MapKept.run_checkKey hk (hkey a) em 9999
  stays w a := MapKept.run_keyThatStays (hkey a)
  find w a {β} V es kvs h := by
    rcases findNow_list (V := V) hs a es kvs 0 h with ⟨h1, h2, h3⟩ | ⟨j, v, e, h1, h2, h3, h4, h5⟩
    · exact .inl ⟨h1, MapKept.run_findKey hk h2, h3⟩
    · exact .inr ⟨j, v, e, h1, by simpa using MapKept.run_findKey (w := w) hk h2, h3, h4, h5⟩
end
theorem key_int {P : Program} {k : TypeId} {q : IntKind} (hk : P.underlying k = some (.int q)) : KeyT P k (Value.int q) :=
  plain_key hk (fun a b => by simp [Instr.sameNow]) fun _ => by simp [MapKept.IsKey]
section
variable {α β : Type} [BEq α] {K : α → Value} {V : β → Value} {w : World} {b : Nat} {kvs : List (α × β)} {P : Program} {t k e : TypeId}
theorem run_lookup (ht : P.underlying t = some (.map k e)) (pl : KeyT P k K) (h : MapAt K V w b kvs) {z : Value} (hz : (zeroValue e).run P w = .ok z w) (a : α) (ok : Bool) :
    (Instr.lookup t (.map (some b)) (K a) ok).run P w = .ok (if ok then .tuple #[((mget kvs a).map V).getD z, .bool (mget kvs a).isSome] else ((mget kvs a).map V).getD z) w := by
  obtain ⟨es, clock, hb, hes⟩ := h
  have hc := pl.check w es.isEmpty a
  rcases pl.find w a V es.toList kvs hes with ⟨h1, hf, _⟩ | ⟨j, v, e0, h1, hf, _, _, _⟩
  · simp [Instr.lookup, run_underlying ht, getObj, Sem.run, hb, hc, hf, hz, h1]
  · simp [Instr.lookup, run_underlying ht, getObj, Sem.run, hb, hc, hf, h1]
/-- a nil map has nothing -/
theorem run_lookup_nil (ht : P.underlying t = some (.map k e)) (pl : KeyT P k K) {z : Value} (hz : (zeroValue e).run P w = .ok z w) (a : α) (ok : Bool) :
    (Instr.lookup t (.map none) (K a) ok).run P w = .ok (if ok then .tuple #[z, .bool false] else z) w := by
  have hc := pl.check w true a
  rcases pl.find w a (fun _ : Unit => z) [] [] rfl with ⟨h1, hf, _⟩ | ⟨j, v, e0, h1, hf, h2, _, _⟩
  · simp [Instr.lookup, run_underlying ht, hc, hf, hz]
  · simp at h2
theorem run_update (ht : P.underlying t = some (.map k e)) (pl : KeyT P k K) (h : MapAt K V w b kvs) (a : α) (v : β) :
    ∃ w', (Instr.mapUpdate t (.map (some b)) (K a) (V v)).run P w = .ok () w' ∧ MapAt K V w' b (mset kvs a v) ∧ w.grownBy w' (some b) := by
  obtain ⟨es, clock, hb, hes⟩ := h
  have hc := pl.check w false a
  have grown : ∀ o : Obj, w.grownBy (ChangeMaps.setBlock w b o) (some b) := fun o => ⟨rfl, rfl, rfl, by simp [ChangeMaps.setBlock], fun i _ hi => ChangeMaps.heap_setBlock_other hb _ (fun e => hi (by rw [e]))⟩
  rcases pl.find w a V es.toList kvs hes with ⟨h1, hf, h3⟩ | ⟨j, v0, e0, h1, hf, h2, h4, h5⟩
  · refine ⟨ChangeMaps.setBlock w b (.map (es.push { key := K a, val := V v, born := clock }) (clock + 1)), ?_, ⟨_, _, ChangeMaps.heap_setBlock_same hb _, ?_⟩, grown _⟩
    · simp [Instr.mapUpdate, run_underlying ht, getObj, setObj, Sem.run, hb, hc, hf, ChangeMaps.setBlock]
    · rw [h3]; simp [rawE, raw] at hes ⊢; exact hes
  · have hs := pl.stays w a
    refine ⟨ChangeMaps.setBlock w b (.map (es.modify j fun e => { e with key := K a, val := V v }) clock), ?_, ⟨_, _, ChangeMaps.heap_setBlock_same hb _, ?_⟩, grown _⟩
    · have h2' : es[j]? = some e0 := by simpa using h2
      simp [Instr.mapUpdate, run_underlying ht, getObj, setObj, Sem.run, hb, hc, hf, h2', h4, hs, ChangeMaps.setBlock]
    · rw [← h5 v]; simp
theorem run_makeMap_hint (ht : P.underlying t = some (.map k e)) (w : World) (q : IntKind) (n : Int) : (Instr.makeMap t (some (.int q n))).run P w = .ok (.map (some w.heap.size)) (w.alloc (.map #[] 0)) := by
  simp [Instr.makeMap, run_underlying ht, asInt, asIntOf, newObj, Sem.run]
variable {ops : Array Oper} {rest : List Oper} {o : Oper} {a : Act} {Q : Exit → Act → World → Prop}
/-- m[k] at the operation -/
theorem wp_lookup (hg : o.guard = none) (m x : Operand) (hop : o.op = Op.lookup t m x false) (ht : P.underlying t = some (.map k e)) (pl : KeyT P k K) (hm : a.eval m = .map (some b)) (h : MapAt K V w b kvs)
    {z : Value} (hz : (zeroValue e).run P w = .ok z w) (key : α) (hx : a.eval x = K key) (hK : wpList P ops Q rest (a.put o.dst (((mget kvs key).map V).getD z)) w) : wpList P ops Q (o :: rest) a w := by
  refine wpList_plain hg fun K' hK' => ?_
  have := run_lookup ht pl h hz key false
  unfold Oper.wp
  simp [execOp, hop, hm, hx, this, Result.andThen]
  exact hK' _ _ hK
/-- m[k] = v at the operation -/
theorem wp_update (hg : o.guard = none) (m x v : Operand) (hop : o.op = Op.mapUpdate t m x v) (ht : P.underlying t = some (.map k e)) (pl : KeyT P k K) (hm : a.eval m = .map (some b)) (h : MapAt K V w b kvs)
    (key : α) (val : β) (hx : a.eval x = K key) (hv : a.eval v = V val) (hK : ∀ w', MapAt K V w' b (mset kvs key val) → w.grownBy w' (some b) → wpList P ops Q rest (a.put o.dst undef) w') : wpList P ops Q (o :: rest) a w := by
  refine wpList_plain hg fun K' hK' => ?_
  obtain ⟨w', hrun, r1, r2⟩ := run_update ht pl h key val
  unfold Oper.wp
  simp [execOp, hop, hm, hx, hv, hrun, Result.andThen]
  exact hK' _ _ (hK w' r1 r2)
end
end Go.Gz
