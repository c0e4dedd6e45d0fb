/- The machine of plain values: how its values and its blocks stand to the model's. By the prover of this seat. -/
import Derived.Test.YtjjmidhpilmnbaaDoorPm1
import Derived.Below
set_option linter.unusedVariables false
namespace Go.Pm
open Go Go.RowKit
/-- memory that nobody writes any more -/
structure Mem where
  cell : Nat → Nat → Option Value
  map : Nat → Option (List (Value × Value))
structure Mem.le (M M' : Mem) : Prop where
  cell : ∀ b o v, M.cell b o = some v → M'.cell b o = some v
  map : ∀ b v, M.map b = some v → M'.map b = some v
theorem Mem.le.refl (M : Mem) : M.le M := ⟨fun _ _ _ h => h, fun _ _ h => h⟩
theorem Mem.le.trans {M M' M'' : Mem} (h : M.le M') (k : M'.le M'') : M.le M'' := ⟨fun b o v e => k.cell b o v (h.cell b o v e), fun b v e => k.map b v (h.map b v e)⟩
abbrev Nm := Nat → Option (Nat × Nat)
def Nm.none : Nm := fun _ => Option.none
def Nm.le (ρ ρ' : Nm) : Prop := ∀ i x, ρ i = some x → ρ' i = some x
theorem Nm.le.refl (ρ : Nm) : ρ.le ρ := fun _ _ h => h
theorem Nm.le.trans {ρ ρ' ρ'' : Nm} (h : ρ.le ρ') (k : ρ'.le ρ'') : ρ.le ρ'' := fun i x e => k i x (h i x e)
theorem Nm.none_le (ρ : Nm) : Nm.none.le ρ := fun i x h => by cases h
/-- the model's value v is what a says, where ρ tells which blocks the own ones are, and M what nobody writes any more -/
inductive VR (M : Mem) : Nm → AV → Value → Prop
  | any (ρ v) : VR M ρ .any v
  | s (ρ v) : VR M ρ (.s v) v
  | agg {ρ} {cs : List AV} {vs : List Value} : cs.length = vs.length → (∀ (i : Nat) c v, cs[i]? = some c → vs[i]? = some v → VR M ρ c v) → (∀ v ∈ vs, v.oneCell' = true) → VR M ρ (.agg cs) (.agg vs.toArray)
  | tup {ρ} {cs : List AV} {vs : List Value} : cs.length = vs.length → (∀ (i : Nat) c v, cs[i]? = some c → vs[i]? = some v → VR M ρ c v) → VR M ρ (.tup cs) (.tuple vs.toArray)
  | sl_e {ρ n a cap} : n ≤ cap → (a = none → cap = 0) → VR M ρ (.sl n []) (.slice a n cap)
  | sl {ρ n b off cap} {cs : List AV} (f : Nat → Value) : n ≤ cap → (∀ (i : Nat) c, cs[i]? = some c → M.cell b (off + i) = some (f i)) → (∀ (i : Nat) c, cs[i]? = some c → VR M Nm.none c (f i)) → VR M ρ (.sl n cs) (.slice (some ⟨b, off, none⟩) n cap)
  | sx_e {ρ n A cap} : n ≤ cap → VR M ρ (.sx n []) (.slice (some A) n cap)
  | sx {ρ n b off cap} {cs : List AV} (f : Nat → Value) : n ≤ cap → (∀ (i : Nat) c, cs[i]? = some c → M.cell b (off + i) = some (f i)) → (∀ (i : Nat) c, cs[i]? = some c → VR M Nm.none c (f i)) → VR M ρ (.sx n cs) (.slice (some ⟨b, off, none⟩) n cap)
  | nsl {ρ a} : VR M ρ .nsl (.slice a 0 0)
  | osl_e {ρ id off k a} : VR M ρ (.osl id off 0 k) (.slice a 0 0)
  | osl {ρ id off n k b sz cap} : ρ id = some (b, sz) → n ≤ cap → off + cap * k ≤ sz → VR M ρ (.osl id off n k) (.slice (some ⟨b, off, none⟩) n cap)
  | ptr {ρ id off b sz} : ρ id = some (b, sz) → VR M ρ (.ptr id off) (.pointer (some ⟨b, off, none⟩))
  | fptr_e {ρ a} : VR M ρ (.fptr []) (.pointer (some a))
  | fptr {ρ b off} {cs : List AV} (f : Nat → Value) : (∀ (i : Nat) c, cs[i]? = some c → M.cell b (off + i) = some (f i)) → (∀ (i : Nat) c, cs[i]? = some c → VR M Nm.none c (f i)) → VR M ρ (.fptr cs) (.pointer (some ⟨b, off, none⟩))
  | mp_e {ρ} : VR M ρ (.mp []) (.map none)
  | mp {ρ b} {es : List (AV × AV)} (kv pq : List (Value × Value)) : M.map b = some kv → kv.Perm pq → es.length = pq.length → es.Pairwise (fun p q => keyB p.1 q.1 = false) → (∀ (i : Nat) c v, es[i]? = some c → pq[i]? = some v → VR M Nm.none c.1 v.1) → (∀ (i : Nat) c v, es[i]? = some c → pq[i]? = some v → VR M Nm.none c.2 v.2) → VR M ρ (.mp es) (.map (some b))
  | omp {ρ id b sz} : ρ id = some (b, sz) → VR M ρ (.omp id) (.map (some b))
  | fn {ρ f} {xs ys : List AV} {us vs : List Value} : xs.length = us.length → (∀ (i : Nat) c v, xs[i]? = some c → us[i]? = some v → VR M ρ c v) → ys.length = vs.length → (∀ (i : Nat) c v, ys[i]? = some c → vs[i]? = some v → VR M ρ c v) → VR M ρ (.fn f xs ys) (.func f us.toArray vs.toArray)
theorem VR.mono {M M' : Mem} (hM : M.le M') {ρ : Nm} {a : AV} {v : Value} (h : VR M ρ a v) : ∀ {ρ' : Nm}, ρ.le ρ' → VR M' ρ' a v := by
  induction h with
  | any => exact fun _ => .any _ _
  | s => exact fun _ => .s _ _
  | agg h1 h2 h3 ih => exact fun hr => .agg h1 (fun i c v a b => ih i c v a b hr) h3
  | tup h1 h2 ih => exact fun hr => .tup h1 (fun i c v a b => ih i c v a b hr)
  | sl_e h1 h2 => exact fun _ => .sl_e h1 h2
  | sl f h1 h2 h3 ih => exact fun _ => .sl f h1 (fun i c e => hM.cell _ _ _ (h2 i c e)) (fun i c e => ih i c e (Nm.le.refl _))
  | sx_e h1 => exact fun _ => .sx_e h1
  | sx f h1 h2 h3 ih => exact fun _ => .sx f h1 (fun i c e => hM.cell _ _ _ (h2 i c e)) (fun i c e => ih i c e (Nm.le.refl _))
  | nsl => exact fun _ => .nsl
  | osl_e => exact fun _ => .osl_e
  | osl h1 h2 h3 => exact fun hr => .osl (hr _ _ h1) h2 h3
  | ptr h1 => exact fun hr => .ptr (hr _ _ h1)
  | fptr_e => exact fun _ => .fptr_e
  | fptr f h2 h3 ih => exact fun _ => .fptr f (fun i c e => hM.cell _ _ _ (h2 i c e)) (fun i c e => ih i c e (Nm.le.refl _))
  | mp_e => exact fun _ => .mp_e
  | mp kv pq h1 h2 h3 h6 h4 h5 ih1 ih2 => exact fun _ => .mp kv pq (hM.map _ _ h1) h2 h3 h6 (fun i c v a b => ih1 i c v a b (Nm.le.refl _)) (fun i c v a b => ih2 i c v a b (Nm.le.refl _))
  | omp h1 => exact fun hr => .omp (hr _ _ h1)
  | fn h1 h2 h3 h4 ih1 ih2 => exact fun hr => .fn h1 (fun i c v a b => ih1 i c v a b hr) h3 (fun i c v a b => ih2 i c v a b hr)
/-- two lists, place by place -/
structure L2 (R : AV → Value → Prop) (cs : List AV) (vs : List Value) : Prop where
  len : cs.length = vs.length
  at_ : ∀ (i : Nat) c v, cs[i]? = some c → vs[i]? = some v → R c v
section
variable {R : AV → Value → Prop} {cs ds : List AV} {vs us : List Value}
theorem L2.nil : L2 R [] [] := ⟨rfl, fun i c v h => by simp at h⟩
theorem L2.cons {c : AV} {v : Value} (h : R c v) (t : L2 R cs vs) : L2 R (c :: cs) (v :: vs) := by
  refine ⟨by simp [t.len], fun i c' v' a b => ?_⟩
  cases i with
  | zero => simp at a b; subst a b; exact h
  | succ i => exact t.at_ i c' v' (by simpa using a) (by simpa using b)
theorem L2.inv_cons {c : AV} (h : L2 R (c :: cs) vs) : ∃ v vs', vs = v :: vs' ∧ R c v ∧ L2 R cs vs' := by
  cases vs with
  | nil => have := h.len; simp at this
  | cons v vs' => exact ⟨v, vs', rfl, h.at_ 0 c v rfl rfl, ⟨by have := h.len; simpa using this, fun i c' v' a b => h.at_ (i + 1) c' v' (by simpa using a) (by simpa using b)⟩⟩
theorem L2.append (h : L2 R cs vs) (k : L2 R ds us) : L2 R (cs ++ ds) (vs ++ us) := by
  refine ⟨by simp [h.len, k.len], fun i c v a b => ?_⟩
  by_cases hi : i < cs.length
  · rw [List.getElem?_append_left hi] at a
    rw [List.getElem?_append_left (by rw [← h.len]; exact hi)] at b
    exact h.at_ i c v a b
  · rw [List.getElem?_append_right (by omega)] at a
    rw [List.getElem?_append_right (by rw [← h.len]; omega), ← h.len] at b
    exact k.at_ _ c v a b
theorem L2.take (h : L2 R cs vs) (n : Nat) : L2 R (cs.take n) (vs.take n) := by
  refine ⟨by simp [h.len], fun i c v a b => ?_⟩
  rw [List.getElem?_take] at a b
  split at a
  · rename_i hi; rw [if_pos hi] at b; exact h.at_ i c v a b
  · cases a
theorem L2.drop (h : L2 R cs vs) (n : Nat) : L2 R (cs.drop n) (vs.drop n) := by
  refine ⟨by simp [h.len], fun i c v a b => ?_⟩
  rw [List.getElem?_drop] at a b
  exact h.at_ _ c v a b
theorem L2.splice (h : L2 R cs vs) (off : Nat) (k : L2 R ds us) : L2 R (Pm.splice cs off ds) (Pm.splice vs off us) := by
  unfold Pm.splice
  rw [k.len]
  exact ((h.take off).append k).append (h.drop _)
theorem L2.imp {R' : AV → Value → Prop} (h : L2 R cs vs) (f : ∀ c v, R c v → R' c v) : L2 R' cs vs := ⟨h.len, fun i c v a b => f c v (h.at_ i c v a b)⟩
theorem L2.get {i : Nat} {c : AV} (h : L2 R cs vs) (hc : cs[i]? = some c) : ∃ v, vs[i]? = some v ∧ R c v := by
  have hi : i < vs.length := by rw [← h.len]; exact (List.getElem?_eq_some_iff.1 hc).1
  exact ⟨vs[i], by simp [hi], h.at_ i c _ hc (by simp [hi])⟩
theorem L2.set {i : Nat} {c : AV} {v : Value} (h : L2 R cs vs) (hc : R c v) : L2 R (cs.set i c) (vs.set i v) := by
  refine ⟨by simp [h.len], fun j d u a b => ?_⟩
  rw [List.getElem?_set] at a b
  split at a
  · rename_i e; subst e
    rw [if_pos rfl] at b
    split at a
    · cases a
      rw [if_pos (by rw [← h.len]; assumption)] at b
      cases b; exact hc
    · cases a
  · rename_i e
    rw [if_neg e] at b
    exact h.at_ j d u a b
theorem L2.map {α : Type} (l : List α) (f : α → AV) (g : α → Value) (h : ∀ x ∈ l, R (f x) (g x)) : L2 R (l.map f) (l.map g) := by
  induction l with
  | nil => exact L2.nil
  | cons x l ih => exact L2.cons (h x (by simp)) (ih fun y hy => h y (by simp [hy]))
end
theorem VR.inv_agg {M : Mem} {ρ : Nm} {cs : List AV} {v : Value} (h : VR M ρ (.agg cs) v) : ∃ vs : List Value, v = .agg vs.toArray ∧ L2 (VR M ρ) cs vs ∧ ∀ u ∈ vs, u.oneCell' = true := by
  cases h with
  | agg h1 h2 h3 => exact ⟨_, rfl, ⟨h1, h2⟩, h3⟩
theorem VR.inv_tup {M : Mem} {ρ : Nm} {cs : List AV} {v : Value} (h : VR M ρ (.tup cs) v) : ∃ vs : List Value, v = .tuple vs.toArray ∧ L2 (VR M ρ) cs vs := by
  cases h with
  | tup h1 h2 => exact ⟨_, rfl, ⟨h1, h2⟩⟩
theorem VR.inv_s {M : Mem} {ρ : Nm} {x v : Value} (h : VR M ρ (.s x) v) : v = x := by cases h; rfl
theorem VR.mkAgg {M : Mem} {ρ : Nm} {cs : List AV} {vs : List Value} (h : L2 (VR M ρ) cs vs) (h1 : ∀ u ∈ vs, u.oneCell' = true) : VR M ρ (.agg cs) (.agg vs.toArray) := .agg h.len h.at_ h1
theorem VR.mkTup {M : Mem} {ρ : Nm} {cs : List AV} {vs : List Value} (h : L2 (VR M ρ) cs vs) : VR M ρ (.tup cs) (.tuple vs.toArray) := .tup h.len h.at_
theorem VR.cell1 {M : Mem} {ρ : Nm} {a : AV} {v : Value} (h : VR M ρ a v) (hc : isCell a = true) : v.oneCell' = true := by
  cases h <;> first | (simp [isCell] at hc; done) | rfl | (simpa [isCell] using hc)
/-- a value's cells -/
theorem VR.cells {M : Mem} {ρ : Nm} {a : AV} {v : Value} (h : VR M ρ a v) (hc : okCells a = true) : L2 (VR M ρ) (cellsA a) v.cells.toList ∧ ∀ u ∈ v.cells.toList, u.oneCell' = true := by
  by_cases ha : ∃ cs, a = .agg cs
  · obtain ⟨cs, rfl⟩ := ha
    obtain ⟨vs, rfl, h1, h2⟩ := h.inv_agg
    exact ⟨by simpa [cellsA, Value.cells] using h1, by simpa [Value.cells] using h2⟩
  · have e : cellsA a = [a] := by cases a <;> first | rfl | exact absurd ⟨_, rfl⟩ ha
    have hi : isCell a = true := by cases a <;> first | exact hc | exact absurd ⟨_, rfl⟩ ha
    have h1 := h.cell1 hi
    have e2 : v.cells.toList = [v] := by cases v <;> first | rfl | (simp [Value.oneCell'] at h1)
    rw [e, e2]
    exact ⟨L2.cons h L2.nil, by simpa using h1⟩
theorem ofC_ok (M : Mem) (ρ : Nm) (v : Value) : VR M ρ (ofC v) v := by
  cases v with
  | slice a l c =>
    unfold ofC
    split
    · rename_i h; cases h; exact .nsl
    · rename_i h; cases h
    all_goals first | exact .any _ _ | exact .s _ _ | (rename_i h; cases h)
  | map r => cases r with
    | none => exact .mp_e
    | some r => exact .any _ _
  | pointer a => cases a with
    | none => exact .s _ _
    | some a => exact .any _ _
  | func => exact .any _ _
  | agg => exact .any _ _
  | tuple => exact .any _ _
  | bool | int | float | complex | string | chan | nilFunc | iface | nilIface => exact .s _ _
theorem ofV_ok (M : Mem) (ρ : Nm) (v : Value) : VR M ρ (ofV v) v := by
  cases v with
  | agg cs =>
    simp only [ofV]
    split
    · rename_i h
      obtain ⟨l⟩ := cs
      exact .mkAgg (by simpa using L2.map l ofC id fun x _ => ofC_ok M ρ x) (by simpa using h)
    · exact .any _ _
  | tuple vs =>
    simp only [ofV]
    split
    · rename_i h
      have : vs = #[] := Array.eq_empty_of_size_eq_zero h
      subst this
      exact .mkTup (vs := []) L2.nil
    · exact .any _ _
  | _ => simp only [ofV]; exact ofC_ok M ρ _
/-- memory that nobody writes any more is as it is told -/
structure Fro (M : Mem) (W : World) : Prop where
  cell : ∀ b o v, M.cell b o = some v → W.cell? ⟨b, o, none⟩ = some v ∧ v.oneCell' = true
  map : ∀ b kv, M.map b = some kv → ∃ es clock, W.heap[b]? = some (.map es clock) ∧ es.toList.map (fun e => (e.key, e.val)) = kv
theorem Fro.keep {M : Mem} {W W' : World} (h : Fro M W) (hW : ∀ b, (∃ o v, M.cell b o = some v) ∨ (∃ kv, M.map b = some kv) → W'.heap[b]? = W.heap[b]?) : Fro M W' :=
  ⟨fun b o v e => ⟨(World.cell?_of_block (w := W) (hW b (.inl ⟨o, v, e⟩))).trans (h.cell b o v e).1, (h.cell b o v e).2⟩, fun b kv e => by
    obtain ⟨es, clock, h1, h2⟩ := h.map b kv e
    exact ⟨es, clock, (hW b (.inr ⟨kv, e⟩)).trans h1, h2⟩⟩
/-- an own block -/
def BR (ρ : Nm) (M : Mem) (W : World) (b sz : Nat) : Bk → Prop
  | .dead => True
  | .arr len cs fz => len = cs.length ∧ len ≤ sz ∧ (∃ cur e fr, W.heap[b]? = some (.cells cur e fr) ∧ cur.size = sz ∧ (∀ o, o < sz → (decide (fr.1 ≤ o) && decide (o < fr.2)) = false) ∧
      ∀ (i : Nat) c, cs[i]? = some c → ∃ u, cur[i]? = some u ∧ u.oneCell' = true ∧ VR M ρ c u) ∧ (∀ o v, M.cell b o = some v → o < fz ∧ o < len)
  | .map es fz => (∃ ents clock, W.heap[b]? = some (.map ents clock) ∧ ∃ pq : List (Value × Value), (ents.toList.map fun e => (e.key, e.val)).Perm pq ∧ es.length = pq.length ∧ es.Pairwise (fun p q => keyB p.1 q.1 = false) ∧
      (∀ (i : Nat) c v, es[i]? = some c → pq[i]? = some v → VR M ρ c.1 v.1) ∧ (∀ (i : Nat) c v, es[i]? = some c → pq[i]? = some v → VR M ρ c.2 v.2)) ∧ ((M.map b).isSome = true → fz = true)
def Bk.live : Bk → Prop
  | .dead => False
  | _ => True
structure WR (w0 : World) (ρ : Nm) (M : Mem) (H : List Bk) (W : World) : Prop where
  bel : Below w0.heap.size w0 W
  fro : Fro M W
  dom : ∀ i x, ρ i = some x → i < H.length
  inj : ∀ i j b s t B B', ρ i = some (b, s) → ρ j = some (b, t) → H[i]? = some B → B.live → H[j]? = some B' → B'.live → i = j
  new : ∀ i b s B, ρ i = some (b, s) → H[i]? = some B → B.live → w0.heap.size ≤ b
  blk : ∀ i b s B, ρ i = some (b, s) → H[i]? = some B → BR ρ M W b s B
structure Rel (C : Cx) (w0 : World) (ρ : Nm) (M : Mem) (st : St) (a : Act) (W : World) : Prop where
  slots : L2 (VR M ρ) st.t a.tmps.toList
  wr : WR w0 ρ M st.h W
  glob : ∀ g cs, C.G g = some cs → VR M Nm.none (.fptr cs) (.pointer (some ⟨g, 0, none⟩))
  keep : C.keep ≤ st.h.length
  defers : a.defers = []
theorem eval_ok {C : Cx} {M : Mem} {ρ : Nm} {t : List AV} {a : Act} (hs : L2 (VR M ρ) t a.tmps.toList) (hg : ∀ g cs, C.G g = some cs → VR M Nm.none (.fptr cs) (.pointer (some ⟨g, 0, none⟩))) (x : Operand) : VR M ρ (evalA C t x) (a.eval x) := by
  cases x with
  | tmp i =>
    simp only [evalA, Act.eval]
    cases h : t[i]? with
    | none => simp only [List.getD, h, Option.getD_none]; exact .any _ _
    | some c =>
      obtain ⟨v, hv, hr⟩ := hs.get h
      have e : a.tmps.getD i undef = v := by
        have : a.tmps[i]? = some v := by simpa using hv
        simp [Array.getD_eq_getD_getElem?, this]
      simpa [List.getD, h, e] using hr
  | const v => exact ofV_ok M ρ v
  | global g =>
    simp only [evalA, Act.eval]
    split
    · rename_i cs h; exact (hg g cs h).mono (Mem.le.refl M) (Nm.none_le ρ)
    · exact .any _ _
  | func f => exact .fn (us := []) (vs := []) rfl (fun i c v h => by simp at h) rfl (fun i c v h => by simp at h)
end Go.Pm
