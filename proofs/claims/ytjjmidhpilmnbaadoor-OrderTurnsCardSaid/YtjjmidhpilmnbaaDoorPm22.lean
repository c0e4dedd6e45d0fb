/- The machine of plain values: a region that draws its order: what the text's order tells of each operation. By the prover of this seat. -/
import Derived.Test.YtjjmidhpilmnbaaDoorOg2
set_option linter.unusedVariables false
namespace Go.Pm
open Go Go.RowKit
/-- the step of the text's order -/
def StepOk (C : Cx) (h : Hint) (ops : List Oper) (T T' : List AV) (A A' : List Bk) (en : En) (o : Oper) : Prop :=
  T' = putT T o.dst en.v ∧ A' = putW A en.w ∧ ((wantA ops T o = some false ∧ en = ⟨.tup [], [], []⟩) ∨ (wantA ops T o = some true ∧ ∃ ps, allP ps ∧ opEval C h (fun j => A[j]?) A.length A (evalA C T) o.op = some (en.v, en.w, ps) ∧ en.r = rIds (evalA C T) o.op))
theorem tr_steps {C : Cx} {hs : Nat → Hint} {ops : List Oper} : ∀ (rest : List Oper) (i : Nat) (t : List AV) (A : List Bk) (t' : List AV) (A' : List Bk) (es : List En) (ps : List Prop), tr C hs ops i rest t A = some (t', A', es, ps) → allP ps →
    ∃ (T : Nat → List AV) (B : Nat → List Bk), T 0 = t ∧ B 0 = A ∧ T rest.length = t' ∧ B rest.length = A' ∧ es.length = rest.length ∧
      ∀ (k : Nat) o, rest[k]? = some o → ∃ en, es[k]? = some en ∧ StepOk C (hs (i + k)) ops (T k) (T (k + 1)) (B k) (B (k + 1)) en o := by
  intro rest
  induction rest with
  | nil =>
    intro i t A t' A' es ps h hp
    simp [tr] at h
    obtain ⟨rfl, rfl, rfl, _⟩ := h
    exact ⟨fun _ => t, fun _ => A, rfl, rfl, rfl, rfl, rfl, fun k o h => by simp at h⟩
  | cons o rest ih =>
    intro i t A t' A' es ps h hp
    have glue : ∀ {en : En} {t1 A1 es1 ps1}, tr C hs ops (i + 1) rest t1 A1 = some (t', A', es1, ps1) → allP ps1 → StepOk C (hs i) ops t t1 A A1 en o → es = en :: es1 →
        ∃ (T : Nat → List AV) (B : Nat → List Bk), T 0 = t ∧ B 0 = A ∧ T (o :: rest).length = t' ∧ B (o :: rest).length = A' ∧ es.length = (o :: rest).length ∧
          ∀ (k : Nat) o', (o :: rest)[k]? = some o' → ∃ en, es[k]? = some en ∧ StepOk C (hs (i + k)) ops (T k) (T (k + 1)) (B k) (B (k + 1)) en o' := by
      intro en t1 A1 es1 ps1 hrec hp1 hst he
      obtain ⟨T, B, h1, h2, h3, h4, h5, h6⟩ := ih _ _ _ _ _ _ _ hrec hp1
      subst he
      refine ⟨fun k => match k with | 0 => t | k + 1 => T k, fun k => match k with | 0 => A | k + 1 => B k, rfl, rfl, h3, h4, by simp [h5], fun k o' hk => ?_⟩
      cases k with
      | zero =>
        simp at hk
        subst hk
        exact ⟨en, rfl, by simp only [Nat.add_zero, h1, h2]; exact hst⟩
      | succ k =>
        obtain ⟨en', e1, e2⟩ := h6 k o' (by simpa using hk)
        exact ⟨en', by simpa using e1, by rw [show i + (k + 1) = i + 1 + k by omega]; exact e2⟩
    unfold tr at h
    split at h
    · cases h
    · rename_i hw
      split at h
      · rename_i r1 r2 r3 r4 hrec
        cases h
        exact glue hrec hp ⟨rfl, rfl, .inl ⟨hw, rfl⟩⟩ rfl
      · cases h
    · rename_i hw
      split at h
      · cases h
      · rename_i v w ps1 hev
        split at h
        · rename_i r1 r2 r3 r4 hrec
          cases h
          obtain ⟨hp1, hp2⟩ := allP_append hp
          exact glue (en := ⟨v, w, rIds (evalA C t) o.op⟩) hrec hp2 ⟨rfl, rfl, .inr ⟨hw, ps1, hp1, hev, rfl⟩⟩ rfl
        · cases h
/-- what stands ahead of each -/
theorem predsGo_spec : ∀ (rest : List Oper) (acc : List (List Nat)), (∀ (m : Nat) o, rest[m]? = some o → ∀ e ∈ o.after.toList, Region.binds .any e = true → e.on < acc.length + m) →
    (∀ j, j < acc.length → (predsGo acc rest).getD j [] = acc.getD j []) ∧ ∀ (m : Nat) o, rest[m]? = some o → (predsGo acc rest).getD (acc.length + m) [] = edgeP (predsGo acc rest) o := by
  intro rest
  induction rest with
  | nil => intro acc _; exact ⟨fun j _ => rfl, fun m o h => by simp at h⟩
  | cons o rest ih =>
    intro acc hac
    obtain ⟨h1, h2⟩ := ih (acc ++ [edgeP acc o]) (fun m o' hm e he hb => by
      have := hac (m + 1) o' (by simpa using hm) e he hb
      simp; omega)
    have hold : ∀ j, j < acc.length → (predsGo acc (o :: rest)).getD j [] = acc.getD j [] := by
      intro j hj
      show (predsGo (acc ++ [edgeP acc o]) rest).getD j [] = _
      rw [h1 j (by simp; omega)]
      simp [List.getD, List.getElem?_append_left hj]
    refine ⟨hold, fun m o' hm => ?_⟩
    cases m with
    | zero =>
      simp at hm
      subst hm
      show (predsGo (acc ++ [edgeP acc o]) rest).getD (acc.length + 0) [] = _
      rw [h1 _ (by simp)]
      have : (acc ++ [edgeP acc o]).getD (acc.length + 0) [] = edgeP acc o := by simp [List.getD]
      rw [this]
      unfold edgeP
      have key : ∀ l : List Edge, (∀ e ∈ l, Region.binds .any e = true → e.on < acc.length) → l.flatMap (fun e => if Region.binds .any e = true then e.on :: acc.getD e.on [] else []) = l.flatMap (fun e => if Region.binds .any e = true then e.on :: (predsGo acc (o :: rest)).getD e.on [] else []) := by
        intro l
        induction l with
        | nil => intro _; rfl
        | cons e l ihl =>
          intro hl
          simp only [List.flatMap_cons]
          rw [ihl fun e' he' => hl e' (by simp [he'])]
          by_cases hb : Region.binds .any e = true
          · rw [if_pos hb, if_pos hb, hold e.on (hl e (by simp) hb)]
          · rw [if_neg hb, if_neg hb]
      exact key _ (fun e he hb => by have := hac 0 o rfl e he hb; omega)
    | succ m =>
      have := h2 m o' (by simpa using hm)
      rw [show acc.length + (m + 1) = (acc ++ [edgeP acc o]).length + m by simp; omega]
      exact this
theorem preds_spec {ops : List Oper} (hac : ∀ (m : Nat) o, ops[m]? = some o → ∀ e ∈ o.after.toList, Region.binds .any e = true → e.on < m) {i k : Nat} {o : Oper} (ho : ops[i]? = some o) (hk : k ∈ (preds ops).getD i []) :
    ∃ e ∈ o.after.toList, Region.binds .any e = true ∧ (k = e.on ∨ k ∈ (preds ops).getD e.on []) := by
  have := (predsGo_spec ops [] (fun m o hm e he hb => by have := hac m o hm e he hb; simp; omega)).2 i o ho
  simp only [List.length_nil, Nat.zero_add] at this
  unfold preds at hk
  rw [this] at hk
  unfold edgeP at hk
  simp only [List.mem_flatMap] at hk
  obtain ⟨e, he, hk⟩ := hk
  split at hk
  · rename_i hb
    rcases List.mem_cons.1 hk with h | h
    · exact ⟨e, he, hb, .inl h⟩
    · exact ⟨e, he, hb, .inr h⟩
  · cases hk
theorem preds_lt {ops : List Oper} (hac : ∀ (m : Nat) o, ops[m]? = some o → ∀ e ∈ o.after.toList, Region.binds .any e = true → e.on < m) : ∀ (i : Nat) {k : Nat} {o : Oper}, ops[i]? = some o → k ∈ (preds ops).getD i [] → k < i := by
  intro i
  induction i using Nat.strongRecOn with
  | _ i ih =>
    intro k o ho hk
    obtain ⟨e, he, hb, h⟩ := preds_spec hac ho hk
    have hlt := hac i o ho e he hb
    rcases h with rfl | h
    · exact hlt
    · have hi := (List.getElem?_eq_some_iff.1 ho).1
      have := ih e.on hlt (o := ops[e.on]'(by omega)) (by simp) h
      omega
/-- the last block that is laid at a number -/
def lastW (w : Ws) (id : Nat) : Option Bk := (w.reverse.find? fun p => p.1 == id).map (·.2)
theorem lastW_none {w : Ws} {id : Nat} (h : id ∉ w.map (·.1)) : lastW w id = none := by
  unfold lastW
  have : w.reverse.find? (fun p => p.1 == id) = none := by
    rw [List.find?_eq_none]
    intro p hp he
    exact h (List.mem_map.2 ⟨p, by simpa using hp, eq_of_beq he⟩)
  rw [this]; rfl
theorem getD_putW : ∀ (w : Ws) (H : List Bk) (id : Nat), ((putW H w)[id]?).getD .dead = (lastW w id).getD ((H[id]?).getD .dead) := by
  intro w
  induction w with
  | nil => intro H id; rfl
  | cons p w ih =>
    intro H id
    show ((putW (putB H p) w)[id]?).getD .dead = _
    rw [ih]
    have hl : lastW (p :: w) id = (lastW w id).or (if p.1 = id then some p.2 else none) := by
      unfold lastW
      rw [List.reverse_cons, List.find?_append]
      by_cases hp : p.1 = id
      · cases h : w.reverse.find? (fun p => p.1 == id) <;> simp [hp]
      · have : (p.1 == id) = false := by simpa using hp
        cases h : w.reverse.find? (fun p => p.1 == id) <;> simp [hp, this]
    rw [hl]
    obtain ⟨n, b⟩ := p
    cases h : lastW w id with
    | some c => simp
    | none =>
      simp only [Option.none_or, Option.getD_none]
      rw [get_putB]
      by_cases hn : id = n
      · subst hn; simp
      · rw [if_neg hn, if_neg (Ne.symm hn)]
        simp only [Option.getD_none]
        by_cases h2 : id < H.length
        · rw [if_pos h2]
        · rw [if_neg h2]
          have : H[id]? = none := List.getElem?_eq_none (by omega)
          rw [this]
          split <;> rfl
def maxW (w : Ws) : Nat := w.foldl (fun m p => max m (p.1 + 1)) 0
theorem len_putW_eq : ∀ (w : Ws) (H : List Bk), (putW H w).length = max H.length (maxW w) := by
  have key : ∀ (w : Ws) (m : Nat), w.foldl (fun m (p : Nat × Bk) => max m (p.1 + 1)) m = max m (maxW w) := by
    intro w
    induction w with
    | nil => intro m; simp [maxW]
    | cons p w ih =>
      intro m
      simp only [maxW, List.foldl_cons]
      rw [ih, ih]
      omega
  intro w
  induction w with
  | nil => intro H; simp [putW, maxW]
  | cons p w ih =>
    intro H
    show (putW (putB H p) w).length = _
    rw [ih, len_putB]
    have : maxW (p :: w) = max (p.1 + 1) (maxW w) := by
      simp only [maxW, List.foldl_cons]
      rw [key w]
      simp only [maxW]
      omega
    rw [this]
    omega
theorem mem_lt_maxW {w : Ws} {id : Nat} (h : id ∈ w.map (·.1)) : id < maxW w := by
  have := len_putW_eq w []
  induction w with
  | nil => simp at h
  | cons p w ih =>
    have e : maxW (p :: w) = max (p.1 + 1) (maxW w) := by
      have h1 := len_putW_eq (p :: w) []
      have h2 := len_putW_eq w (putB [] p)
      have h3 : putW [] (p :: w) = putW (putB [] p) w := rfl
      rw [h3, h2, len_putB] at h1
      simp at h1
      omega
    rw [e]
    simp only [List.map_cons, List.mem_cons] at h
    rcases h with rfl | h
    · omega
    · have := ih h (len_putW_eq w [])
      omega
end Go.Pm
