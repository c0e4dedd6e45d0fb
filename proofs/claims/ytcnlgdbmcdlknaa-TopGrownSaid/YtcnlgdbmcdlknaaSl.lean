/- Slices as lists of cells; append onto a slice of the call's own. By the prover of this seat. -/
import Derived.Test.YtcnlgdbmcdlknaaMap
import Derived.Laws.AppendOwnNone
namespace Go.Gz
open Go.RowKit
/-- an operation whose guard, if it has one, holds -/
theorem wpList_want {P : Program} {ops : Array Oper} {rest : List Oper} {o : Oper} {a : Act} {Q : Exit → Act → World → Prop} {w : World} (hg : Region.wanted o (yielded ops a.tmps) = true)
    (h : ∀ K : Act → World → Prop, (∀ a w, wpList P ops Q rest a w → K a w) → o.wp P a w K Q) : wpList P ops Q (o :: rest) a w :=
  wpList_step fun K hK => by rw [if_pos hg]; exact h K hK
/-- v is a slice of n elements whose cells, one element behind the other, are cs -/
def Sl (w : World) (v : Value) (n : Nat) (cs : List Value) : Prop :=
  ∃ a cap, v = .slice a n cap ∧ ((a = none → cap = 0) ∧ n ≤ cap) ∧ (cs = [] ∨ ∃ b off, a = some ⟨b, off, none⟩ ∧ b < w.heap.size ∧ ∀ i, i < cs.length → w.cell? ⟨b, off + i, none⟩ = cs[i]?)
theorem Sl.nil (w : World) : Sl w (.slice none 0 0) 0 [] := ⟨_, _, rfl, ⟨fun _ => rfl, Nat.le_refl _⟩, .inl rfl⟩
theorem Sl.shape {w : World} {v : Value} {n : Nat} {cs : List Value} (h : Sl w v n cs) : ∃ a cap, v = .slice a n cap := by
  obtain ⟨a, cap, hv, _⟩ := h
  exact ⟨a, cap, hv⟩
theorem Sl.below {w w' : World} {v : Value} {n : Nat} {cs : List Value} (h : Sl w v n cs) (hb : Below w.heap.size w w') : Sl w' v n cs := by
  obtain ⟨a, cap, hv, h0, h⟩ := h
  refine ⟨a, cap, hv, h0, h.imp id ?_⟩
  rintro ⟨b, off, ha, hlt, hc⟩
  refine ⟨b, off, ha, Nat.lt_of_lt_of_le hlt hb.size, fun i hi => ?_⟩
  rw [hb.cell (p := ⟨b, off + i, none⟩) hlt]
  exact hc i hi
theorem Sl.at {w : World} {n cap : Nat} {a : Option Addr} {cs : List Value} (h : Sl w (.slice a n cap) n cs) (hne : 0 < cs.length) :
    ∃ b off, a = some ⟨b, off, none⟩ ∧ b < w.heap.size ∧ ∀ i, i < cs.length → w.cell? ⟨b, off + i, none⟩ = cs[i]? := by
  obtain ⟨a', cap', hv, _, h⟩ := h
  cases hv
  rcases h with rfl | h
  · simp at hne
  · exact h
/-- a block that was just made -/
theorem Sl.made (w : World) (cs : List Value) (n cap : Nat) (T : TypeId) (hc : n ≤ cap) : Sl (w.alloc (.cells cs.toArray T)) (.slice (some ⟨w.heap.size, 0, none⟩) n cap) n cs := by
  refine ⟨_, cap, rfl, ⟨(fun h => by cases h), hc⟩, .inr ⟨_, _, rfl, by simp, fun i hi => ?_⟩⟩
  rw [World.cell?_alloc_at _ _ _ _ rfl]
  simp
/-- what is owned reads as a slice -/
theorem sl_of_own {w : World} {base : Nat} {e : TypeId} {size : Nat} {v : Value} {n : Nat} {xs : List Value} (h : w.ownsRow base e size v n xs) : Sl w v n xs := by
  obtain ⟨hl, ⟨rfl, rfl⟩ | ⟨g, cap, cur, rfl, hg, hh, hn, hm, hs, hx⟩⟩ := h
  · have : xs = [] := by simpa using hl
    subst this
    exact Sl.nil w
  · refine ⟨_, _, rfl, ⟨(fun h => by cases h), hn⟩, .inr ⟨_, _, rfl, (Array.getElem?_eq_some_iff.1 hh).1, fun i hi => ?_⟩⟩
    simp only [World.cell?, hh, Option.isSome_none, Bool.false_eq_true, if_false, Nat.zero_add]
    rw [← hx, List.getElem?_take, if_pos (by omega)]
    simp
/-- an element type of a slice's type, with the cells and the bytes of an element -/
structure ElemT (P : Program) (t e : TypeId) (size bytes : Nat) : Prop where
  ht : P.underlying t = some (.slice e)
  info : ∃ i z, P.info? e = some i ∧ i.zero = some z ∧ i.size = size ∧ i.bytes = bytes ∧ z.cells.size = size
  pos : 0 < size ∧ 0 < bytes
theorem ElemT.of {P : Program} {t e : TypeId} {z : Value} {size bytes : Nat} (ht : P.underlying t = some (.slice e)) (h : (P.info? e).map (fun i => (i.zero, i.size, i.bytes)) = some (some z, size, bytes)) (hz : z.cells.size = size) (hp : 0 < size ∧ 0 < bytes) : ElemT P t e size bytes := by
  obtain ⟨i, h1, h2, h3, h4⟩ := info_parts h
  exact ⟨ht, ⟨i, z, h1, h2, h3, h4, hz⟩, hp⟩
section
variable {P : Program} {w : World} {t e : TypeId} {size bytes : Nat} {ops : Array Oper} {rest : List Oper} {o : Oper} {a : Act} {Q : Exit → Act → World → Prop}
theorem run_append (E : ElemT P t e size bytes) (base : Nat) (ty : TypeId) {v : Value} {n : Nat} {xs : List Value} (hown : w.ownsRow base e size v n xs) {u : Value} {m : Nat} {news : List Value} (hsl : Sl w u m news)
    (hl : news.length = m * size) (h1 : ∀ u ∈ news, u.oneCell' = true) (hb : (n + m) * bytes ≤ 140737488355328) (hB : base ≤ w.heap.size) :
    ∃ v' w', (Builtin.append_ #[t, t] ty #[v, u]).run P w = .ok v' w' ∧ w'.ownsRow base e size v' (n + m) (xs ++ news) ∧ w.grownBy w' v.ownBlock := by
  obtain ⟨i, z, hi, hz, hsz, hby, hzs⟩ := E.info
  obtain ⟨ad, cap, rfl, h0, hc⟩ := hsl
  cases ad with
  | none =>
    have e0 : news = [] := by
      rcases hc with rfl | ⟨_, _, h, _⟩
      · rfl
      · cases h
    subst e0
    have hm : m = 0 := by
      have h2 : m * size = 0 := by simpa using hl.symm
      rcases Nat.mul_eq_zero.1 h2 with h | h
      · exact h
      · have := E.pos.1; omega
    subst hm
    obtain rfl := h0.1 rfl
    refine ⟨v, w, run_append_owned_none (P := P) (w := w) base t ty e i size E.ht hi v n xs hown, by simpa using hown, ⟨rfl, rfl, rfl, Nat.le_refl _, fun _ _ _ => rfl⟩⟩
  | some ad =>
    have hcell : ∀ j u, news[j]? = some u → w.cell? (ad.add j) = some u := by
      intro j u hj
      have hlt := (List.getElem?_eq_some_iff.1 hj).1
      rcases hc with rfl | ⟨b, off, hE, _, hcc⟩
      · simp at hlt
      · cases hE
        have e : Addr.add ⟨b, off, none⟩ j = ⟨b, off + j, none⟩ := by unfold Addr.add; split <;> simp_all
        rw [e, hcc j hlt, hj]
    have h63 : n + m ≤ maxLen := by
      have := E.pos.2
      have h2 : n + m ≤ (n + m) * bytes := Nat.le_mul_of_pos_right _ this
      unfold maxLen; omega
    obtain ⟨v', w', hr, h2, h3, _⟩ := run_append_own (P := P) w base t ty e i z size bytes E.ht hi hz hsz hby hzs E.pos.1 v n xs hown ad m cap news hl hcell h1 h63 hb hB
    exact ⟨v', w', hr, h2, h3⟩
/-- append(s, x...) at the operation: s is the call's own, x any slice -/
theorem wp_append (E : ElemT P t e size bytes) (base : Nat) (hgd : Region.wanted o (yielded ops a.tmps) = true) (s x : Operand) (ho : o.op = .call { callee := .builtin .append, args := #[s, x], argTypes := #[t, t] })
    {v : Value} {n : Nat} {xs : List Value} (hs : a.eval s = v) (hown : w.ownsRow base e size v n xs) {u : Value} {m : Nat} {news : List Value} (hx : a.eval x = u) (hsl : Sl w u m news)
    (hl : news.length = m * size) (h1 : ∀ u ∈ news, u.oneCell' = true) (hb : (n + m) * bytes ≤ 140737488355328) (hB : base ≤ w.heap.size)
    (h : ∀ v' w', w'.ownsRow base e size v' (n + m) (xs ++ news) → Below base w w' → wpList P ops Q rest (a.put o.dst v') w') : wpList P ops Q (o :: rest) a w := by
  refine wpList_want hgd fun K hK => ?_
  obtain ⟨v', w', hr, h2, h3⟩ := run_append E base o.type hown hsl hl h1 hb hB
  unfold Oper.wp
  simp [execOp, ho, resolve, invoke, builtin, hs, hx, hr, Result.andThen]
  exact hK _ _ (h v' w' h2 ((Below.refl _ _).grown h3 hB fun k hk => (hown.lt k hk).1))
end

theorem btrans {a b c : World} (h : Below a.heap.size a b) (k : Below b.heap.size b c) : Below a.heap.size a c := h.trans (k.mono h.size)
theorem own_below {base : Nat} {e : TypeId} {size n : Nat} {v : Value} {xs : List Value} {w w' : World} (h : w.ownsRow base e size v n xs) (hb : Below w.heap.size w w') : w'.ownsRow base e size v n xs := by
  obtain ⟨hl, h⟩ := h
  refine ⟨hl, h.imp id ?_⟩
  rintro ⟨g, cap, cur, hv, hg, hh, r⟩
  exact ⟨g, cap, cur, hv, hg, (hb.block g (Array.getElem?_eq_some_iff.1 hh).1).trans hh, r⟩
theorem own_base {base base' : Nat} {e : TypeId} {size n : Nat} {v : Value} {xs : List Value} {w : World} (h : w.ownsRow base e size v n xs) (hb : base' ≤ base) : w.ownsRow base' e size v n xs := by
  obtain ⟨hl, h⟩ := h
  refine ⟨hl, h.imp id ?_⟩
  rintro ⟨g, cap, cur, hv, hg, r⟩
  exact ⟨g, cap, cur, hv, Nat.le_trans hb hg, r⟩
end Go.Gz
