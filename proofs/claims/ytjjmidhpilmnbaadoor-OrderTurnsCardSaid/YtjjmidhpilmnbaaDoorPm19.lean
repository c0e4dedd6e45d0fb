/- The machine of plain values: the law of every operation, calls too. By the prover of this seat. -/
import Derived.Test.YtjjmidhpilmnbaaDoorPm18
set_option linter.unusedVariables false
namespace Go.Pm
open Go Go.RowKit
section
variable {P : Program} {w0 W W' : World} {ρ ρ' : Nm} {M M' : Mem} {H : List Bk}
theorem putW_append (H : List Bk) (a b : Ws) : putW H (a ++ b) = putW (putW H a) b := by simp [putW, List.foldl_append]
theorem get_news (n0 : Nat) : ∀ (news : List Bk) (n : Nat) (K : List Bk) (i : Nat), n ≤ i → i < n + news.length → (putW K (newsW n news))[i]? = news[i - n]? := by
  intro news
  induction news with
  | nil => intro n K i h1 h2; simp at h2; omega
  | cons b r ih =>
    intro n K i h1 h2
    show (putW (putB K (n, b)) (newsW (n + 1) r))[i]? = _
    by_cases hi : i = n
    · subst hi
      have key : ∀ (r : List Bk) (m : Nat) (K : List Bk), i < m → i < K.length → (putW K (newsW m r))[i]? = K[i]? := by
        intro r
        induction r with
        | nil => intro m K _ _; rfl
        | cons c r ih =>
          intro m K hm hk
          show (putW (putB K (m, c)) (newsW (m + 1) r))[i]? = _
          rw [ih (m + 1) _ (by omega) (by rw [len_putB]; omega), get_putB, if_neg (by omega), if_pos hk]
      rw [key r (i + 1) _ (by omega) (by rw [len_putB]; simp only; omega), get_putB, if_pos rfl]
      simp
    · rw [ih (n + 1) _ i (by omega) (by simp at h2; omega)]
      have : i - n = (i - (n + 1)) + 1 := by omega
      rw [this, List.getElem?_cons_succ]
theorem get_news_other : ∀ (news : List Bk) (n : Nat) (K : List Bk) (i : Nat), i < K.length → (i < n ∨ n + news.length ≤ i) → (putW K (newsW n news))[i]? = K[i]? := by
  intro news
  induction news with
  | nil => intro n K i _ _; rfl
  | cons b r ih =>
    intro n K i hk h
    show (putW (putB K (n, b)) (newsW (n + 1) r))[i]? = _
    rw [ih (n + 1) _ i (by rw [len_putB]; omega) (by simp at h; omega), get_putB, if_neg (by simp at h; omega), if_pos hk]
theorem len_news : ∀ (news : List Bk) (n : Nat) (K : List Bk), news ≠ [] → n + news.length ≤ (putW K (newsW n news)).length := by
  intro news
  induction news with
  | nil => intro n K h; exact absurd rfl h
  | cons b r ih =>
    intro n K _
    show _ ≤ (putW (putB K (n, b)) (newsW (n + 1) r)).length
    by_cases hr : r = []
    · subst hr
      show _ ≤ (putB K (n, b)).length
      rw [len_putB]; simp; omega
    · have := ih (n + 1) (putB K (n, b)) hr
      simp; omega
theorem mem_newsW : ∀ (news : List Bk) (n i : Nat), i ∈ (newsW n news).map (·.1) ↔ n ≤ i ∧ i < n + news.length := by
  intro news
  induction news with
  | nil => intro n i; simp [newsW]
  | cons b r ih =>
    intro n i
    simp only [newsW, List.map_cons, List.mem_cons, ih, List.length_cons]
    omega
def joinN (ρ ρn : Nm) (n len : Nat) : Nm := fun i => if n ≤ i ∧ i < n + len then ρn (i - n) else ρ i
theorem WR.join {ρn : Nm} {news : List Bk} {nid : Nat} (h : WR w0 ρ M H W) (hn : WR W ρn M' news W') (hle : M.le M') (fresh : Fresh M M' W.heap.size) (hp : news.all pureB = true) (hno : ∀ j, nid ≤ j → j < nid + news.length → ρ j = none) :
    WR w0 (joinN ρ ρn nid news.length) M' (putW H (newsW nid news)) W' ∧ ρ.le (joinN ρ ρn nid news.length) := by
  have hle2 : ρ.le (joinN ρ ρn nid news.length) := by
    intro i x hi
    unfold joinN
    rw [if_neg (fun hin => by rw [hno i hin.1 hin.2] at hi; cases hi)]
    exact hi
  have hw0 : w0.heap.size ≤ W.heap.size := h.bel.size
  have cse : ∀ i x B, joinN ρ ρn nid news.length i = some x → (putW H (newsW nid news))[i]? = some B →
      (¬ (nid ≤ i ∧ i < nid + news.length) ∧ ρ i = some x ∧ H[i]? = some B) ∨ ((nid ≤ i ∧ i < nid + news.length) ∧ ρn (i - nid) = some x ∧ news[i - nid]? = some B) := by
    intro i x B hi hB
    unfold joinN at hi
    by_cases hin : nid ≤ i ∧ i < nid + news.length
    · rw [if_pos hin] at hi
      rw [get_news 0 news nid H i hin.1 hin.2] at hB
      exact .inr ⟨hin, hi, hB⟩
    · rw [if_neg hin] at hi
      rw [get_news_other news nid H i (h.dom i x hi) (by omega)] at hB
      exact .inl ⟨hin, hi, hB⟩
  refine ⟨⟨h.bel.trans (hn.bel.mono hw0), hn.fro, ?_, ?_, ?_, ?_⟩, hle2⟩
  · intro i x hi
    unfold joinN at hi
    by_cases hin : nid ≤ i ∧ i < nid + news.length
    · exact Nat.lt_of_lt_of_le hin.2 (len_news news nid H (by intro e; subst e; simp at hin; omega))
    · rw [if_neg hin] at hi
      exact Nat.lt_of_lt_of_le (h.dom i x hi) (len_putW _ _)
  · intro i j b s t B B' hi hj h1 l1 h2 l2
    rcases cse i _ _ hi h1 with ⟨a1, a2, a3⟩ | ⟨a1, a2, a3⟩ <;> rcases cse j _ _ hj h2 with ⟨b1, b2, b3⟩ | ⟨b1, b2, b3⟩
    · exact h.inj i j b s t B B' a2 b2 a3 l1 b3 l2
    · have := hn.new _ _ _ _ b2 b3 l2
      have := (h.blk _ _ _ _ a2 a3).lt l1
      omega
    · have := hn.new _ _ _ _ a2 a3 l1
      have := (h.blk _ _ _ _ b2 b3).lt l2
      omega
    · have := hn.inj _ _ b s t B B' a2 b2 a3 l1 b3 l2
      omega
  · intro i b s B hi h1 l1
    rcases cse i _ _ hi h1 with ⟨a1, a2, a3⟩ | ⟨a1, a2, a3⟩
    · exact h.new i b s B a2 a3 l1
    · exact Nat.le_trans hw0 (hn.new _ _ _ _ a2 a3 l1)
  · intro i b s B hi h1
    rcases cse i _ _ hi h1 with ⟨a1, a2, a3⟩ | ⟨a1, a2, a3⟩
    · by_cases hl : B.live
      · have hbr := h.blk _ _ _ _ a2 a3
        have hlt := hbr.lt hl
        exact hbr.mem hle (fun o v hv => fresh.cell b o v hlt hv) (fun kv hv => fresh.map b kv hlt hv) (hn.bel.block b hlt) hle2
      · cases B with
        | dead => trivial
        | arr => exact absurd trivial hl
        | map => exact absurd trivial hl
    · exact (hn.blk _ _ _ _ a2 a3).pure (List.all_eq_true.1 hp B (List.mem_of_getElem? a3)) _
theorem shiftC_ok {ρn : Nm} {n len : Nat} (hd : ∀ i x, ρn i = some x → i < len) {c : AV} {v : Value} (h : VR M ρn c v) : VR M (joinN ρ ρn n len) (shiftC n c) v := by
  have key : ∀ i x, ρn i = some x → joinN ρ ρn n len (n + i) = some x := by
    intro i x hi
    have := hd i x hi
    unfold joinN
    rw [if_pos ⟨by omega, by omega⟩, show n + i - n = i by omega]
    exact hi
  cases h with
  | any => exact .any _ _
  | s => exact .s _ _
  | agg => exact .any _ _
  | tup => exact .any _ _
  | sl_e a b => exact .sl_e a b
  | sl f a b d => exact .sl f a b d
  | sx_e a => exact .sx_e a
  | sx f a b d => exact .sx f a b d
  | nsl => exact .nsl
  | osl_e => exact .osl_e
  | osl a b d => exact .osl (key _ _ a) b d
  | ptr a => exact .ptr (key _ _ a)
  | fptr_e => exact .fptr_e
  | fptr f a b => exact .fptr f a b
  | mp_e => exact .mp_e
  | mp kv pq a b c d e f => exact .mp kv pq a b c d e f
  | omp a => exact .omp (key _ _ a)
  | fn a b c d =>
    simp only [shiftC]
    split
    · rename_i hc
      exact VR.pure (c := .fn _ _ _) (.fn a b c d) hc _
    · exact .any _ _
theorem shiftA_ok {ρn : Nm} {n len : Nat} (hd : ∀ i x, ρn i = some x → i < len) {c : AV} {v : Value} (h : VR M ρn c v) : VR M (joinN ρ ρn n len) (shiftA n c) v := by
  by_cases ha : ∃ cs, c = .agg cs
  · obtain ⟨cs, rfl⟩ := ha
    obtain ⟨vs, rfl, h1, h2⟩ := h.inv_agg
    refine .mkAgg ⟨by simpa using h1.len, fun i c v hc hv => ?_⟩ h2
    simp only [List.getElem?_map, Option.map_eq_some_iff] at hc
    obtain ⟨c0, hc0, rfl⟩ := hc
    exact shiftC_ok hd (h1.at_ i c0 v hc0 hv)
  · have e : shiftA n c = shiftC n c := by cases c <;> first | rfl | exact absurd ⟨_, rfl⟩ ha
    rw [e]; exact shiftC_ok hd h
theorem shiftT_ok {ρn : Nm} {n len : Nat} (hd : ∀ i x, ρn i = some x → i < len) {c : AV} {v : Value} (h : VR M ρn c v) : VR M (joinN ρ ρn n len) (shiftT n c) v := by
  by_cases ha : ∃ cs, c = .tup cs
  · obtain ⟨cs, rfl⟩ := ha
    obtain ⟨vs, rfl, h1⟩ := h.inv_tup
    refine .mkTup ⟨by simpa using h1.len, fun i c v hc hv => ?_⟩
    simp only [List.getElem?_map, Option.map_eq_some_iff] at hc
    obtain ⟨c0, hc0, rfl⟩ := hc
    exact shiftA_ok hd (h1.at_ i c0 v hc0 hv)
  · have e : shiftT n c = shiftA n c := by cases c <;> first | rfl | exact absurd ⟨_, rfl⟩ ha
    rw [e]; exact shiftA_ok hd h
theorem WR.own (hb : Below w0.heap.size w0 W) (hf : Fro M W) : WR W Nm.none M [] W := ⟨Below.refl _ _, hf, fun i x h => (by cases h), fun i j b s t B B' h => (by cases h), fun i b s B h => (by cases h), fun i b s B h => (by cases h)⟩
theorem allP_append {a b : List Prop} (h : allP (a ++ b)) : allP a ∧ allP b := by
  induction a with
  | nil => exact ⟨trivial, h⟩
  | cons p a ih => exact ⟨⟨h.1, (ih h.2).1⟩, (ih h.2).2⟩
theorem conds_ok {h : Hint} {v v' : AV} {w w' : Ws} {bs : List Bool} {ps ps' : List Prop} (hc : conds h v w bs ps = some (v', w', ps')) (hp : allP ps') : v' = v ∧ w' = w ∧ bs.all id = true ∧ allP ps := by
  unfold conds at hc
  split at hc
  · rename_i hs
    have bool : allP (if h.sym = true then bs.map (· = true) else []) → bs.all id = true := by
      intro hb
      by_cases hy : h.sym = true
      · rw [if_pos hy] at hb
        clear hs hc
        induction bs with
        | nil => rfl
        | cons b bs ih => simp only [List.all_cons, Bool.and_eq_true]; exact ⟨hb.1, ih hb.2⟩
      · rcases hs with hs | hs
        · exact absurd hs hy
        · exact hs
    split at hc
    · cases hc
      obtain ⟨h1, h2⟩ := allP_append hp
      obtain ⟨h3, h4⟩ := allP_append h1
      exact ⟨h2.1.symm, rfl, bool h3, h4⟩
    · cases hc
      obtain ⟨h3, h4⟩ := allP_append hp
      exact ⟨rfl, rfl, bool h3, h4⟩
  · cases hc
/-- what an operation hands on -/
def Hands (w0 : World) (ρ : Nm) (M : Mem) (H : List Bk) (a : Act) (o : Oper) (v : AV) (w : Ws) (next : Act → World → Prop) : Prop :=
  ∀ u W' ρ' M', M.le M' → ρ.le ρ' → WR w0 ρ' M' (putW H w) W' → VR M' ρ' v u → Fresh M M' w0.heap.size → (∀ i x, ρ' i = some x → ρ i = some x ∨ i ∈ w.map (·.1)) → next (a.put o.dst u) W'
theorem Good.hands {o : Oper} {a : Act} {v : AV} {w : Ws} {next : Act → World → Prop} {Q : Exit → Act → World → Prop} (h : Good P w0 ρ M H W (execOp a.eval o) v w) (hk : Hands w0 ρ M H a o v w next) : o.wp P a W next Q := by
  obtain ⟨n, u, W', ρ', h1, h2, h3, h4, h5, h6⟩ := h
  unfold Oper.wp
  rw [h1]
  have := hk u W' ρ' M (Mem.le.refl M) h3 h4 h5 ⟨fun _ _ _ _ h => h, fun _ _ _ h => h⟩ h6
  rcases h2 with rfl | ⟨rfl, rfl⟩
  · exact this
  · exact this
/-- a call of a function value -/
theorem run_call {C : Cx} {o : Oper} {a : Act} {e : Operand → AV} {k : FuncId} {A : List AV} (he : ∀ x ∈ o.op.operands.toList, VR M ρ (e x) (a.eval x)) (hc : callOf e o.op = some (k, A)) (hk : enterOk C.P k = true) :
    ∃ vals : List Value, L2 (VR M ρ) A vals ∧ (execOp a.eval o).run C.P W = .ok (.enter k vals.toArray) W := by
  obtain ⟨dst, op, ty, pos, af, gd⟩ := o
  simp only at he hc
  cases op with
  | call c =>
    obtain ⟨callee, args, argTypes⟩ := c
    simp only [callOf] at hc
    split at hc
    · rename_i f
      split at hc
      · rename_i k' pre cap hf
        cases hc
        have hv := he f (by simp [Op.operands, Call.operands])
        rw [hf] at hv
        have hargs := vals_ok (e := e) (a := a) (xs := args.toList) (M := M) (ρ := ρ) (fun x hx => he x (by simp [Op.operands, Call.operands]; exact .inr (by simpa using hx)))
        generalize hu : a.eval f = u at hv
        cases hv with
        | fn h1 h2 h3 h4 =>
          rename_i us vs
          refine ⟨us ++ args.toList.map a.eval ++ vs, (L2.append ⟨h1, h2⟩ hargs).append ⟨h3, h4⟩, ?_⟩
          unfold enterOk at hk
          split at hk
          · rename_i fn hfn
            simp only [Bool.and_eq_true, Bool.not_eq_true'] at hk
            have hb : fn.body.isNone = false := by cases hb : fn.body <;> simp_all
            have hcf : ∀ xs, (callFunc k xs).run C.P W = .ok (.enter k xs) W := by
              intro xs
              simp only [callFunc, Sem.run_bind, run_program, Result.andThen_ok, hfn, hk.2, hb, Bool.false_eq_true, if_false, Sem.run_pure]
            simp only [execOp, resolve, hu, Deferred.ofValue, Sem.run_bind, Sem.run_pure, Result.andThen_ok, invoke, hcf]
            congr 2
            apply Array.ext'
            simp
          · cases hk
      · cases hc
    · cases hc
  | _ => cases hc
theorem callH_ok {C : Cx} {o : Oper} {a : Act} {e : Operand → AV} {k : FuncId} {A : List AV} {r : AV} {H' : List Bk} {next : Act → World → Prop} {Q : Exit → Act → World → Prop} (hw : WR w0 ρ M H W) (hg : GlobR C.G M) (he : ∀ x ∈ o.op.operands.toList, VR M ρ (e x) (a.eval x)) (hc : callOf e o.op = some (k, A)) (hcall : CallH C.P C.G k A H r H')
    (hk : ∀ u W' ρ' M', M.le M' → ρ.le ρ' → WR w0 ρ' M' H' W' → VR M' ρ' r u → Fresh M M' w0.heap.size → next (a.put o.dst u) W') : o.wp C.P a W next Q := by
  obtain ⟨vals, h1, h2⟩ := run_call (C := C) (W := W) he hc hcall.1
  unfold Oper.wp
  rw [h2, Oper.upon_enter]
  refine (hcall.2 w0 ρ M W vals hw hg h1).mono fun e' w' hh => ?_
  obtain ⟨v, ρ', M', rfl, q1, q2, q3, q4, q5⟩ := hh
  exact hk v w' ρ' M' q1 q2 q3 q4 q5
end
end Go.Pm
