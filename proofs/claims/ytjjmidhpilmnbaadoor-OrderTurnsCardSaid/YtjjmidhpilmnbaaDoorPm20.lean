/- The machine of plain values: the law of every operation. By the prover of this seat. -/
import Derived.Test.YtjjmidhpilmnbaaDoorPm19
set_option linter.unusedVariables false
namespace Go.Pm
open Go Go.RowKit
section
variable {P : Program} {w0 W W' : World} {ρ ρ' : Nm} {M M' : Mem} {H : List Bk}
theorem putW_all {H H' : List Bk} (hl : H.length ≤ H'.length) : putW H (newsW 0 H') = H' := by
  have key : ∀ (r : List Bk) (n : Nat) (K : List Bk), K.length ≤ n + r.length → (putW K (newsW n r)).length ≤ n + r.length := by
    intro r
    induction r with
    | nil => intro n K h; exact h
    | cons b r ih =>
      intro n K h
      have := ih (n + 1) (putB K (n, b)) (by rw [len_putB]; simp at h ⊢; omega)
      show (putW (putB K (n, b)) (newsW (n + 1) r)).length ≤ _
      simp; omega
  have hle := key H' 0 H (by omega)
  apply List.ext_getElem?
  intro i
  by_cases hi : i < H'.length
  · rw [get_news 0 H' 0 H i (by omega) (by omega)]; simp
  · rw [List.getElem?_eq_none (by omega), List.getElem?_eq_none (by omega)]
theorem joinN_zero (ρ ρn : Nm) (n : Nat) : joinN ρ ρn n 0 = ρ := by
  funext i
  unfold joinN
  rw [if_neg (by omega)]
theorem mark_ids (g : Nat → Option Bk) (F : List Nat) : ∀ j ∈ (markW g F).map (·.1), j ∈ F := by
  induction F with
  | nil => intro j h; simp [markW] at h
  | cons i F ih =>
    intro j h
    unfold markW at h
    split at h
    · simp only [List.map_cons, List.mem_cons] at h ⊢
      rcases h with h | h
      · exact .inl h
      · exact .inr (ih j h)
    · simp only [List.map_cons, List.mem_cons] at h ⊢
      rcases h with h | h
      · exact .inl h
      · exact .inr (ih j h)
    · exact List.mem_cons_of_mem _ (ih j h)
theorem pure_ok {C : Cx} {o : Oper} {a : Act} {e : Operand → AV} {k : FuncId} {A A' : List AV} {r : AV} {news : List Bk} {nid : Nat} {next : Act → World → Prop} {Q : Exit → Act → World → Prop} (hw : WR w0 ρ M H W) (hg : GlobR C.G M) (he : ∀ x ∈ o.op.operands.toList, VR M ρ (e x) (a.eval x)) (hc : callOf e o.op = some (k, A))
    (hcall : Pure C.P C.G k A' r news) {K : AV → AV} (hK : ∀ x, K x = frzA (fun j => H[j]?) x ∨ (x = .nsl ∧ K x = .nsl)) (hA : A.map K = A') (hF : ((A.flatMap idsA).all fun i => ((H[i]?).map pureB).getD false) = true) (hpA : A'.all pureA = true) (hpn : news.all pureB = true) (hn : ∀ j, nid ≤ j → j < nid + news.length → ρ j = none) {v : AV} (hv : v = shiftT nid r ∨ (news = [] ∧ v = r))
    (hk : Hands w0 ρ M H a o v (markW (fun j => H[j]?) (A.flatMap idsA) ++ newsW nid news) next) : o.wp C.P a W next Q := by
  obtain ⟨vals, h1, h2⟩ := run_call (C := C) (W := W) he hc hcall.1
  unfold Oper.wp
  rw [h2, Oper.upon_enter]
  obtain ⟨hwk, hfr⟩ := hw.mark (A.flatMap idsA)
  have hargs : L2 (VR (frzM M ρ H W (A.flatMap idsA)) Nm.none) A' vals := by
    subst hA
    refine ⟨by simpa using h1.len, fun i c u hc' hu => ?_⟩
    simp only [List.getElem?_map, Option.map_eq_some_iff] at hc'
    obtain ⟨c0, hc0, rfl⟩ := hc'
    have hu0 := h1.at_ i c0 u hc0 hu
    have hpc := List.all_eq_true.1 hpA _ (List.mem_map.2 ⟨c0, List.mem_of_getElem? hc0, rfl⟩)
    rcases hK c0 with e1 | ⟨rfl, e1⟩
    case inr => rw [e1]; cases hu0 with | nsl => exact .nsl
    rw [e1] at hpc ⊢
    refine frzA_ok hw hu0 (fun j hj => ?_) hpc
    have hjm : j ∈ A.flatMap idsA := List.mem_flatMap.2 ⟨c0, List.mem_of_getElem? hc0, hj⟩
    exact ⟨hjm, List.all_eq_true.1 hF j hjm⟩
  have hgl : GlobR C.G (frzM M ρ H W (A.flatMap idsA)) := fun g cs h => (hg g cs h).mono (frzM_le M ρ H W _) (Nm.le.refl _)
  refine (hcall.2 W Nm.none _ W vals (WR.own hwk.bel hwk.fro) hgl hargs).mono fun e' w' hh => ?_
  obtain ⟨u, ρn, M', rfl, q1, q2, q3, q4, q5⟩ := hh
  obtain ⟨j1, j2⟩ := hwk.join q3 q1 q5 hpn hn
  have hsz : w0.heap.size ≤ W.heap.size := hw.bel.size
  refine hk u w' (joinN ρ ρn nid news.length) M' ((frzM_le M ρ H W _).trans q1) j2 (by rw [putW_append]; exact j1) ?_ ⟨fun b o v hb h => hfr.cell b o v hb (q5.cell b o v (by omega) h), fun b v hb h => hfr.map b v hb (q5.map b v (by omega) h)⟩ ?_
  · rcases hv with rfl | ⟨rfl, rfl⟩
    · exact shiftT_ok (fun i x hi => q3.dom i x hi) q4
    · exact q4.mono (Mem.le.refl _) (fun i x hi => absurd (q3.dom i x hi) (by simp))
  · intro i x hi
    unfold joinN at hi
    by_cases hin : nid ≤ i ∧ i < nid + news.length
    · right
      rw [List.map_append, List.mem_append]
      exact .inr ((mem_newsW news nid i).2 hin)
    · rw [if_neg hin] at hi; exact .inl hi
theorem frzK_or (g : Nat → Option Bk) (x : AV) : frzK g x = frzA g x ∨ (x = .nsl ∧ frzK g x = .nsl) := by
  cases x <;> first | exact .inl rfl | exact .inr ⟨rfl, rfl⟩
theorem op_ok {C : Cx} {h : Hint} {o : Oper} {a : Act} {e : Operand → AV} {nid : Nat} {v : AV} {w : Ws} {ps : List Prop} {next : Act → World → Prop} {Q : Exit → Act → World → Prop} (hw : WR w0 ρ M H W) (hg : GlobR C.G M) (hn : ∀ j ∈ w.map (·.1), nid ≤ j → ρ j = none)
    (he : ∀ x ∈ o.op.operands.toList, VR M ρ (e x) (a.eval x)) (hr : opEval C h (fun j => H[j]?) nid H e o.op = some (v, w, ps)) (hp : allP ps) (hk : Hands w0 ρ M H a o v w next) : o.wp C.P a W next Q := by
  unfold opEval at hr
  split at hr
  · rename_i r H' hh
    split at hr
    · rename_i f args hc
      cases hr
      refine callH_ok hw hg he hc hp.1 fun u W' ρ' M' q1 q2 q3 q4 q5 => hk u W' ρ' M' q1 q2 (by rw [putW_all hp.2.1]; exact q3) q4 q5 fun i x hi => .inr ((mem_newsW H' 0 i).2 ⟨by omega, by have := q3.dom i x hi; omega⟩)
    · cases hr
  · split at hr
    · rename_i r hh
      split at hr
      · rename_i f args hc
        have hno : ∀ {news : List Bk}, (∀ j ∈ (markW (fun j => H[j]?) (args.flatMap idsA) ++ newsW nid news).map (·.1), nid ≤ j → ρ j = none) → ∀ j, nid ≤ j → j < nid + news.length → ρ j = none := by
          intro news hn j h1 h2
          refine hn j ?_ h1
          rw [List.map_append, List.mem_append]
          exact .inr ((mem_newsW news nid j).2 ⟨h1, h2⟩)
        have happ : ∀ l : Ws, l ++ newsW nid [] = l := fun l => List.append_nil l
        split at hr
        · obtain ⟨rfl, rfl, hb, hps⟩ := conds_ok hr hp
          obtain ⟨b1, hb⟩ := allB_cons hb
          obtain ⟨b2, _⟩ := allB_cons hb
          exact pure_ok (news := []) (nid := nid) hw hg he hc hps.1 (fun _ => .inl rfl) rfl b1 b2 rfl (fun j h1 h2 => by simp at h2; omega) (.inr ⟨rfl, rfl⟩) (by rw [happ]; exact hk)
        · rename_i news _ _
          obtain ⟨rfl, rfl, hb, hps⟩ := conds_ok hr hp
          obtain ⟨b0, hb⟩ := allB_cons hb
          obtain ⟨b1, hb⟩ := allB_cons hb
          obtain ⟨b2, _⟩ := allB_cons hb
          exact pure_ok hw hg he hc hps.1 (fun _ => .inl rfl) rfl b1 b2 b0 (hno hn) (.inl rfl) hk
        · rename_i args' _ _
          obtain ⟨rfl, rfl, hb, hps⟩ := conds_ok hr hp
          obtain ⟨b1, hb⟩ := allB_cons hb
          obtain ⟨b2, _⟩ := allB_cons hb
          exact pure_ok (news := []) (nid := nid) hw hg he hc hps.1 (frzK_or _) hps.2.1 b1 b2 rfl (fun j h1 h2 => by simp at h2; omega) (.inr ⟨rfl, rfl⟩) (by rw [happ]; exact hk)
        · rename_i args' news _ _
          obtain ⟨rfl, rfl, hb, hps⟩ := conds_ok hr hp
          obtain ⟨b0, hb⟩ := allB_cons hb
          obtain ⟨b1, hb⟩ := allB_cons hb
          obtain ⟨b2, _⟩ := allB_cons hb
          exact pure_ok hw hg he hc hps.1 (frzK_or _) hps.2.1 b1 b2 b0 (hno hn) (.inl rfl) hk
      · cases hr
    · split at hr
      · rename_i v0 news bs ps0 hrd
        obtain ⟨rfl, rfl, hb, hps⟩ := conds_ok hr hp
        refine (rd_ok hw (fun hne => ?_) he hrd hb hps).hands hk
        refine hn nid ((mem_newsW news nid nid).2 ⟨Nat.le_refl _, ?_⟩) (Nat.le_refl _)
        cases news with
        | nil => exact absurd rfl hne
        | cons b r => simp
      · split at hr
        · rename_i v0 w0' bs ps0 hwr
          obtain ⟨rfl, rfl, hb, hps⟩ := conds_ok hr hp
          exact (wr_ok hw (fun hm => hn nid hm (Nat.le_refl _)) he hwr hb hps).hands hk
        · cases hr
end
end Go.Pm
