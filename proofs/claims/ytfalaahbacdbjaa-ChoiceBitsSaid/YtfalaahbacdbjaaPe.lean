/- maps.DeleteFunc as a law of the machine of plain values: the law. By the prover of this seat. -/
import Derived.Test.YtfalaahbacdbjaaPd
set_option linter.unusedVariables false
set_option linter.unusedSimpArgs false
namespace Go.Proofs.Ytfalaahbacdbjaa
open Go.RowKit Go.Maps Go.Pm
open Go.WideElems (Fit rd rg rd_key rd_val rg_of rd_mk)
section
variable {P : Program} {G : Nat → Option (List AV)} {kt : TypeId} {α : Type} {mk : α → Value} {ka : α → AV}
def kvE (e : MapEntry) : Value × Value := (e.key, e.val)
theorem rg_row (S : KeyS P kt mk ka) {p : α × Int} (hk : kwf P kt (ka p.1) = true) {e : MapEntry} (he : kvE e = rowV mk p) : ∃ kl, keyOf P kt (mk p.1) = some kl ∧ rd P kt RI e = some (kl, .lit (.int .i64 p.2)) ∧ rg P kt RI e = (kl, .lit (.int .i64 p.2)) := by
  obtain ⟨_, _, kl, hkl⟩ := kwf_val hk (S.vr ⟨fun _ _ => none, fun _ => none⟩ Nm.none p.1)
  have h1 : e.key = mk p.1 := congrArg Prod.fst he
  have h2 : e.val = .int .i64 p.2 := congrArg Prod.snd he
  have h3 : rd P kt RI e = some (kl, .lit (.int .i64 p.2)) := by
    obtain ⟨k, v, b⟩ := e
    simp only at h1 h2
    subst h1 h2
    exact rd_mk hkl (RI_int _)
  exact ⟨kl, hkl, h3, rg_of h3⟩
theorem filter_agree {β γ δ : Type} {f : β → δ} {g : γ → δ} {p : β → Bool} {q : γ → Bool} : ∀ {a : List β} {b : List γ}, (∀ x ∈ a, ∀ y ∈ b, f x = g y → p x = q y) → a.map f = b.map g → (a.filter p).map f = (b.filter q).map g
  | [], [], _, _ => rfl
  | [], _ :: _, _, h => by cases h
  | _ :: _, [], _, h => by cases h
  | x :: a, y :: b, h, e => by
    rw [List.map_cons, List.map_cons] at e
    injection e with e1 e2
    have ih := filter_agree (p := p) (q := q) (fun u hu v hv => h u (by simp [hu]) v (by simp [hv])) e2
    have hpq := h x (by simp) y (by simp) e1
    rw [List.filter_cons, List.filter_cons, hpq]
    split
    · rw [List.map_cons, List.map_cons, e1, ih]
    · exact ih
theorem del_law {F g : FuncId} (K : Keyed P kt) (S : KeyS P kt mk ka) (hK : keyTyB P kt = true)
    (hany : ∀ (pd : Lit → DataW Unit → Bool) (cb : Array Value) (b n : Nat) (D : DataW Unit) (w : World), w.ownsMap P kt RI b n D →
      (∀ (W : World) (key val : Value) (kl : Lit) (yd : DataW Unit) (yp : List MemPlace), w.grownBy W (some b) → keyOf P kt key = some kl → RI val = some (yd, yp) → Calls P g (#[key, val] ++ cb) W fun e w' => e = .returned (.bool (pd kl yd)) ∧ W.grownBy w' none) →
      Calls P F #[.map (some b), .func (.func g) #[] cb] w fun e w' => e = .returned (.tuple #[]) ∧ w'.ownsMap P kt RI b n (Lib.deleteFuncD pd D) ∧ w.grownBy w' (some b))
    (caps : List AV) (hcaps : ∀ c ∈ caps, pureC0 c = true) (del : α → Int → Bool) (hg : ∀ x v, kwf P kt (ka x) = true → Pure P G g ([ka x, .s (.int .i64 v)] ++ caps) (bl (del x v)) [])
    (H : List Bk) (i : Nat) (l : List (α × Int)) (hB : H[i]? = some (.map (l.map (rowA ka)) false)) (hk : ∀ p ∈ l, kwf P kt (ka p.1) = true) (hl : l.length ≤ 1000000) (hent : enterOk P F = true) :
    CallH P G F [.omp i, .fn (.func g) [] caps] H (.tup []) (putB H (i, .map ((l.filter fun p => !del p.1 p.2).map (rowA ka)) false)) := by
  refine ⟨hent, fun w0 ρ M W vals hw hgl hargs => ?_⟩
  obtain ⟨mv, us, rfl, q1, q2⟩ := hargs.inv_cons
  obtain ⟨fv, us2, rfl, q3, q4⟩ := q2.inv_cons
  obtain rfl : us2 = [] := by have := q4.len; cases us2 <;> simp at this; rfl
  cases q1 with
  | omp hid =>
  rename_i b sz
  cases q3 with
  | fn a1 a2 a3 a4 =>
  rename_i us vs
  obtain rfl : us = [] := by cases us <;> simp at a1; rfl
  obtain ⟨ents, clock, pq, hb, htd, hp, hR, hd, hf⟩ := br_inv (hw.blk _ _ _ _ hid hB)
  have hnm : ∀ kv, M.map b ≠ some kv := fun kv e => by have := hf (by rw [e]; rfl); cases this
  have hnc := hw.fro.no_cell hb (fun _ _ _ h => by cases h)
  obtain rfl := erel_inv S hR
  have hent1 : ∀ e ∈ ents.toList, ∃ p ∈ l, kvE e = rowV mk p := fun e he => by
    have : (e.key, e.val) ∈ l.map (rowV mk) := hp.mem_iff.1 (List.mem_map.2 ⟨e, he, rfl⟩)
    obtain ⟨p, hp1, hp2⟩ := List.mem_map.1 this
    exact ⟨p, hp1, hp2.symm⟩
  have hlen : ents.size = l.length := by have := hp.length_eq; simpa [kvs] using this
  have hinjl : l.Pairwise fun p q => mk p.1 ≠ mk q.1 := by
    have h1 : l.Pairwise fun p q => keyB (ka p.1) (ka q.1) = false := List.pairwise_map.1 hd
    refine (List.Pairwise.and_mem.1 h1).imp fun {p q} hh e => ?_
    obtain ⟨hp1, hq1, hh⟩ := hh
    have := (key_iff (hk p hp1) (S.vr M ρ p.1) (hk q hq1) (S.vr M ρ q.1)).2 e
    rw [this] at hh; cases hh
  have Ft : Fit P kt RI ents clock := by
    refine ⟨?_, ⟨htd.2, ?_, ?_⟩, fun x hx => ?_⟩
    · rw [hlen]; exact Nat.le_trans hl (by decide)
    · exact List.pairwise_map.2 htd.1
    · have h1 : (ents.toList.map (·.key)).Perm (l.map fun p => mk p.1) := by
        have := hp.map Prod.fst
        simpa [kvs, rowV, Function.comp_def] using this
      exact (h1.nodup_iff).2 (List.pairwise_map.2 hinjl)
    · obtain ⟨p, hp1, hp2⟩ := hent1 x hx
      obtain ⟨kl, _, h3, _⟩ := rg_row S (hk p hp1) hp2
      exact ⟨_, h3⟩
  have hown : W.ownsMap P kt RI b ents.size (.map ((ents.toList.map (rg P kt RI)).foldr DataW.insert [])) := ⟨ents, clock, hb, Ft, Nat.le_refl _, rfl⟩
  have hdel : ∀ (W' : World) (key val : Value) (kl : Lit) (yd : DataW Unit) (yp : List MemPlace), W.grownBy W' (some b) → keyOf P kt key = some kl → RI val = some (yd, yp) → Calls P g (#[key, val] ++ vs.toArray) W' fun e w' => e = .returned (.bool (pdD P kt mk del kl yd)) ∧ W'.grownBy w' none := by
    intro W' key val kl yd yp hgr hkey hv
    obtain ⟨x, rfl, hkx⟩ := S.inv key kl hkey
    obtain ⟨n, rfl, rfl⟩ := RI_inv hv
    rw [pdD_eq S K del hkey]
    have hwr : WR W' Nm.none M [] W' := by
      refine ⟨Below.refl _ _, hw.fro.keep fun k hk' => hgr.block k (fro_lt hw.fro hk') fun e => ?_, fun i x h => (nomatch h), fun i j b s t B B' h => (nomatch h), fun i b s B h => (nomatch h), fun i b s B h => (nomatch h)⟩
      obtain rfl := Option.some.inj e
      rcases hk' with ⟨o, v, h⟩ | ⟨kv, h⟩
      · exact hnc o v h
      · exact hnm kv h
    have hL : L2 (VR M Nm.none) ([ka x, .s (.int .i64 n)] ++ caps) ([mk x, .int .i64 n] ++ vs) := by
      refine L2.cons (S.vr _ _ _) (L2.cons (.s _ _) ⟨a3, fun i c v h1 h2 => none0 (a4 i c v h1 h2) (hcaps c (List.mem_of_getElem? h1))⟩)
    have hc := (hg x n hkx).2 W' Nm.none M W' _ hwr hgl hL
    have e : (#[mk x, .int .i64 n] ++ vs.toArray : Array Value) = ([mk x, .int .i64 n] ++ vs).toArray := by simp
    rw [e]
    refine hc.mono fun e w' hh => ?_
    obtain ⟨v, ρ', M', rfl, _, _, r1, r2, _⟩ := hh
    have := r2.inv_s
    subst this
    exact ⟨rfl, ⟨r1.bel.os, r1.bel.tape, r1.bel.output, r1.bel.size, fun k hk' _ => r1.bel.block k hk'⟩⟩
  refine (hany _ vs.toArray b ents.size _ W hown hdel).mono fun e w' hh => ?_
  obtain ⟨rfl, ⟨ents', clock', hb', F', hs', hD'⟩, hgr⟩ := hh
  refine ⟨_, ρ, M, rfl, Mem.le.refl M, Nm.le.refl ρ, ?_, .mkTup (vs := []) L2.nil, Fresh.refl _ _⟩
  · refine WR.setBlkG hw hid hB trivial hgr hnc hnm ?_
    have hperm : (kvs ents').Perm ((l.filter fun p => !del p.1 p.2).map (rowV mk)) := by
      have e1 : ((ents.toList.map (rg P kt RI)).foldr DataW.insert []).filter (fun p => !pdD P kt mk del p.1 p.2) = (ents'.toList.map (rg P kt RI)).foldr DataW.insert [] := by
        have h := hD'
        simp only [Lib.deleteFuncD] at h
        injection h
      have p1 : (ents'.toList.map (rg P kt RI)).Perm ((ents.toList.filter ((fun p : Lit × DataW Unit => !pdD P kt mk del p.1 p.2) ∘ rg P kt RI)).map (rg P kt RI)) := by
        rw [← List.filter_map]
        refine (Go.WideShapes.sorted_perm _).symm.trans ?_
        rw [← e1]
        exact (Go.WideShapes.sorted_perm _).filter _
      obtain ⟨S', s1, s2⟩ := perm_map_inv p1 (S := ents'.toList) rfl
      have e2 := map_agree (g := kvE) (fun x hx y hy hxy => ?_) s2
      · have p2 : (kvs ents').Perm ((ents.toList.filter ((fun p : Lit × DataW Unit => !pdD P kt mk del p.1 p.2) ∘ rg P kt RI)).map kvE) := by
          rw [e2]; exact s1.map kvE
        obtain ⟨L, t1, t2⟩ := perm_map_inv hp.symm (S := l) rfl
        have e3 : (ents.toList.filter ((fun p : Lit × DataW Unit => !pdD P kt mk del p.1 p.2) ∘ rg P kt RI)).map kvE = (L.filter fun p => !del p.1 p.2).map (rowV mk) := by
          refine filter_agree (fun x hx y hy hxy => ?_) t2
          obtain ⟨kl, h1, _, h3⟩ := rg_row S (hk y (t1.mem_iff.2 hy)) hxy
          show (!pdD P kt mk del (rg P kt RI x).1 (rg P kt RI x).2) = _
          rw [h3, pdD_eq S K del h1]
        rw [e3] at p2
        exact p2.trans ((t1.symm.filter _).map _)
      · obtain ⟨p, hp1, hp2⟩ := hent1 x ((List.mem_filter.1 hx).1)
        obtain ⟨kl, h1, _, h3⟩ := rg_row S (hk p hp1) hp2
        obtain ⟨z, hz⟩ := F'.reads y (s1.mem_iff.2 hy)
        have hkz := rd_key hz
        obtain ⟨z', hz1, hz2⟩ := rd_val hz
        rw [h3, rg_of hz] at hxy
        rw [← hxy] at hkz hz2
        have hk1 := K.inj hkz h1
        obtain ⟨n, hn1, hn2⟩ := RI_inv (yd := z'.1) (yp := z'.2) hz1
        rw [hn2] at hz2
        injection hz2 with hz2
        injection hz2 with _ hz2
        rw [hp2]
        show rowV mk p = (y.key, y.val)
        rw [hk1, hn1, ← hz2]; rfl
    have htd' : Tidy ents' clock' := ⟨List.pairwise_map.1 F'.stamped.2.1, F'.stamped.1⟩
    exact br_map hb' htd' hperm (erel_row S M ρ _) (List.pairwise_map.2 ((List.pairwise_map.1 hd).sublist (List.filter_sublist ..))) hf
end
end Go.Proofs.Ytfalaahbacdbjaa
