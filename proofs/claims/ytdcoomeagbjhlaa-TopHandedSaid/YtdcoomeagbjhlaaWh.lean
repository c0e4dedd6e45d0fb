/- Handed over: what a round does, in plain. By the prover of this seat. -/
import Derived.Test.YtdcoomeagbjhlaaWg
set_option linter.unusedVariables false
set_option linter.unusedSimpArgs false
set_option maxRecDepth 100000
set_option maxHeartbeats 4000000
namespace Go.Proofs.Ytdcoomeagbjhlaa.Cl
open Go.RowKit Go.Pm
theorem flat_le {α β : Type} (f : α → List β) (hf : ∀ x, (f x).length ≤ 1) (l : List α) : (l.flatMap f).length ≤ l.length := by
  induction l with
  | nil => simp
  | cons x l ih => rw [List.flatMap_cons, List.length_append, List.length_cons]; have := hf x; omega
theorem dropR_sel (client : Int) (ids : List Int) (x : Rec) : (dropR client ids x).sel = x.sel := by unfold dropR; split <;> rfl
theorem drop_tok {t : Tab} (h : TOk t) (client : Int) (ids : List Int) : TOk (dropT t client ids).1 := by
  refine ⟨?_, fun x hx => ?_, fun x hx hw => ?_, ?_, ?_⟩
  · have : keysApart Rec.sel (t.c.map (dropR client ids)) := by
      unfold keysApart
      rw [List.pairwise_map]
      exact h.apart.imp fun {a b} q => by rw [dropR_sel, dropR_sel]; exact q
    exact this
  · obtain ⟨y, hy, rfl⟩ := List.mem_map.1 hx
    rw [dropR_sel]; exact h.sel y hy
  · obtain ⟨y, hy, rfl⟩ := List.mem_map.1 hx
    unfold dropR at hw ⊢
    split at hw
    · rw [if_pos (by assumption)]
    · rw [if_neg (by assumption)]; exact h.own y hy hw
  · show (t.c.map (dropR client ids)).length ≤ 1000
    rw [List.length_map]; exact h.len
  · exact Nat.le_trans (flat_le _ (keepQ_le _ _) _) h.room
theorem put_tok {t : Tab} (h : TOk t) (hl : t.c.length < 1000) (x : Rec) (hs : 0 ≤ x.sel ∧ x.sel ≤ 4294967295) (ho : x.win = 0 → x.client = 0) : TOk ⟨putM Rec.sel t.c x, t.q⟩ := by
  refine ⟨apart_put h.apart x, fun y hy => ?_, fun y hy hw => ?_, ?_, h.room⟩
  · rcases List.mem_append.1 hy with hy | hy
    · exact h.sel y (mem_dropM.1 hy).1
    · obtain rfl := List.mem_singleton.1 hy; exact hs
  · rcases List.mem_append.1 hy with hy | hy
    · exact h.own y (mem_dropM.1 hy).1 hw
    · obtain rfl := List.mem_singleton.1 hy; exact ho hw
  · show (putM Rec.sel t.c x).length ≤ 1000
    unfold putM
    rw [List.length_append, List.length_singleton]
    have : (dropM Rec.sel t.c x.sel).length ≤ t.c.length := List.length_filter_le _ _
    omega
theorem set_tok {t : Tab} (h : TOk t) (hl : t.c.length < 1000) (a client win time now : Int) (ha : 0 ≤ a ∧ a ≤ 4294967295) : TOk (setD t a client win time now).1 := by
  unfold setD
  split
  · exact h
  · exact put_tok h hl _ ha (fun hw => by simp [newD] at hw ⊢; exact fun q => absurd hw q)
theorem putM_len (l : List Rec) (x : Rec) : (putM Rec.sel l x).length ≤ l.length + 1 := by
  unfold putM
  rw [List.length_append, List.length_singleton]
  have : (dropM Rec.sel l x.sel).length ≤ l.length := List.length_filter_le _ _
  omega
theorem set_len (t : Tab) (a client win time now : Int) : (setD t a client win time now).1.c.length ≤ t.c.length + 1 := by
  unfold setD; split
  · exact Nat.le_succ _
  · exact putM_len _ _
theorem set_q (t : Tab) (a client win time now : Int) : (setD t a client win time now).1.q = t.q := by
  unfold setD; split <;> rfl
end Go.Proofs.Ytdcoomeagbjhlaa.Cl
namespace Go.Proofs.Ytdcoomeagbjhlaa
open Go.RowKit Go.Pm
open Go.Proofs.Ytdcoomeagbjhlaa.Cl (Tab tabA setA convA slS TOk setD convD dropT)
def tiL : Option (List Int) → List Prp
  | none => []
  | some x => [⟨8, 5, 32, x⟩]
def trL : Option (List Int) → List Prp
  | none => []
  | some c => [⟨9, 7, 32, c⟩]
def mkL (ti tr : Option (List Int)) : Bool → List Prp
  | true => tiL ti ++ trL tr
  | false => trL tr ++ tiL ti
def tiN : Option (List Int) → Nat
  | none => 0
  | some x => x.length
theorem mk_len (ti tr : Option (List Int)) (f : Bool) : (mkL ti tr f).length ≤ 2 := by cases ti <;> cases tr <;> cases f <;> simp [mkL, tiL, trL]
theorem mk_no9 (ti : Option (List Int)) (f : Bool) : idxD (nameD 9) (mkL ti none f) = none := by cases ti <;> cases f <;> rfl
theorem mk_no8 (tr : Option (List Int)) (f : Bool) : idxD (nameD 8) (mkL none tr f) = none := by cases tr <;> cases f <;> rfl
theorem mk_no10 (ti tr : Option (List Int)) (f : Bool) : idxD (nameD 10) (mkL ti tr f) = none := by cases ti <;> cases tr <;> cases f <;> rfl
theorem app_any (ti tr : Option (List Int)) (f : Bool) (n : Int) (n0 : 0 ≤ n) (n1 : n ≤ 4294967295) (hl : tiN ti ≤ 1000) : ∃ ti' f', Pu 28 [lstA (mkL ti tr f), i64 2, A (propL ⟨8, 5, 32, [n]⟩)] (.tup [lstA (mkL ti' tr f'), i64 0]) ∧ tiN ti' ≤ tiN ti + 1 := by
  have g : Good ⟨8, 5, 32, [n]⟩ := ⟨by simp, by simp, rfl, by simp, fun v hv => by rw [List.mem_singleton.1 hv]; exact ⟨n0, n1⟩⟩
  have hm := mk_len ti tr f
  cases ti with
  | none =>
    refine ⟨some [n], false, ?_, by simp [tiN]⟩
    have h := change_new (mkL none tr f) 2 ⟨8, 5, 32, [n]⟩ (.inr rfl) g (by omega) (mk_no8 tr f)
    rw [show mkL none tr f ++ [⟨8, 5, 32, [n]⟩] = mkL (some [n]) tr false by cases tr <;> cases f <;> rfl] at h
    exact h
  | some x =>
    refine ⟨some (x ++ [n]), f, ?_, by simp [tiN]⟩
    have hx : ∃ i, idxD (nameD 8) (mkL (some x) tr f) = some i ∧ nth (mkL (some x) tr f) i = ⟨8, 5, 32, x⟩ ∧ (mkL (some x) tr f).set i ⟨8, 5, 32, x ++ [n]⟩ = mkL (some (x ++ [n])) tr f := by
      cases f with
      | true => exact ⟨0, by cases tr <;> rfl, by cases tr <;> rfl, by cases tr <;> rfl⟩
      | false => cases tr with
        | none => exact ⟨0, rfl, rfl, rfl⟩
        | some c => exact ⟨1, rfl, rfl, rfl⟩
    obtain ⟨i, h1, h2, h3⟩ := hx
    have h := change_app (mkL (some x) tr f) ⟨8, 5, 32, [n]⟩ ⟨8, 5, 32, x⟩ i g (by omega) h2 h1 rfl rfl (by simp [tiN] at hl ⊢; omega)
    simp only [h3] at h
    exact h
theorem get_tr (ti : Option (List Int)) (c : List Int) (f : Bool) (hc : c.length ≤ 16384) : Pu 30 [lstA (mkL ti (some c) f), u32 9, u32 7, i64 0, i64 16384, bl true] (.tup [lstA (mkL ti none f), A (foundL ⟨9, 7, 32, c⟩ 0), bl true, i64 0]) := by
  have hm := mk_len ti (some c) f
  have hx : ∃ i, idxD (nameD 9) (mkL ti (some c) f) = some i ∧ nth (mkL ti (some c) f) i = ⟨9, 7, 32, c⟩ ∧ dropP (mkL ti (some c) f) i = mkL ti none f := by
    cases f with
    | false => exact ⟨0, by cases ti <;> rfl, by cases ti <;> rfl, by cases ti <;> rfl⟩
    | true => cases ti with
      | none => exact ⟨0, rfl, rfl, rfl⟩
      | some x => exact ⟨1, rfl, rfl, rfl⟩
  obtain ⟨i, h1, h2, h3⟩ := hx
  have h := get_all (mkL ti (some c) f) 9 7 16384 i ⟨9, 7, 32, c⟩ (by omega) h2 (by simp only; omega) (by omega) rfl (by omega) h1
  rw [h3] at h
  exact h
theorem nums_all {l : List Int} (h : numsD l = true) : ∀ v ∈ l, 0 ≤ v ∧ v ≤ 4294967295 := by
  intro v hv
  unfold numsD at h
  have hn : idxD badD l = none := by cases hx : idxD badD l with
    | none => rfl
    | some k => rw [hx] at h; cases h
  obtain ⟨k, hk, rfl⟩ := List.getElem_of_mem hv
  have := idx_none hn k hk
  rw [nth_eq hk] at this
  simpa [badD, numD] using this
theorem code_good {p : Piece} (h : ¬ kindD p = 4) : Good ⟨9, 7, 32, codeD p⟩ := by
  have hr := kind_range p
  have ht := kind_total h
  have hx : p.data.length ≤ 16382 ∧ numsD p.data = true := by
    have h' := h
    unfold kindD kindT at h'
    by_cases a : (p.data.length : Int) > 16382
    · rw [if_pos a] at h'; exact absurd rfl h'
    · rw [if_neg a] at h'
      by_cases b : numsD p.data = true
      · exact ⟨by omega, b⟩
      · rw [if_neg b] at h'; exact absurd rfl h'
  refine ⟨by simp, by simp, rfl, ?_, ?_⟩
  · show (codeD p).length ≤ 16384
    unfold codeD; rw [if_neg h]; simp; omega
  · show ∀ v ∈ codeD p, 0 ≤ v ∧ v ≤ 4294967295
    unfold codeD; rw [if_neg h]
    intro v hv
    rcases List.mem_cons.1 hv with rfl | hv
    · omega
    · rcases List.mem_cons.1 hv with rfl | hv
      · omega
      · exact nums_all hx.2 v hv
structure MOk (w : Mw) : Prop where
  q0 : 0 ≤ w.q
  q1 : w.q ≤ 255
  n0 : 0 ≤ w.n
  n1 : w.n ≤ 4294967295
theorem between_ok (ti tr : Option (List Int)) (f : Bool) (t : Tab) (g : Give) (k : Take) (dd : Bool) (w : Mw) (i : Nat) (hw : MOk w) (hi : i ≤ 500) (ht : TOk t) (hc : t.c.length ≤ i + 2) (hti : tiN ti ≤ i) (hq : dd = false → t.q = tb2.q) :
    ∃ ti' f' t' k' dd', Pu 8 [A (hsL ⟨mkL ti tr f, t, g, k, dd⟩), A (mwL w)] (A (hsL ⟨mkL ti' tr f', t', g, k', dd'⟩)) ∧ tiN ti' ≤ i + 1 ∧ TOk t' ∧ t'.c.length ≤ i + 3 ∧ ((k' = k ∧ dd' = dd ∧ (dd = false → t'.q = tb2.q)) ∨ (dd = false ∧ dd' = true ∧ k' = refusedD k)) := by
  obtain ⟨q, die, n⟩ := w
  obtain ⟨q0, q1, n0, n1⟩ := hw
  simp only at q0 q1 n0 n1
  have hm := mk_len ti tr f
  by_cases c2 : q % 6 = 2
  · obtain ⟨ti', f', h1, h2⟩ := app_any ti tr f n n0 n1 (by omega)
    exact ⟨ti', f', t, k, dd, bt_two _ _ t g k dd q n die q0 q1 n0 n1 c2 h1, by omega, ht, by omega, .inl ⟨rfl, rfl, hq⟩⟩
  by_cases c3 : q % 6 = 3
  · have h1 := Cl.set_ok t ht 3 3 3145729 0 n (by omega) (by omega)
    have h2 := Cl.set_tok ht (by omega) 3 3 3145729 0 n (by omega)
    have h3 := Cl.set_len t 3 3 3145729 0 n
    have h4 := Cl.set_q t 3 3 3145729 0 n
    generalize setD t 3 3 3145729 0 n = r at h1 h2 h3 h4
    obtain ⟨t', ss, b⟩ := r
    simp only at h2 h3 h4
    exact ⟨ti, f, t', k, dd, bt_three _ t t' ss b g k dd q n die q0 q1 c3 h1, by omega, h2, by omega, .inl ⟨rfl, rfl, fun z => h4.trans (hq z)⟩⟩
  by_cases c4 : q % 6 = 4
  · exact ⟨ti, f, t, k, dd, bt_four _ t g k dd q n die q0 q1 c4 (by omega) (mk_no10 ti tr f), by omega, ht, by omega, .inl ⟨rfl, rfl, hq⟩⟩
  by_cases c5 : q % 6 = 5
  · by_cases z : die = false ∨ dd = true
    · exact ⟨ti, f, t, k, dd, bt_live _ t g k dd q n die q0 q1 c5 z, by omega, ht, by omega, .inl ⟨rfl, rfl, hq⟩⟩
    · obtain ⟨z1, z2⟩ : die = true ∧ dd = false := by cases die <;> cases dd <;> simp_all
      subst z1 z2
      have h1 := Cl.drop_ok t ht 1 [] (by simp)
      have h2 := Cl.drop_tok ht 1 []
      have h3 : (dropT t 1 []).1.c.length = t.c.length := by simp [dropT]
      have h4 : 0 < (dropT t 1 []).2.length := by
        show 0 < (t.q.flatMap _).length
        rw [hq rfl]; decide
      generalize dropT t 1 [] = r at h1 h2 h3 h4
      obtain ⟨t', ss⟩ := r
      simp only at h2 h3 h4
      exact ⟨ti, f, t', refusedD k, true, bt_die _ t t' ss g k (refusedD k) q n q0 q1 c5 h1 h4 (refused_ok k), by omega, h2, by omega, .inr ⟨rfl, rfl, rfl⟩⟩
  · exact ⟨ti, f, t, k, dd, bt_none _ t g k dd q n die q0 q1 c2 c3 c4 c5, by omega, ht, by omega, .inl ⟨rfl, rfl, hq⟩⟩
end Go.Proofs.Ytdcoomeagbjhlaa
