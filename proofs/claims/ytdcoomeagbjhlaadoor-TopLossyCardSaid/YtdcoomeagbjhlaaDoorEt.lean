/- What a sender keeps; what a receiver keeps. By the prover of this seat. -/
import Derived.Test.YtdcoomeagbjhlaaDoorEs
set_option linter.unusedVariables false
set_option linter.unusedSimpArgs false
set_option maxRecDepth 100000
set_option maxHeartbeats 4000000
namespace Go.Proofs.YtdcoomeagbjhlaaDoor.Lk
open Go.RowKit Go.Pm
theorem nth_mapP (f : Pc → Pc) (l : List Pc) (k : Nat) (h : k < l.length) : nth (l.map f) k = f (nth l k) := by
  unfold nth
  simp [h]
theorem nth_dropP {α : Type} [Inhabited α] (l : List α) (g k : Nat) : nth (l.drop g) k = nth l (g + k) := by unfold nth; simp
theorem AI.flags {most : Nat} {Z : ByteArray} {P : List ByteArray} {A : En} {lo : Nat} (h : AI most Z P A lo) (f : Pc → Pc) (hf : ∀ x, (f x).n = x.n ∧ (f x).b = x.b) (c : Bool) : AI most Z P { A with way := A.way.map f, ack := c } lo := by
  refine ⟨⟨h.mo, h.cat, h.nx, by show _ + (A.way.map f).length = _; rw [List.length_map]; exact h.len, fun i hi => ?_, by show (A.way.map f).length ≤ _; rw [List.length_map]; exact h.w16, h.sz, h.ex⟩, by show _ ∨ (A.way.map f).length = _; rw [List.length_map]; exact h.full⟩
  have hi' : i < A.way.length := by rw [← List.length_map f]; exact hi
  show (nth (A.way.map f) i).n = _ ∧ (nth (A.way.map f) i).b = _
  rw [nth_mapP f _ _ hi', (hf _).1, (hf _).2]
  exact h.num i hi'
theorem AI.send {most : Nat} {Z : ByteArray} {P : List ByteArray} {A : En} {lo : Nat} (h : AI most Z P A lo) (hm : 1 ≤ most) (F : ByteArray) : ∃ P', AI most (Z ++ F) (P ++ P') (sendD A F) lo := by
  have h2 : AJ most (Z ++ F) P { A with rest := A.rest ++ F } lo := ⟨h.mo, by show catB P ++ (A.rest ++ F) = _; rw [← ByteArray.append_assoc, h.cat], h.nx, h.len, h.num, h.w16, h.sz, h.ex⟩
  obtain ⟨P', N, q, _⟩ := numD_ok hm 16 P _ h2 (by omega)
  exact ⟨P', q⟩
/-- what is acknowledged up to t -/
theorem AI.ack {most : Nat} {Z : ByteArray} {P : List ByteArray} {A : En} {lo E t : Nat} (h : AI most Z P A lo) (hm : 1 ≤ most) (hE : lo ≤ E) (ht : t ≤ E) : ∃ P' lo' N, lo' ≤ E ∧ lo ≤ lo' ∧ AI most Z (P ++ P') (gotA A t) lo' ∧ (gotA A t).way = A.way.drop (goneN t A.way) ++ N ∧ (∀ x ∈ N, x.d = true) ∧ (gotA A t).ack = A.ack ∧ (gotA A t).rest.size ≤ A.rest.size - (16 - (A.way.length - goneN t A.way)) ∧ (A.rest = ⟨#[]⟩ → (gotA A t).way = A.way.drop (goneN t A.way) ∧ (gotA A t).rest = ⟨#[]⟩) := by
  have hg := gone_le t A.way
  obtain ⟨g1, g2⟩ := gone_at t A.way
  have hl : lo + goneN t A.way ≤ E := by
    rcases Nat.eq_zero_or_pos (goneN t A.way) with q | q
    · omega
    · have a := g1 (goneN t A.way - 1) (by omega)
      have b := (h.num (goneN t A.way - 1) (by omega)).1
      omega
  have hlen := h.len
  have h16 := h.w16
  have h2 : AJ most Z P { A with way := A.way.drop (goneN t A.way) } (lo + goneN t A.way) := by
    refine ⟨h.mo, h.cat, h.nx, by show _ + (A.way.drop _).length = _; rw [List.length_drop]; omega, fun i hi => ?_, by show (A.way.drop _).length ≤ _; rw [List.length_drop]; omega, h.sz, h.ex⟩
    have hi' : i < A.way.length - goneN t A.way := by rw [← List.length_drop]; exact hi
    have := h.num (goneN t A.way + i) (by omega)
    show (nth (A.way.drop _) i).n = _ ∧ (nth (A.way.drop _) i).b = _
    rw [nth_dropP, this.1, this.2, show lo + goneN t A.way + i = lo + (goneN t A.way + i) by omega]
    exact ⟨rfl, rfl⟩
  obtain ⟨P', N, q1, q2, q3, q4, q5, q6, q7, q8⟩ := numD_ok hm 16 P _ h2 (by omega)
  refine ⟨P', lo + goneN t A.way, N, hl, by omega, q1, q2, q3, q4, ?_, fun hr => ?_⟩
  · have e : (A.way.drop (goneN t A.way)).length = A.way.length - goneN t A.way := List.length_drop
    have := q5
    rw [e] at this
    exact this
  · have := q8 hr
    unfold gotA
    rw [this]
    exact ⟨rfl, hr⟩
theorem gone_all {most : Nat} {Z : ByteArray} {P : List ByteArray} {A : En} {lo t : Nat} (h : AI most Z P A lo) (ht : P.length ≤ t) : goneN t A.way = A.way.length := by
  have hg := gone_le t A.way
  obtain ⟨_, g2⟩ := gone_at t A.way
  rcases Nat.lt_or_ge (goneN t A.way) A.way.length with q | q
  · have a := g2 q
    have b := (h.num _ q).1
    have := h.len
    omega
  · omega
/-- a packet that a sender may have put on the line -/
def PkA (P : List ByteArray) (q : ByteArray) : Prop := (∃ k, k < P.length ∧ q = pkB 0 k 0 (nth P k)) ∨ q = pkB 1 0 0 e0
def PkB (E : Nat) (q : ByteArray) : Prop := ∃ t, t ≤ E ∧ q = pkB 1 0 t e0
theorem PkA.mono {P P' : List ByteArray} {q : ByteArray} (h : PkA P q) : PkA (P ++ P') q := by
  rcases h with ⟨k, h1, h2⟩ | h
  · exact .inl ⟨k, by rw [List.length_append]; omega, by rw [nth_app1 h1]; exact h2⟩
  · exact .inr h
theorem AI.due {most : Nat} {Z : ByteArray} {P : List ByteArray} {A : En} {lo : Nat} (h : AI most Z P A lo) : ∀ q ∈ dueR A, PkA P q := by
  intro q hq
  have hlen := h.len
  have key : ∀ q ∈ dueL A.exp A.way, PkA P q := by
    intro q hq
    unfold dueL at hq
    obtain ⟨p, hp, rfl⟩ := List.mem_map.1 hq
    have hp := (List.mem_filter.1 hp).1
    obtain ⟨i, hi, rfl⟩ := List.getElem_of_mem hp
    obtain ⟨a, b⟩ := h.num i hi
    rw [nth_eq hi] at a b
    refine .inl ⟨lo + i, by omega, ?_⟩
    unfold pkP
    rw [a, b, h.ex]
  unfold dueR at hq
  split at hq
  · rw [List.mem_singleton.1 hq, h.ex]
    exact .inr rfl
  · exact key q hq
/-- where all are due -/
theorem due_all (t : Nat) : ∀ l : List Pc, (∀ x ∈ l, x.d = true) → dueL t l = l.map (pkP t)
  | [], _ => rfl
  | x :: l, h => by
    have := due_all t l fun y hy => h y (List.mem_cons_of_mem _ hy)
    unfold dueL at this ⊢
    rw [List.filter_cons, if_pos (h x (List.mem_cons_self ..)), List.map_cons, this, List.map_cons]
/-! receivers -/
structure BJ (most : Nat) (P : List ByteArray) (B : En) (E0 : Nat) : Prop where
  mo : B.most = most
  way : B.way = []
  nx : B.next = 0
  rest : B.rest = ⟨#[]⟩
  exp : B.exp ≤ P.length
  asd : ∀ j, B.asd j = ⟨#[]⟩ ∨ (j < 16 ∧ B.exp + j < P.length ∧ B.asd j = nth P (B.exp + j))
  e0 : E0 ≤ B.exp
  rd : catB (P.take E0) ++ B.read = catB (P.take B.exp)
structure BI (most : Nat) (P : List ByteArray) (B : En) (E0 : Nat) : Prop extends BJ most P B E0 where
  as0 : B.asd 0 = ⟨#[]⟩
theorem BI.mono {most : Nat} {P P' : List ByteArray} {B : En} {E0 : Nat} (h : BI most P B E0) : BI most (P ++ P') B E0 := by
  have h1 := h.exp
  have h2 := h.e0
  refine ⟨⟨h.mo, h.way, h.nx, h.rest, by rw [List.length_append]; omega, fun j => ?_, h.e0, ?_⟩, h.as0⟩
  · rcases h.asd j with q | ⟨q1, q2, q3⟩
    · exact .inl q
    · exact .inr ⟨q1, by rw [List.length_append]; omega, by rw [nth_app1 q2]; exact q3⟩
  · rw [List.take_append_of_le_length (by omega), List.take_append_of_le_length (by omega)]
    exact h.rd
theorem BJ.shift {most : Nat} {P : List ByteArray} {B : En} {E0 : Nat} (h : BJ most P B E0) (ha : ¬ B.asd 0 = ⟨#[]⟩) : BJ most P (shiftA B) E0 := by
  have h2 := h.e0
  rcases h.asd 0 with q | ⟨_, q2, q3⟩
  · exact absurd q ha
  · refine ⟨h.mo, h.way, h.nx, h.rest, by show B.exp + 1 ≤ _; omega, fun j => ?_, by show E0 ≤ B.exp + 1; omega, ?_⟩
    · rw [shift_at]
      by_cases e : j = 15
      · rw [if_pos e]; exact .inl rfl
      · rw [if_neg e]
        rcases h.asd (j + 1) with r | ⟨r1, r2, r3⟩
        · exact .inl r
        · exact .inr ⟨by omega, by show B.exp + 1 + j < _; omega, by rw [r3]; show nth P (B.exp + (j + 1)) = nth P (B.exp + 1 + j); congr 1; omega⟩
    · show catB (P.take E0) ++ (B.read ++ B.asd 0) = catB (P.take (B.exp + 1))
      rw [← ByteArray.append_assoc, h.rd, q3, take_nth (show B.exp < P.length by omega), cat_app]
      show _ = _ ++ (_ ++ ByteArray.empty)
      rw [ByteArray.append_empty]
      rfl
theorem drain_ok {most : Nat} {P : List ByteArray} {E0 : Nat} : ∀ (k : Nat) (B : En), BJ most P B E0 → (∀ i, k ≤ i → i < 16 → B.asd i = ⟨#[]⟩) → BI most P (drain k B) E0 ∧ B.exp ≤ (drain k B).exp ∧ (¬ B.asd 0 = ⟨#[]⟩ → B.exp + 1 ≤ (drain k B).exp) ∧ (drain k B).ack = B.ack
  | 0, B, h, he => ⟨⟨h, he 0 (Nat.le_refl _) (by omega)⟩, Nat.le_refl _, fun q => absurd (he 0 (Nat.le_refl _) (by omega)) q, rfl⟩
  | k + 1, B, h, he => by
    unfold drain
    by_cases ha : B.asd 0 = ⟨#[]⟩
    · rw [if_pos ha]
      exact ⟨⟨h, ha⟩, Nat.le_refl _, fun q => absurd ha q, rfl⟩
    · rw [if_neg ha]
      obtain ⟨q1, q2, _, q4⟩ := drain_ok k (shiftA B) (h.shift ha) (fun i hi hi2 => by
        rw [shift_at]
        split
        · rfl
        · exact he (i + 1) (by omega) (by omega))
      have e : (shiftA B).exp = B.exp + 1 := rfl
      rw [e] at q2
      exact ⟨q1, by omega, fun _ => q2, q4⟩
theorem take_ok {most : Nat} {P : List ByteArray} {B : En} {E0 k : Nat} (h : BI most P B E0) (hk : k < P.length) (hx : k ≤ B.exp + 15) (hp : 1 ≤ (nth P k).size) : BI most P (takeD B k (nth P k)) E0 ∧ B.exp ≤ (takeD B k (nth P k)).exp ∧ (k ≤ B.exp → k + 1 ≤ (takeD B k (nth P k)).exp) ∧ (takeD B k (nth P k)).ack = true := by
  have hJ : BJ most P { B with ack := true } E0 := ⟨h.mo, h.way, h.nx, h.rest, h.exp, h.asd, h.e0, h.rd⟩
  unfold takeD
  by_cases h1 : k < B.exp
  · rw [if_pos h1]
    exact ⟨⟨hJ, h.as0⟩, Nat.le_refl _, fun _ => h1, rfl⟩
  · rw [if_neg h1]
    by_cases h2 : B.asd (k - B.exp) = ⟨#[]⟩
    · rw [if_neg (fun q => q h2)]
      have hJ2 : BJ most P (putA { B with ack := true } (k - B.exp) (nth P k)) E0 := by
        refine ⟨h.mo, h.way, h.nx, h.rest, h.exp, fun j => ?_, h.e0, h.rd⟩
        show (if j = k - B.exp then nth P k else B.asd j) = _ ∨ _ ∧ _ ∧ (if j = k - B.exp then nth P k else B.asd j) = _
        by_cases e : j = k - B.exp
        · rw [if_pos e]
          right
          exact ⟨by omega, by show B.exp + j < _; omega, by show nth P k = nth P (B.exp + j); congr 1; omega⟩
        · rw [if_neg e]
          exact h.asd j
      obtain ⟨q1, q2, q3, q4⟩ := drain_ok 16 _ hJ2 (fun i hi hi2 => by omega)
      refine ⟨q1, q2, fun hk2 => ?_, q4⟩
      have hk3 : k - B.exp = 0 := by omega
      have := q3 (by
        show ¬ (if 0 = k - B.exp then nth P k else B.asd 0) = _
        rw [if_pos hk3.symm]
        intro q
        rw [q] at hp
        exact absurd hp (by decide))
      have e : (putA { B with ack := true } (k - B.exp) (nth P k)).exp = B.exp := rfl
      rw [e] at this
      omega
    · rw [if_pos h2]
      refine ⟨⟨hJ, h.as0⟩, Nat.le_refl _, fun hk2 => ?_, rfl⟩
      have hk3 : k - B.exp = 0 := by omega
      rw [hk3] at h2
      exact absurd h.as0 h2
theorem en_way (e : En) (w : List Pc) (h : e.way = w) : { e with way := w } = e := by subst h; rfl
theorem numD_rest (k : Nat) (e : En) (h : e.rest = ⟨#[]⟩) : numD k e = e := by
  cases k with
  | zero => rfl
  | succ k => unfold numD; rw [if_pos (.inl h)]
theorem gotD_b {most : Nat} {P : List ByteArray} {B : En} {E0 k : Nat} {b : ByteArray} (h : BI most P B E0) (h' : (takeD B k b).way = [] ∧ (takeD B k b).rest = ⟨#[]⟩) (t : Nat) : gotD B k t b = takeD B k b := by
  unfold gotD
  rw [h.way, List.drop_nil, en_way _ _ h'.1, numD_rest _ _ h'.2]
theorem gotA_b {most : Nat} {P : List ByteArray} {B : En} {E0 : Nat} (h : BI most P B E0) (t : Nat) : gotA B t = B := by
  unfold gotA
  have : B.way.drop (goneN t B.way) = B.way := by rw [h.way, List.drop_nil]
  rw [this, en_way _ _ rfl, numD_rest _ _ h.rest]
end Go.Proofs.YtdcoomeagbjhlaaDoor.Lk
