/- What a sender keeps: the pieces. By the prover of this seat. -/
import Derived.Test.YtdcoomeagbjhlaaDoorEr
set_option linter.unusedVariables false
set_option linter.unusedSimpArgs false
set_option maxRecDepth 100000
set_option maxHeartbeats 4000000
namespace Go.Proofs.YtdcoomeagbjhlaaDoor.Lk
open Go.RowKit Go.Pm
/-- the pieces P, of which those from lo on are under way; what isn't numbered stands behind them -/
structure AJ (most : Nat) (Z : ByteArray) (P : List ByteArray) (A : En) (lo : Nat) : Prop where
  mo : A.most = most
  cat : catB P ++ A.rest = Z
  nx : A.next = P.length
  len : lo + A.way.length = P.length
  num : ∀ i, i < A.way.length → (nth A.way i).n = lo + i ∧ (nth A.way i).b = nth P (lo + i)
  w16 : A.way.length ≤ 16
  sz : ∀ p ∈ P, 1 ≤ p.size ∧ p.size ≤ most
  ex : A.exp = 0
structure AI (most : Nat) (Z : ByteArray) (P : List ByteArray) (A : En) (lo : Nat) : Prop extends AJ most Z P A lo where
  full : A.rest = ⟨#[]⟩ ∨ A.way.length = 16
theorem ba_ne {b : ByteArray} (h : ¬ b = ⟨#[]⟩) : 1 ≤ b.size := by
  rcases Nat.eq_zero_or_pos b.size with q | q
  · exact absurd (ByteArray.size_eq_zero_iff.1 q) h
  · exact q
theorem nth_app1 {α : Type} [Inhabited α] {X Y : List α} {i : Nat} (h : i < X.length) : nth (X ++ Y) i = nth X i := by
  unfold nth
  rw [List.getD_eq_getElem?_getD, List.getD_eq_getElem?_getD, List.getElem?_append_left h]
theorem nth_app2 {α : Type} [Inhabited α] {X : List α} {x : α} : nth (X ++ [x]) X.length = x := by
  unfold nth
  rw [List.getD_eq_getElem?_getD, List.getElem?_append_right (Nat.le_refl _)]
  simp
theorem AJ.step {most : Nat} {Z : ByteArray} {P : List ByteArray} {A : En} {lo : Nat} (h : AJ most Z P A lo) (hm : 1 ≤ most) (hr : ¬ A.rest = ⟨#[]⟩) (hw : A.way.length < 16) : AJ most Z (P ++ [A.rest.extract 0 (min A.most A.rest.size)]) (numS A (min A.most A.rest.size)) lo := by
  have h1 := ba_ne hr
  have hmo := h.mo
  have hlen := h.len
  have hxs : (A.rest.extract 0 (min A.most A.rest.size)).size = min A.most A.rest.size := by rw [ByteArray.size_extract]; omega
  refine ⟨h.mo, ?_, ?_, ?_, fun i hi => ?_, ?_, fun p hp => ?_, h.ex⟩
  · rw [cat_app]
    show (catB P ++ (A.rest.extract 0 (min A.most A.rest.size) ++ ByteArray.empty)) ++ A.rest.extract (min A.most A.rest.size) A.rest.size = Z
    rw [ByteArray.append_empty, ByteArray.append_assoc, ByteArray.extract_append_extract, show min 0 (min A.most A.rest.size) = 0 by omega, show max (min A.most A.rest.size) A.rest.size = A.rest.size by omega, ByteArray.extract_zero_size]
    exact h.cat
  · show A.next + 1 = _
    rw [List.length_append, h.nx]; rfl
  · rw [numS_len, List.length_append]
    show _ = P.length + 1
    omega
  · rw [numS_len] at hi
    by_cases e : i < A.way.length
    · have e1 : nth (numS A (min A.most A.rest.size)).way i = nth A.way i := nth_app1 e
      have e2 : nth (P ++ [A.rest.extract 0 (min A.most A.rest.size)]) (lo + i) = nth P (lo + i) := nth_app1 (by omega)
      rw [e1, e2]
      exact h.num i e
    · have e2 : i = A.way.length := by omega
      subst e2
      have e1 : nth (numS A (min A.most A.rest.size)).way A.way.length = numX A (min A.most A.rest.size) := nth_app2
      rw [e1, hlen, nth_app2]
      exact ⟨h.nx, rfl⟩
  · rw [numS_len]; omega
  · rcases List.mem_append.1 hp with hp | hp
    · exact h.sz p hp
    · rw [List.mem_singleton.1 hp, hxs]
      omega
/-- what number makes of it -/
theorem numD_ok {most : Nat} {Z : ByteArray} {lo : Nat} (hm : 1 ≤ most) : ∀ (k : Nat) (P : List ByteArray) (A : En), AJ most Z P A lo → 16 ≤ k + A.way.length → ∃ P' N, AI most Z (P ++ P') (numD k A) lo ∧ (numD k A).way = A.way ++ N ∧ (∀ x ∈ N, x.d = true) ∧ (numD k A).ack = A.ack ∧ (numD k A).rest.size ≤ A.rest.size - (16 - A.way.length) ∧ (numD k A).asd = A.asd ∧ (numD k A).read = A.read ∧ (A.rest = ⟨#[]⟩ → numD k A = A)
  | 0, P, A, h, hk => ⟨[], [], by rw [List.append_nil]; exact ⟨h, .inr (by have := h.w16; show A.way.length = 16; omega)⟩, (List.append_nil _).symm, fun x hx => by simp at hx, rfl, by show A.rest.size ≤ _; omega, rfl, rfl, fun _ => rfl⟩
  | k + 1, P, A, h, hk => by
    have h16 := h.w16
    by_cases hc : A.rest = ⟨#[]⟩ ∨ ¬ A.way.length < 16
    · have e : numD (k + 1) A = A := by unfold numD; rw [if_pos hc]
      rw [e]
      refine ⟨[], [], by rw [List.append_nil]; exact ⟨h, hc.imp id (by omega)⟩, (List.append_nil _).symm, fun x hx => by simp at hx, rfl, ?_, rfl, rfl, fun _ => rfl⟩
      rcases hc with q | q
      · rw [q]; exact Nat.zero_le _
      · omega
    · have h1 : ¬ A.rest = ⟨#[]⟩ := fun q => hc (.inl q)
      have h2 : A.way.length < 16 := by
        rcases Nat.lt_or_ge A.way.length 16 with q | q
        · exact q
        · exact absurd (.inr (by omega)) hc
      have e : numD (k + 1) A = numD k (numS A (min A.most A.rest.size)) := by
        show (if _ then _ else _) = _
        rw [if_neg hc]
      obtain ⟨P', N, q1, q2, q3, q4, q5, q6, q7, _⟩ := numD_ok hm k _ _ (h.step hm h1 h2) (by rw [numS_len]; omega)
      rw [e]
      refine ⟨[A.rest.extract 0 (min A.most A.rest.size)] ++ P', [numX A (min A.most A.rest.size)] ++ N, by rw [← List.append_assoc]; exact q1, by rw [q2, ← List.append_assoc]; rfl, fun x hx => ?_, q4, ?_, q6, q7, fun q => absurd q h1⟩
      · rcases List.mem_append.1 hx with hx | hx
        · rw [List.mem_singleton.1 hx]; rfl
        · exact q3 x hx
      · rw [numS_len] at q5
        have e2 : (numS A (min A.most A.rest.size)).rest.size = A.rest.size - min A.most A.rest.size := by
          show (A.rest.extract _ _).size = _
          rw [ByteArray.size_extract]; omega
        rw [e2] at q5
        have := h.mo
        have := ba_ne h1
        omega
end Go.Proofs.YtdcoomeagbjhlaaDoor.Lk
