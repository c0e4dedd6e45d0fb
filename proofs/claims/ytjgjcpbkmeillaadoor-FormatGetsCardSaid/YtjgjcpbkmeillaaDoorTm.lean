/- Put and Get: bytes that agree are read alike. Plain. By the prover of this seat. -/
import Derived.Test.YtjgjcpbkmeillaaDoorTl
set_option linter.unusedVariables false
set_option linter.unusedSimpArgs false
set_option maxRecDepth 100000
set_option maxHeartbeats 4000000
namespace Go.Proofs.YtjgjcpbkmeillaaDoor
open Go.RowKit Go.Pm
theorem byte_app (a b : ByteArray) (i : Nat) : byteAt (a ++ b) i = if i < a.size then byteAt a i else byteAt b (i - a.size) := by
  unfold byteAt
  have hl : a.data.toList.length = a.size := size_data a
  rw [ByteArray.data_append, Array.toList_append]
  simp only [List.getD_eq_getElem?_getD]
  split
  · rename_i h
    rw [List.getElem?_append_left (by omega)]
  · rename_i h
    rw [List.getElem?_append_right (by omega), hl]
theorem byte_ext (s : ByteArray) (p q i : Nat) (hq : q ≤ s.size) (h : p + i < q) : byteAt (s.extract p q) i = byteAt s (p + i) := by
  unfold byteAt
  rw [ByteArray.data_extract, Array.toList_extract, List.extract_eq_take_drop]
  simp only [List.getD_eq_getElem?_getD]
  rw [List.getElem?_take, if_pos (by omega), List.getElem?_drop]
theorem ext_size (s : ByteArray) (p q : Nat) (h : q ≤ s.size) : (s.extract p q).size = q - p := by
  rw [ByteArray.size_extract, Nat.min_eq_left h]
/-- both have the same bytes, as far as both go -/
def Ag (s E : ByteArray) : Prop := ∀ i, i < s.size → i < E.size → byteAt s i = byteAt E i
theorem ag_seg {s A G Z : ByteArray} (h : Ag s (A ++ (G ++ Z))) (hs : A.size + G.size ≤ s.size) : s.extract A.size (A.size + G.size) = G := by
  have hz := ext_size s A.size (A.size + G.size) hs
  refine ba_ext (by omega) fun i hi => ?_
  rw [byte_ext s _ _ i hs (by omega), h (A.size + i) (by omega) (by simp only [ByteArray.size_append]; omega), byte_app, if_neg (by omega), byte_app, if_pos (by omega)]
  congr 1
  omega
def Trk (s : ByteArray) (p : Nat) (r : Nat × Int) : Prop := (p ≤ s.size ∧ r = (p, 0)) ∨ (s.size < p ∧ r.2 = 3)
theorem trk_num {o z v : Int} {s A Z : ByteArray} {r : Nat × Int} (hp : (putD o z v).2 = 0) (hA : Ag s (A ++ ((putD o z v).1 ++ Z))) (hr : Trk s A.size r) : Trk s (A.size + wdD z) (nuR o z s r) ∧ (A.size + wdD z ≤ s.size → nuV o z s r = v) := by
  have hs := put_sz hp
  rcases hr with ⟨h1, rfl⟩ | ⟨h1, h2⟩
  · by_cases h : s.size < A.size + wdD z
    · refine ⟨.inr ⟨h, ?_⟩, fun q => by omega⟩
      unfold nuR
      rw [if_pos rfl, if_pos h]
    · refine ⟨.inl ⟨by omega, nuR_z h⟩, fun _ => ?_⟩
      have e := ag_seg hA (by omega)
      rw [hs.1] at e
      rw [nuV_z h, e, get_put o z v hp]
  · have e : nuR o z s r = r := by unfold nuR; rw [if_neg (by rw [h2]; decide)]
    rw [e]
    exact ⟨.inr ⟨by omega, h2⟩, fun q => by omega⟩
theorem byte_pad (b : ByteArray) : ∀ (q i : Nat), b.size ≤ i → i < b.size + q → byteAt (padB b q) i = 0
  | 0, i, h1, h2 => by omega
  | q + 1, i, h1, h2 => by
    rw [padB, byte_app, padB_size]
    split
    · exact byte_pad b q i h1 (by omega)
    · have e : i - (b.size + q) = 0 := by omega
      rw [e]
      rfl
theorem flG_zero {s : ByteArray} : ∀ (q p : Nat), p ≤ s.size → (∀ i, p ≤ i → i < p + q → i < s.size → byteAt s i = 0) → Trk s (p + q) (flG s q p)
  | 0, p, h, _ => .inl ⟨h, rfl⟩
  | q + 1, p, h, hz => by
    unfold flG
    by_cases e : p = s.size
    · rw [if_pos e]
      exact .inr ⟨by omega, rfl⟩
    · rw [if_neg e, if_pos (hz p (Nat.le_refl _) (by omega) (by omega))]
      have := flG_zero q (p + 1) (by omega) fun i h1 h2 h3 => hz i (by omega) (by omega) h3
      rw [show p + (q + 1) = p + 1 + q by omega]
      exact this
theorem trk_fill {s A Z : ByteArray} {r : Nat × Int} (hA : Ag s (fillB A ++ Z)) (hr : Trk s A.size r) : Trk s (fillB A).size (fuR s r) := by
  have e : (fillB A).size = A.size + padN A.size := by unfold fillB; rw [padB_size]
  rw [e]
  rcases hr with ⟨h1, rfl⟩ | ⟨h1, h2⟩
  · unfold fuR
    rw [if_pos rfl]
    refine flG_zero _ _ h1 fun i a b c => ?_
    rw [hA i c (by rw [ByteArray.size_append, e]; omega), byte_app, if_pos (by rw [e]; exact b)]
    exact byte_pad A _ i a b
  · have e : fuR s r = r := by unfold fuR; rw [if_neg (by rw [h2]; decide)]
    rw [e]
    exact .inr ⟨by omega, h2⟩
theorem catP_split (o : Int) (zs vs : List Int) : ∀ (n j : Nat), j < n → ∃ Z, catP o zs vs n = catP o zs vs j ++ ((putD o (nth zs j) (nth vs j)).1 ++ Z)
  | n + 1, j, h => by
    by_cases e : j = n
    · subst e
      exact ⟨eB, by rw [catP, app_e]⟩
    · obtain ⟨Z, hZ⟩ := catP_split o zs vs n j (by omega)
      exact ⟨Z ++ (putD o (nth zs n) (nth vs n)).1, by rw [catP, hZ, app_assoc, app_assoc]⟩
theorem catL_split (o z : Int) (vs : List Int) : ∀ (n j : Nat), j < n → ∃ Z, catL o z vs n = catL o z vs j ++ ((putD o z (nth vs j)).1 ++ Z)
  | n + 1, j, h => by
    by_cases e : j = n
    · subst e
      exact ⟨eB, by rw [catL, app_e]⟩
    · obtain ⟨Z, hZ⟩ := catL_split o z vs n j (by omega)
      exact ⟨Z ++ (putD o z (nth vs n)).1, by rw [catL, hZ, app_assoc, app_assoc]⟩
theorem catP_sum {o : Int} {f : Fm} {x : Fl} (h : Fit o f x) : ∀ k, k ≤ x.N.length → (catP o f.fixed x.N k).size = sumW f.fixed k
  | 0, _ => rfl
  | k + 1, hk => by
    rw [catP, ByteArray.size_append, catP_sum h k (by omega), (put_sz (h.num k (by omega))).1]
    rfl
theorem catL_sum {o : Int} {f : Fm} {x : Fl} (h : Fit o f x) : ∀ k, k ≤ x.L.length → (catL o f.list x.L k).size = k * wdD f.list
  | 0, _ => by rw [Nat.zero_mul]; rfl
  | k + 1, hk => by
    rw [catL, ByteArray.size_append, catL_sum h k (by omega), (put_sz (h.row k (by omega))).1, Nat.succ_mul]
theorem trk_fix {o : Int} {f : Fm} {x : Fl} {s Z : ByteArray} (F : Fit o f x) (hA : Ag s (catP o f.fixed x.N x.N.length ++ Z)) : ∀ k, k ≤ x.N.length → Trk s (catP o f.fixed x.N k).size (fxR o f.fixed s k) ∧ ((catP o f.fixed x.N k).size ≤ s.size → fxV o f.fixed s k = x.N.take k)
  | 0, _ => ⟨.inl ⟨Nat.zero_le _, rfl⟩, fun _ => rfl⟩
  | k + 1, hk => by
    obtain ⟨h1, h2⟩ := trk_fix F hA k (by omega)
    obtain ⟨Y, hY⟩ := catP_split o f.fixed x.N x.N.length k (by omega)
    have hp := F.num k (by omega)
    rw [hY, app_assoc, app_assoc] at hA
    obtain ⟨t1, t2⟩ := trk_num hp hA h1
    have e : (catP o f.fixed x.N (k + 1)).size = (catP o f.fixed x.N k).size + wdD (nth f.fixed k) := by rw [catP, ByteArray.size_append, (put_sz hp).1]
    rw [e]
    refine ⟨t1, fun h => ?_⟩
    rw [fxV, h2 (by omega), t2 h, take_nth (by omega)]
theorem nuR_trk {s : ByteArray} {p : Nat} {r : Nat × Int} (h : Trk s p r) : (r.2 = 0 → p ≤ s.size ∧ r = (p, 0)) ∧ (¬ r.2 = 0 → s.size < p ∧ r.2 = 3) := by
  rcases h with ⟨h1, rfl⟩ | ⟨h1, h2⟩
  · exact ⟨fun _ => ⟨h1, rfl⟩, fun q => absurd rfl q⟩
  · exact ⟨fun q => by rw [h2] at q; exact absurd q (by decide), fun _ => ⟨h1, h2⟩⟩
def tB (o : Int) (f : Fm) (x : Fl) : ByteArray := if f.bytes = true then fillB (num4 o x.B.size ++ x.B) else eB
def lB (o : Int) (f : Fm) (x : Fl) : ByteArray := if f.list = 0 then eB else fillB (num4 o x.L.length ++ catL o f.list x.L x.L.length)
theorem nil_of {b : ByteArray} (h : b.size = 0) : b = eB := ba_nil h
theorem trk_text {o : Int} {f : Fm} {x : Fl} {s P Z : ByteArray} {r : Nat × Int} (ho : o = 0 ∨ o = 1) (F : Fit o f x) (hP : P.size % 4 = 0) (hA : Ag s ((P ++ tB o f x) ++ Z)) (hr : Trk s P.size r) :
    ((txR o f s r).2.2 = true → s.size < (P ++ tB o f x).size ∧ (txR o f s r).2.1.2 = 3) ∧ ((txR o f s r).2.2 = false → Trk s (P ++ tB o f x).size (txR o f s r).2.1 ∧ ((P ++ tB o f x).size ≤ s.size → (txR o f s r).1 = x.B)) := by
  unfold txR tB at *
  by_cases hb : f.bytes = true
  · rw [if_pos hb] at hA ⊢
    rw [if_pos hb]
    have hn := put4 o x.B.size ho F.big
    have hsz := (num4_ok o x.B.size ho F.big).1
    have fs := fillB_size (num4 o x.B.size ++ x.B)
    have efill : fillB ((P ++ num4 o x.B.size) ++ x.B) = P ++ fillB (num4 o x.B.size ++ x.B) := by rw [app_assoc, fillB_app _ _ hP]
    have etot : (P ++ fillB (num4 o x.B.size ++ x.B)).size = P.size + (fillB (num4 o x.B.size ++ x.B)).size := ByteArray.size_append
    rw [ByteArray.size_append, hsz] at fs
    obtain ⟨Y, hY⟩ : ∃ Y, P ++ fillB (num4 o x.B.size ++ x.B) = (P ++ num4 o x.B.size) ++ (x.B ++ Y) := by
      rw [← efill]
      obtain ⟨Y, hY⟩ : ∃ Y, ∀ b : ByteArray, padB b (padN ((P ++ num4 o x.B.size) ++ x.B).size) = b ++ Y := by
        generalize padN ((P ++ num4 o x.B.size) ++ x.B).size = q
        induction q with
        | zero => exact ⟨eB, fun b => (app_e b).symm⟩
        | succ q ih =>
          obtain ⟨Y, hY⟩ := ih
          exact ⟨Y ++ oneB 0, fun b => by rw [padB, hY, app_assoc]⟩
      exact ⟨Y, by unfold fillB; rw [hY, app_assoc]⟩
    have hA1 : Ag s (P ++ (num4 o x.B.size ++ (x.B ++ (Y ++ Z)))) := by
      rw [hY] at hA
      simp only [app_assoc] at hA ⊢
      exact hA
    obtain ⟨t1, t2⟩ := trk_num hn hA1 hr
    rw [wd4] at t1 t2
    obtain ⟨n1, n2⟩ := nuR_trk t1
    by_cases e2 : (nuR o 4 s r).2 = 0
    · rw [if_neg (fun q => q e2)]
      obtain ⟨m1, m2⟩ := n1 e2
      have hv : (nuV o 4 s r).toNat = x.B.size := by rw [t2 m1]; omega
      rw [hv, m2]
      dsimp only
      have hsz2 : (P ++ num4 o x.B.size).size = P.size + 4 := by rw [ByteArray.size_append, hsz]
      by_cases hsm : s.size < P.size + 4 + x.B.size
      · rw [if_pos hsm]
        exact ⟨fun _ => ⟨by rw [etot]; omega, rfl⟩, fun q => by cases q⟩
      · rw [if_neg hsm]
        refine ⟨fun q => (by cases q), fun _ => ?_⟩
        have hA2 : Ag s ((P ++ num4 o x.B.size) ++ (x.B ++ (Y ++ Z))) := by rw [app_assoc]; exact hA1
        have hx := ag_seg hA2 (by rw [hsz2]; omega)
        rw [hsz2] at hx
        have tf := trk_fill (s := s) (A := (P ++ num4 o x.B.size) ++ x.B) (Z := Z) (r := (P.size + 4 + x.B.size, 0)) (by rw [efill]; exact hA) (.inl ⟨by rw [ByteArray.size_append, hsz2]; omega, by rw [ByteArray.size_append, hsz2]⟩)
        rw [efill] at tf
        exact ⟨tf, fun _ => hx⟩
    · rw [if_pos e2]
      obtain ⟨m1, m2⟩ := n2 e2
      exact ⟨fun _ => ⟨by rw [etot]; omega, m2⟩, fun q => by cases q⟩
  · rw [if_neg hb] at hA ⊢
    rw [if_neg hb]
    rw [app_e] at hA ⊢
    have hB : x.B.size = 0 := F.byt.resolve_right hb
    exact ⟨fun q => (Bool.false_ne_true q).elim, fun _ => ⟨hr, fun _ => (nil_of hB).symm⟩⟩
theorem trk_li {o : Int} {f : Fm} {x : Fl} {s A Z : ByteArray} (F : Fit o f x) (hA : Ag s (A ++ (catL o f.list x.L x.L.length ++ Z))) : ∀ k, k ≤ x.L.length → A.size + k * wdD f.list ≤ s.size → liV o f.list s A.size k = x.L.take k
  | 0, _, _ => rfl
  | k + 1, hk, hs => by
    have e2 : (k + 1) * wdD f.list = k * wdD f.list + wdD f.list := Nat.succ_mul _ _
    have ih := trk_li F hA k (by omega) (by omega)
    obtain ⟨Y, hY⟩ := catL_split o f.list x.L x.L.length k (by omega)
    have hp := F.row k (by omega)
    have hA2 : Ag s ((A ++ catL o f.list x.L k) ++ ((putD o f.list (nth x.L k)).1 ++ (Y ++ Z))) := by
      rw [hY] at hA
      simp only [app_assoc] at hA ⊢
      exact hA
    have hz : (A ++ catL o f.list x.L k).size = A.size + k * wdD f.list := by rw [ByteArray.size_append, catL_sum F k (by omega)]
    have hx := ag_seg hA2 (by rw [hz, (put_sz hp).1]; omega)
    rw [hz, (put_sz hp).1] at hx
    rw [liV, ih, hx, get_put _ _ _ hp, take_nth (by omega)]
theorem trk_list {o : Int} {f : Fm} {x : Fl} {s Q Z : ByteArray} {r : Nat × Int} (ho : o = 0 ∨ o = 1) (F : Fit o f x) (hQ : Q.size % 4 = 0) (hA : Ag s ((Q ++ lB o f x) ++ Z)) (hr : Trk s Q.size r) :
    Trk s (Q ++ lB o f x).size (lsR o f s r).2 ∧ ((Q ++ lB o f x).size ≤ s.size → (lsR o f s r).1 = x.L) := by
  unfold lsR lB at *
  by_cases hl : f.list = 0
  · rw [if_pos hl] at hA ⊢
    rw [if_pos hl]
    rw [app_e] at hA ⊢
    exact ⟨hr, fun _ => (list_nil (F.lst.resolve_right (fun q => q hl))).symm⟩
  · rw [if_neg hl] at hA ⊢
    rw [if_neg hl]
    have hn := put4 o x.L.length ho F.lng
    have hsz := (num4_ok o x.L.length ho F.lng).1
    have hcs := catL_sum F x.L.length (Nat.le_refl _)
    generalize hC : catL o f.list x.L x.L.length = C at *
    have fs := fillB_size (num4 o x.L.length ++ C)
    have efill : fillB ((Q ++ num4 o x.L.length) ++ C) = Q ++ fillB (num4 o x.L.length ++ C) := by rw [app_assoc, fillB_app _ _ hQ]
    have etot : (Q ++ fillB (num4 o x.L.length ++ C)).size = Q.size + (fillB (num4 o x.L.length ++ C)).size := ByteArray.size_append
    rw [ByteArray.size_append, hsz] at fs
    obtain ⟨Y, hY⟩ : ∃ Y, Q ++ fillB (num4 o x.L.length ++ C) = (Q ++ num4 o x.L.length) ++ (C ++ Y) := by
      rw [← efill]
      obtain ⟨Y, hY⟩ : ∃ Y, ∀ b : ByteArray, padB b (padN ((Q ++ num4 o x.L.length) ++ C).size) = b ++ Y := by
        generalize padN ((Q ++ num4 o x.L.length) ++ C).size = q
        induction q with
        | zero => exact ⟨eB, fun b => (app_e b).symm⟩
        | succ q ih =>
          obtain ⟨Y, hY⟩ := ih
          exact ⟨Y ++ oneB 0, fun b => by rw [padB, hY, app_assoc]⟩
      exact ⟨Y, by unfold fillB; rw [hY, app_assoc]⟩
    have hA1 : Ag s (Q ++ (num4 o x.L.length ++ (C ++ (Y ++ Z)))) := by
      rw [hY] at hA
      simp only [app_assoc] at hA ⊢
      exact hA
    obtain ⟨t1, t2⟩ := trk_num hn hA1 hr
    rw [wd4] at t1 t2
    obtain ⟨n1, n2⟩ := nuR_trk t1
    by_cases e2 : (nuR o 4 s r).2 = 0
    · rw [if_neg (fun q => q e2)]
      obtain ⟨m1, m2⟩ := n1 e2
      have hv : (nuV o 4 s r).toNat = x.L.length := by rw [t2 m1]; omega
      rw [hv, m2]
      dsimp only
      have hsz2 : (Q ++ num4 o x.L.length).size = Q.size + 4 := by rw [ByteArray.size_append, hsz]
      by_cases hsm : s.size < Q.size + 4 + x.L.length * wdD f.list
      · rw [if_pos hsm]
        exact ⟨.inr ⟨by rw [etot]; omega, rfl⟩, fun q => by rw [etot] at q; omega⟩
      · rw [if_neg hsm]
        have hA2 : Ag s ((Q ++ num4 o x.L.length) ++ (catL o f.list x.L x.L.length ++ (Y ++ Z))) := by rw [hC, app_assoc]; exact hA1
        have hx := trk_li F hA2 x.L.length (Nat.le_refl _) (by rw [hsz2]; omega)
        rw [hsz2, List.take_length] at hx
        have tf := trk_fill (s := s) (A := (Q ++ num4 o x.L.length) ++ C) (Z := Z) (r := (Q.size + 4 + x.L.length * wdD f.list, 0)) (by rw [efill]; exact hA) (.inl ⟨by rw [ByteArray.size_append, hsz2]; omega, by rw [ByteArray.size_append, hsz2, hcs]⟩)
        rw [efill] at tf
        exact ⟨tf, fun _ => hx⟩
    · rw [if_pos e2]
      obtain ⟨m1, m2⟩ := n2 e2
      exact ⟨.inr ⟨by rw [etot]; omega, m2⟩, fun q => by rw [etot] at q; omega⟩
theorem enc_eq (o : Int) (f : Fm) (x : Fl) : encD o f x = (fillB (catP o f.fixed x.N x.N.length) ++ tB o f x) ++ lB o f x := rfl
theorem tB_size (o : Int) (f : Fm) (x : Fl) : (tB o f x).size % 4 = 0 := by
  unfold tB
  split
  · exact (fillB_size _).1
  · rfl
theorem lB_size (o : Int) (f : Fm) (x : Fl) : (lB o f x).size % 4 = 0 := by
  unfold lB
  split
  · rfl
  · exact (fillB_size _).1
theorem track {o : Int} {f : Fm} {x : Fl} {s Z : ByteArray} (ho : o = 0 ∨ o = 1) (F : Fit o f x) (hA : Ag s (encD o f x ++ Z)) : Trk s (encD o f x).size (bodD o f s).2 ∧ ((encD o f x).size ≤ s.size → (bodD o f s).1 = x) := by
  rw [enc_eq] at hA ⊢
  obtain ⟨P, hP⟩ : ∃ P, P = fillB (catP o f.fixed x.N x.N.length) := ⟨_, rfl⟩
  rw [← hP] at hA ⊢
  have fs := fillB_size (catP o f.fixed x.N x.N.length)
  rw [← hP] at fs
  obtain ⟨Y, hY⟩ : ∃ Y, P = catP o f.fixed x.N x.N.length ++ Y := by
    rw [hP]
    unfold fillB
    generalize padN (catP o f.fixed x.N x.N.length).size = q
    induction q with
    | zero => exact ⟨eB, (app_e _).symm⟩
    | succ q ih =>
      obtain ⟨Y, hY⟩ := ih
      exact ⟨Y ++ oneB 0, by rw [padB, hY, app_assoc]⟩
  have hA0 : Ag s (catP o f.fixed x.N x.N.length ++ (Y ++ (tB o f x ++ (lB o f x ++ Z)))) := by
    have h := hA
    rw [hY] at h
    simp only [app_assoc] at h ⊢
    exact h
  obtain ⟨a1, a2⟩ := trk_fix F hA0 x.N.length (Nat.le_refl _)
  rw [F.len] at a1 a2
  rw [← F.len] at a1 a2
  have hA1 : Ag s (fillB (catP o f.fixed x.N x.N.length) ++ (tB o f x ++ (lB o f x ++ Z))) := by
    rw [← hP]
    simp only [app_assoc] at hA ⊢
    exact hA
  have b1 := trk_fill hA1 a1
  rw [← hP] at b1
  have hA2 : Ag s ((P ++ tB o f x) ++ (lB o f x ++ Z)) := by
    simp only [app_assoc] at hA ⊢
    exact hA
  have hr1 : r1D o f s = fuR s (fxR o f.fixed s x.N.length) := by unfold r1D; rw [F.len]
  rw [← hr1] at b1
  obtain ⟨c1, c2⟩ := trk_text ho F fs.1 hA2 b1
  have hz := ByteArray.size_append (a := P) (b := tB o f x)
  have hz2 := ByteArray.size_append (a := P ++ tB o f x) (b := lB o f x)
  unfold bodD
  rw [← F.len]
  cases hst : (txR o f s (r1D o f s)).2.2 with
  | true =>
    rw [if_pos rfl]
    obtain ⟨d1, d2⟩ := c1 hst
    exact ⟨.inr ⟨by omega, d2⟩, fun q => by omega⟩
  | false =>
    rw [if_neg Bool.false_ne_true]
    obtain ⟨d1, d2⟩ := c2 hst
    have hQ : (P ++ tB o f x).size % 4 = 0 := by have := tB_size o f x; omega
    obtain ⟨e1, e2⟩ := trk_list ho F hQ hA d1
    refine ⟨e1, fun q => ?_⟩
    have n1 := a2 (by omega)
    rw [List.take_length] at n1
    rw [n1, d2 (by omega), e2 q]
end Go.Proofs.YtjgjcpbkmeillaaDoor
