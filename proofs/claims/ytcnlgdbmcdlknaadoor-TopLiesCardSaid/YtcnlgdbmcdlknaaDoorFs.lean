/- Put, by the program: what it is. By the prover of this seat. -/
import Derived.Test.YtcnlgdbmcdlknaaDoorFq
set_option linter.unusedVariables false
set_option linter.unusedSimpArgs false
set_option maxRecDepth 100000
set_option maxHeartbeats 4000000
namespace Go.Proofs.YtcnlgdbmcdlknaaDoor.Fo
open Go.RowKit Go.Pm
def eB : ByteArray := ⟨#[]⟩
theorem e_app (b : ByteArray) : eB ++ b = b := nil_app b
theorem app_e (b : ByteArray) : b ++ eB = b := by
  apply ByteArray.ext
  rw [ByteArray.data_append]
  exact Array.append_empty
theorem app_assoc (a b c : ByteArray) : (a ++ b) ++ c = a ++ (b ++ c) := ByteArray.append_assoc
def catP (o : Int) (zs vs : List Int) : Nat → ByteArray
  | 0 => eB
  | k + 1 => catP o zs vs k ++ (putD o (nth zs k) (nth vs k)).1
def catL (o z : Int) (vs : List Int) : Nat → ByteArray
  | 0 => eB
  | k + 1 => catL o z vs k ++ (putD o z (nth vs k)).1
def fillB (b : ByteArray) : ByteArray := padB b (padN b.size)
theorem fillB_size (b : ByteArray) : (fillB b).size % 4 = 0 ∧ b.size ≤ (fillB b).size ∧ (fillB b).size ≤ b.size + 3 := by
  unfold fillB
  rw [padB_size]
  unfold padN
  omega
theorem fillB_e : fillB eB = eB := by
  unfold fillB
  rw [show padN eB.size = 0 by decide]
  rfl
theorem padB_app (a b : ByteArray) (p : Nat) : padB (a ++ b) p = a ++ padB b p := by
  induction p with
  | zero => rfl
  | succ p ih => rw [padB, ih, padB, app_assoc]
theorem fillB_app (a b : ByteArray) (h : a.size % 4 = 0) : fillB (a ++ b) = a ++ fillB b := by
  unfold fillB
  rw [padB_app, ByteArray.size_append, show padN (a.size + b.size) = padN b.size by unfold padN; omega]
def num4 (o : Int) (n : Nat) : ByteArray := (putD o 4 n).1
def encD (o : Int) (f : Fm) (x : Fl) : ByteArray := (fillB (catP o f.fixed x.N x.N.length) ++ (if f.bytes = true then fillB (num4 o x.B.size ++ x.B) else eB)) ++ (if f.list = 0 then eB else fillB (num4 o x.L.length ++ catL o f.list x.L x.L.length))
def putF (o : Int) (f : Fm) (x : Fl) : ByteArray × Int := if ¬ knoD o f = 0 then (eB, knoD o f) else if ¬ fitsD o f x = 0 then (eB, fitsD o f x) else if (encD o f x).size > 65536 then (eB, 4) else (encD o f x, 0)
theorem put4 (o : Int) (n : Nat) (ho : o = 0 ∨ o = 1) (hn : n ≤ 65536) : (putD o 4 n).2 = 0 := by
  unfold putD
  rw [if_neg (by omega)]
  have : hasD ⟨4, 0, 4294967295⟩ n = true := by
    unfold hasD
    simp
    omega
  show (if hasD ⟨4, 0, 4294967295⟩ n = true then (strA (bytesOf o 4 n), (0 : Int)) else (e0, 1)).2 = 0
  rw [if_pos this]
theorem kno_zero {o : Int} {f : Fm} (h : knoD o f = 0) : (o = 0 ∨ o = 1) ∧ f.fixed.length ≤ 16 ∧ (∀ k, k < f.fixed.length → szB (nth f.fixed k) = true) ∧ (f.list = 0 ∨ szB f.list = true) := by
  unfold knoD at h
  by_cases ho : o = 0 ∨ o = 1
  · rw [if_pos ho] at h
    unfold checkD at h
    by_cases hl : f.fixed.length > 16
    · rw [if_pos hl] at h; cases h
    rw [if_neg hl] at h
    cases hi : idxD noSz f.fixed with
    | some i => rw [hi] at h; cases h
    | none =>
      rw [hi] at h
      refine ⟨ho, by omega, fun k hk => noSz_f (idx_none hi k hk), ?_⟩
      by_cases h0 : f.list = 0
      · exact .inl h0
      · right
        cases hz : szB f.list with
        | true => rfl
        | false =>
          have h : (if f.list ≠ 0 ∧ szB f.list = false then (10 : Int) else 0) = 0 := h
          rw [if_pos ⟨h0, hz⟩] at h
          cases h
  · rw [if_neg ho] at h; cases h
structure Fit (o : Int) (f : Fm) (x : Fl) : Prop where
  len : x.N.length = f.fixed.length
  num : ∀ k, k < x.N.length → (putD o (nth f.fixed k) (nth x.N k)).2 = 0
  byt : x.B.size = 0 ∨ f.bytes = true
  big : x.B.size ≤ 65536
  lst : x.L.length = 0 ∨ ¬ f.list = 0
  lng : x.L.length ≤ 65536
  row : ∀ k, k < x.L.length → (putD o f.list (nth x.L k)).2 = 0
theorem fits_zero {o : Int} {f : Fm} {x : Fl} (h : fitsD o f x = 0) : Fit o f x := by
  unfold fitsD at h
  by_cases hl : x.N.length = f.fixed.length
  · rw [if_neg (fun q => q hl)] at h
    cases hi : idxD (errN o f x) (List.range x.N.length) with
    | some i =>
      rw [hi] at h
      have h2 := (idx_some hi).2.1
      have h1 := (idx_some hi).1
      rw [List.length_range] at h1
      rw [nth_range _ _ h1] at h2
      unfold errN at h2
      simp at h2
      exact absurd h h2
    | none =>
      rw [hi] at h
      simp only at h
      by_cases hb : ¬ x.B.size = 0 ∧ f.bytes = false
      · rw [if_pos hb] at h; cases h
      rw [if_neg hb] at h
      by_cases hs : x.B.size > 65536
      · rw [if_pos hs] at h; cases h
      rw [if_neg hs] at h
      by_cases hL : 0 < x.L.length ∧ f.list = 0
      · rw [if_pos hL] at h; cases h
      rw [if_neg hL] at h
      by_cases h6 : x.L.length > 65536
      · rw [if_pos h6] at h; cases h
      rw [if_neg h6] at h
      cases hj : idxD (errL o f.list) x.L with
      | some j =>
        rw [hj] at h
        exact absurd h (errL_t (idx_some hj).2.1)
      | none =>
        refine ⟨hl, fun k hk => ?_, ?_, by omega, ?_, by omega, fun k hk => errL_f (idx_none hj k hk)⟩
        · have := idx_none hi k (by rw [List.length_range]; exact hk)
          rw [nth_range _ _ hk] at this
          unfold errN at this
          simpa using this
        · by_cases e : x.B.size = 0
          · exact .inl e
          · right
            cases hf : f.bytes with
            | true => rfl
            | false => exact absurd ⟨e, hf⟩ hb
        · by_cases e : f.list = 0
          · left
            by_cases e2 : 0 < x.L.length
            · exact absurd ⟨e2, e⟩ hL
            · omega
          · exact .inr e
  · rw [if_pos hl] at h; cases h
theorem catP_size {o : Int} {f : Fm} {x : Fl} (h : Fit o f x) : ∀ k, k ≤ x.N.length → k ≤ (catP o f.fixed x.N k).size ∧ (catP o f.fixed x.N k).size ≤ 4 * k := by
  intro k
  induction k with
  | zero => intro _; exact ⟨Nat.zero_le _, Nat.le_refl _⟩
  | succ k ih =>
    intro hk
    have := ih (by omega)
    have hs := put_sz (h.num k (by omega))
    rw [catP, ByteArray.size_append]
    omega
theorem catL_size {o : Int} {f : Fm} {x : Fl} (h : Fit o f x) : ∀ k, k ≤ x.L.length → (catL o f.list x.L k).size ≤ 4 * k := by
  intro k
  induction k with
  | zero => intro _; exact Nat.le_refl _
  | succ k ih =>
    intro hk
    have := ih (by omega)
    have hs := put_sz (h.row k (by omega))
    rw [catL, ByteArray.size_append]
    omega
theorem list_nil {l : List Int} (h : l.length = 0) : l = [] := List.eq_nil_of_length_eq_zero h
theorem tup_e (e : Int) : AV.tup [st (⟨#[]⟩ : ByteArray), i64 e] = putR (eB, e) := rfl
theorem fill_eq (b : ByteArray) (n : Nat) (h : b.size = n) : padB b (padN n) = fillB b := by unfold fillB; rw [h]
end Go.Proofs.YtcnlgdbmcdlknaaDoor.Fo
