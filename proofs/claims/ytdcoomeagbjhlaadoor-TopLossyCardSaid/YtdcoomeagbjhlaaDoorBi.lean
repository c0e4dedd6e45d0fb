/- Put, both: one answer. By the prover of this seat. -/
import Derived.Test.YtdcoomeagbjhlaaDoorBh
set_option linter.unusedVariables false
set_option linter.unusedSimpArgs false
set_option maxRecDepth 100000
set_option maxHeartbeats 4000000
namespace Go.Proofs.YtdcoomeagbjhlaaDoor.Ca
open Go.RowKit Go.Pm
open Go.Proofs.YtdcoomeagbjhlaaDoor.Or (G1 C1 Pu)
structure COk (m : Nat) (l : List ByteArray) : Prop where
  nd : l.Nodup
  len : l.length ≤ m
  top : m ≤ 64
def codeD (l : List ByteArray) (b : ByteArray) : ByteArray :=
  if 0 ≤ (neL b l l.length).1 ∧ 2 + 3 * (neL b l l.length).2 < 1 + b.size then strA (([2, (neL b l l.length).1] ++ (difL (nth l (neL b l l.length).1.toNat) b).flatMap (three b)).flatMap e8) else strA [u8 0] ++ b
def putD (m : Nat) (l : List ByteArray) (b : ByteArray) : List ByteArray × ByteArray × Int :=
  if m = 0 then (l, ⟨#[]⟩, 9) else if b.size > 65536 then (l, ⟨#[]⟩, 4) else match idxD (eqD b) l with
    | some k => (withD m l b, strA [u8 1, u8 (k : Int)], 0)
    | none => (withD m l b, codeD l b, 0)
theorem ne_inv (b : ByteArray) (l : List ByteArray) : ∀ k, k ≤ l.length → ((neL b l k).1 = -1 ∧ (neL b l k).2 = 0) ∨ ∃ j, j < k ∧ (neL b l k).1 = (j : Int) ∧ (nth l j).size = b.size ∧ (neL b l k).2 = (difL (nth l j) b).length := by
  intro k
  induction k with
  | zero => intro _; exact .inl ⟨rfl, rfl⟩
  | succ k ih =>
    intro hk
    have ih := ih (by omega)
    have old : ((neL b l k).1 = -1 ∧ (neL b l k).2 = 0) ∨ ∃ j, j < k + 1 ∧ (neL b l k).1 = (j : Int) ∧ (nth l j).size = b.size ∧ (neL b l k).2 = (difL (nth l j) b).length := by
      rcases ih with h | ⟨j, h1, h2⟩
      · exact .inl h
      · exact .inr ⟨j, by omega, h2⟩
    rw [neL, neD]
    split
    · exact old
    · rename_i hs
      split
      · exact .inr ⟨k, by omega, rfl, Decidable.not_not.1 hs, rfl⟩
      · exact old
theorem zs_byte (b : ByteArray) (k : Nat) (hk : k ≤ 255) (d : List Nat) (hd : ∀ i ∈ d, i ≤ 65535) : ∀ x ∈ [2, (k : Int)] ++ d.flatMap (three b), 0 ≤ x ∧ x ≤ 255 := by
  intro x hx
  rcases List.mem_append.1 hx with h | h
  · rcases List.mem_cons.1 h with rfl | h
    · omega
    · rw [List.mem_singleton.1 h]; omega
  · obtain ⟨i, hi, h⟩ := List.mem_flatMap.1 h
    have := hd i hi
    unfold three at h
    have hb := (b[i]!).toNat_lt
    simp only [List.mem_cons, List.not_mem_nil, or_false] at h
    rcases h with rfl | rfl | rfl <;> omega
theorem prZ_all (b : ByteArray) (zs : List Int) (d : List Nat) : prZ b zs d d.length = zs ++ d.flatMap (three b) := by unfold prZ; rw [List.take_length]
theorem put_ok (m : Nat) (l : List ByteArray) (b : ByteArray) (h : COk m l) : Pu 17 [cacheA m l, st b] (outP m (putD m l b).1 (putD m l b).2.1 (putD m l b).2.2) := by
  have h1 := h.len
  have h2 := h.top
  unfold putD
  by_cases hm : m = 0
  · rw [if_pos hm]
    subst hm
    exact put_1 l b
  rw [if_neg hm]
  by_cases hb : b.size > 65536
  · rw [if_pos hb]
    exact put_2 m l b (by omega) hb
  rw [if_neg hb]
  have hW := with_ok m l b h.nd (by omega) (by omega) (by omega)
  have hI := index_ok l b (by omega)
  unfold atD at hI
  cases hk : idxD (eqD b) l with
  | some k =>
    rw [hk] at hI
    have := (idx_some hk).1
    exact put_3 m l _ b k (by omega) (by omega) (by omega) hW hI
  | none =>
    rw [hk] at hI
    have hN := nearest_ok m l b (by omega) (by omega)
    have hinv := ne_inv b l l.length (Nat.le_refl _)
    show Pu 17 [cacheA m l, st b] (outP m (withD m l b) (codeD l b) 0)
    unfold codeD
    generalize neL b l l.length = p at hN hinv ⊢
    obtain ⟨p1, p2⟩ := p
    rcases hinv with ⟨e1, e2⟩ | ⟨j, j1, j2, j3, j4⟩
    · simp only at e1 e2
      subst e1
      subst e2
      rw [if_neg (by simp)]
      exact put_5a m l _ b 0 (by omega) (by omega) hW hI hN
    · simp only at j2 j4
      subst j2
      subst j4
      have hc := difL_le (nth l j) b
      by_cases hs : 2 + 3 * (difL (nth l j) b).length < 1 + b.size
      · rw [if_pos ⟨by simp, hs⟩]
        simp only [Int.toNat_natCast]
        have L := pr_tri (nth l j) b m (withD m l b) [2, (j : Int)] rfl j3 (by omega)
        have hz := zs_byte b j (by omega) (difL (nth l j) b) (fun i hi => by have := difL_lt _ _ i hi; omega)
        have hzl : ([2, (j : Int)] ++ (difL (nth l j) b).flatMap (three b)).length = 2 + 3 * (difL (nth l j) b).length := by rw [← prZ_all]; exact prZ_len b _ _ _ rfl (Nat.le_refl _)
        have hL : ∀ d : List Nat, prS b m (withD m l b) [2, (j : Int)] d d.length = if d.length = 0 then prG m (withD m l b) 2 [2, (j : Int)] else prH m (withD m l b) (2 + 3 * d.length) ([2, (j : Int)] ++ d.flatMap (three b)) := by
          intro d
          rw [← prZ_all]
          cases d with
          | nil => rfl
          | cons x d => rw [if_neg (by simp)]; rfl
        rw [hL] at L
        by_cases h0 : (difL (nth l j) b).length = 0
        · rw [if_pos h0] at L
          have e0 : difL (nth l j) b = [] := List.eq_nil_of_length_eq_zero h0
          rw [e0]
          rw [e0] at hN hs
          exact put_4a m l _ b j 0 (by omega) (by omega) (by omega) j1 (by omega) (by omega) hs hW hI hN L
        · rw [if_neg h0] at L
          exact put_4b m l _ b j _ _ _ (by omega) (by omega) (by omega) j1 (by omega) (by omega) hs hzl.symm (by omega) hz hW hI hN L
      · rw [if_neg (fun q => hs q.2)]
        exact put_5b m l _ b j _ (by omega) (by omega) (by omega) hs hW hI hN
/-! the document's -/
def rpD (b : ByteArray) (p : Int × List Int) (i : Nat) (x : ByteArray) : Int × List Int := if ¬ x.size = b.size then p else if p.1 < 0 ∨ (difI x b).length < p.2.length then ((i : Int), difI x b) else p
def rpL (b : ByteArray) (l : List ByteArray) : Nat → Int × List Int
  | 0 => (-1, [])
  | k + 1 => rpD b (rpL b l k) k (nth l k)
theorem difI_length (a b : ByteArray) : (difI a b).length = (difL a b).length := by unfold difI; rw [List.length_map]
theorem rp_ne (b : ByteArray) (l : List ByteArray) : ∀ k, (rpL b l k).1 = (neL b l k).1 ∧ (rpL b l k).2.length = (neL b l k).2 ∧ ((neL b l k).1 = -1 ∨ ∃ j : Nat, (neL b l k).1 = (j : Int) ∧ (rpL b l k).2 = difI (nth l j) b) := by
  intro k
  induction k with
  | zero => exact ⟨rfl, rfl, .inl rfl⟩
  | succ k ih =>
    obtain ⟨h1, h2, h3⟩ := ih
    rw [rpL, neL, rpD, neD, h1, h2, difI_length]
    split
    · exact ⟨h1, h2, h3⟩
    · split
      · exact ⟨rfl, difI_length _ _, .inr ⟨k, rfl, rfl⟩⟩
      · exact ⟨h1, h2, h3⟩
theorem nth_mapI (f : Nat → Int) (l : List Nat) (k : Nat) (h : k < l.length) : nth (l.map f) k = f (nth l k) := by
  rw [nth_eq h, nth_eq (by simpa using h), List.getElem_map]
end Go.Proofs.YtdcoomeagbjhlaaDoor.Ca
