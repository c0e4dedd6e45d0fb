/- What a client has selected behind put and Drop; who is alone; bits. By the prover of this seat. -/
import Derived.Test.YtfalaahbacdbjaaPz
set_option linter.unusedVariables false
set_option linter.unusedSimpArgs false
set_option maxRecDepth 100000
set_option maxHeartbeats 4000000
namespace Go.Proofs.Ytfalaahbacdbjaa
open Go.RowKit Go.Pm
theorem mask_find (l : List Row) (c id : Int) : maskR l c id = ((findM keyR l (c, id)).map Row.m).getD 0 := by
  induction l with
  | nil => rfl
  | cons x l ih =>
    rw [maskR_cons]
    unfold findM at ih ⊢
    rw [List.find?_cons]
    by_cases h : x.c = c ∧ x.id = id
    · rw [if_pos h, show decide (keyR x = (c, id)) = true from decide_eq_true (by unfold keyR; rw [h.1, h.2])]; rfl
    · rw [if_neg h, show decide (keyR x = (c, id)) = false from decide_eq_false fun q => h ⟨congrArg Prod.fst q, congrArg Prod.snd q⟩]; exact ih
theorem mask_put (l : List Row) (x : Row) (c id : Int) : maskR (putM keyR l x) c id = if x.c = c ∧ x.id = id then x.m else maskR l c id := by
  rw [mask_find, mask_find, find_put]
  by_cases h : x.c = c ∧ x.id = id
  · rw [if_pos h, if_pos (by unfold keyR; rw [h.1, h.2])]; rfl
  · rw [if_neg h, if_neg fun q => h ⟨congrArg Prod.fst q, congrArg Prod.snd q⟩]
theorem mask_filter {l : List Row} (h : keysApart keyR l) (p : Row → Bool) (c id : Int) : maskR (l.filter p) c id = maskR l c id ∨ maskR (l.filter p) c id = 0 := by
  rw [mask_find, mask_find]
  cases hf : findM keyR (l.filter p) (c, id) with
  | none => right; rfl
  | some x =>
    obtain ⟨h1, h2⟩ := find_mem hf
    have := find_of_mem h (List.mem_filter.1 h1).1
    rw [h2] at this
    rw [this]; left; rfl
theorem mask_bad {l : List Row} (h : LOk l) (c id : Int) (hc : ¬ (0 ≤ c ∧ c ≤ 8 ∧ 1 ≤ id)) : maskR l c id = 0 := by
  rw [mask_find]
  cases hf : findM keyR l (c, id) with
  | none => rfl
  | some x =>
    obtain ⟨h1, h2⟩ := find_mem hf
    have := h.row x h1
    have a1 := congrArg Prod.fst h2
    have a2 := congrArg Prod.snd h2
    simp only [keyR] at a1 a2
    omega
/-- on no window two clients have selected what one alone may -/
def Alone (l : List Row) : Prop := ∀ (x k k' : Int), 1 ≤ k → k ≤ 8 → 1 ≤ k' → k' ≤ 8 → maskR l k x &&& maskR l k' x &&& 2052 ≠ 0 → k = k'
theorem alone_nil : Alone [] := fun x k k' _ _ _ _ h => absurd (show maskR [] k x &&& maskR [] k' x &&& 2052 = 0 by rw [maskR_nil, maskR_nil]; rfl) h
theorem alone_stop {l : List Row} (h : Alone l) (x : Row) (hx : x.c = 0) : Alone (putM keyR l x) := by
  intro y k k' h1 h2 h3 h4 hh
  rw [mask_put, mask_put, if_neg (by omega), if_neg (by omega)] at hh
  exact h y k k' h1 h2 h3 h4 hh
theorem k8_mem {k : Int} (h1 : 1 ≤ k) (h2 : k ≤ 8) : ∃ j, j < 8 ∧ nth k8 j = k := ⟨(k - 1).toNat, by omega, by rw [k8_nth _ (by omega)]; omega⟩
theorem no_clash {l : List Row} {c id : Int} {n : Nat} (h : idxD (clashB l c id n) k8 = none) (k : Int) (h1 : 1 ≤ k) (h2 : k ≤ 8) (hc : k ≠ c) : maskR l k id &&& n &&& 2052 = 0 := by
  obtain ⟨j, hj, rfl⟩ := k8_mem h1 h2
  have := idx_none h j hj
  unfold clashB at this
  rw [decide_eq_true hc, Bool.true_and, decide_eq_true_eq] at this
  exact Decidable.not_not.1 this
theorem alone_set {l : List Row} (h : Alone l) (c id : Int) (n : Nat) (hn : idxD (clashB l c id n) k8 = none) : Alone (putM keyR l ⟨c, id, n⟩) := by
  intro y k k' h1 h2 h3 h4 hh
  rw [mask_put, mask_put] at hh
  simp only at hh
  by_cases hy : id = y
  · subst hy
    by_cases hk : c = k
    · by_cases hk' : c = k'
      · omega
      · rw [if_pos ⟨hk, rfl⟩, if_neg (fun q => hk' q.1)] at hh
        have := no_clash hn k' h3 h4 (fun q => hk' q.symm)
        rw [Nat.and_comm n] at hh
        exact absurd this hh
    · by_cases hk' : c = k'
      · rw [if_neg (fun q => hk q.1), if_pos ⟨hk', rfl⟩] at hh
        exact absurd (no_clash hn k h1 h2 (fun q => hk q.symm)) hh
      · rw [if_neg (fun q => hk q.1), if_neg (fun q => hk' q.1)] at hh
        exact h _ k k' h1 h2 h3 h4 hh
  · rw [if_neg (fun q => hy q.2), if_neg (fun q => hy q.2)] at hh
    exact h y k k' h1 h2 h3 h4 hh
theorem alone_setD {l : List Row} (h : Alone l) (c id m : Int) : Alone (setD l c id m).1 := by
  unfold setD
  split
  · exact h
  split
  · exact h
  split
  · exact h
  split
  · exact h
  · rename_i q1 q2 q3 q4
    exact alone_set h c id _ (by cases hk : idxD (clashB l c id m.toNat) k8 with | none => rfl | some j => rw [hk] at q4; exact absurd rfl q4)
theorem alone_stopD {l : List Row} (h : Alone l) (id m : Int) : Alone (stopD l id m).1 := by
  unfold stopD
  split
  · exact h
  split
  · exact h
  · exact alone_stop h _ rfl
theorem alone_filter {l : List Row} (ha : keysApart keyR l) (h : Alone l) (p : Row → Bool) : Alone (l.filter p) := by
  intro y k k' h1 h2 h3 h4 hh
  rcases mask_filter ha p k y with e | e <;> rcases mask_filter ha p k' y with e' | e' <;> rw [e, e'] at hh
  · exact h y k k' h1 h2 h3 h4 hh
  · exact absurd (by rw [Nat.and_zero, Nat.zero_and]) hh
  · exact absurd (by rw [Nat.zero_and, Nat.zero_and]) hh
  · exact absurd (by rw [Nat.zero_and, Nat.zero_and]) hh
theorem alone_step {l : List Row} (ha : keysApart keyR l) (h : Alone l) (a : Act) : Alone (stepR l a) := by
  unfold stepR
  split
  · exact alone_setD h _ _ _
  split
  · exact alone_stopD h _ _
  split
  · exact alone_filter ha h _
  · exact h
theorem run_alone (acts : List Act) (ha : ∀ a ∈ acts, AOk a) (hl : acts.length ≤ 40) : Alone (runR acts) := by
  have : ∀ k, k ≤ acts.length → Alone (runR (acts.take k)) := by
    intro k
    induction k with
    | zero => intro _; exact alone_nil
    | succ k ih =>
      intro h1
      rw [run_snoc acts k (by omega)]
      exact alone_step (run_lok acts ha k (by omega) (by omega)).1.apart (ih (by omega)) _
  have := this acts.length (Nat.le_refl _)
  rw [List.take_length] at this
  exact this
theorem len_one {α : Type} (p : α → Bool) : ∀ (l : List α), l.Nodup → (∀ a ∈ l, ∀ b ∈ l, p a = true → p b = true → a = b) → (l.filter p).length ≤ 1 := by
  intro l
  induction l with
  | nil => intro _ _; exact Nat.zero_le _
  | cons x l ih =>
    intro hn h
    rw [List.filter_cons]
    have hn := List.nodup_cons.1 hn
    split
    · rename_i hx
      have : l.filter p = [] := List.filter_eq_nil_iff.2 fun y hy q => hn.1 ((h x (by simp) y (by simp [hy]) hx q) ▸ hy)
      rw [this]; exact Nat.le_refl _
    · exact ih hn.2 fun a ha b hb => h a (by simp [ha]) b (by simp [hb])
theorem k8_in {k : Int} (h : k ∈ k8) : 1 ≤ k ∧ k ≤ 8 := by
  simp only [k8, List.mem_cons, List.not_mem_nil, or_false] at h
  omega
theorem k8_mem' {k : Int} (h1 : 1 ≤ k) (h2 : k ≤ 8) : k ∈ k8 := by
  simp only [k8, List.mem_cons, List.not_mem_nil, or_false]
  omega
theorem bit_of {a b j : Nat} (hj : 2052 &&& 2 ^ j ≠ 0) (ha : a &&& 2 ^ j ≠ 0) (hb : b &&& 2 ^ j ≠ 0) : a &&& b &&& 2052 ≠ 0 := by
  have two : ∀ x : Nat, x &&& 2 ^ j ≠ 0 → x.testBit j = true := fun x hx => by
    obtain ⟨i, h1, h2⟩ := (and_bits x (2 ^ j)).1 hx
    rw [Nat.testBit_two_pow] at h2
    have : j = i := by simpa using h2
    rw [this]; exact h1
  refine (and_bits _ _).2 ⟨j, ?_, two _ hj⟩
  rw [Nat.testBit_and, two a ha, two b hb]; rfl
theorem alone_who {l : List Row} (h : Alone l) (hr : ∀ r ∈ l, r.m ≤ 8191) (x : Int) (j : Nat) (hj : 2052 &&& 2 ^ j ≠ 0) : (whoR l x (2 ^ j)).length ≤ 1 := by
  unfold whoR
  refine len_one _ _ (by decide) fun a ha b hb pa pb => ?_
  have ha := k8_in ha
  have hb := k8_in hb
  unfold whoP at pa pb
  rw [hasN_eq _ _ (by have := maskR_le hr a x; omega), decide_eq_true_eq] at pa
  rw [hasN_eq _ _ (by have := maskR_le hr b x; omega), decide_eq_true_eq] at pb
  exact h x a b ha.1 ha.2 hb.1 hb.2 (bit_of hj pa pb)
/-! what Set changes -/
theorem set_e {l : List Row} {c id m : Int} (h : (setD l c id m).2 = 0) : (1 ≤ c ∧ c ≤ 8) ∧ id ≠ 0 ∧ (0 ≤ m ∧ m ≤ 8191) ∧ (setD l c id m).1 = putM keyR l ⟨c, id, m.toNat⟩ := by
  unfold setD at h ⊢
  split at h
  · cases h
  rename_i h1
  split at h
  · cases h
  rename_i h2
  split at h
  · cases h
  rename_i h3
  split at h
  · cases h
  rename_i h4
  rw [if_neg h1, if_neg h2, if_neg h3, if_neg h4]
  exact ⟨by omega, h2, Decidable.not_not.1 h3, rfl⟩
theorem set_ne {l : List Row} {c id m : Int} (h : ¬ (setD l c id m).2 = 0) : (setD l c id m).1 = l := by
  unfold setD at h ⊢
  split
  · rfl
  split
  · rfl
  split
  · rfl
  split
  · rfl
  · rename_i h1 h2 h3 h4
    rw [if_neg h1, if_neg h2, if_neg h3, if_neg h4] at h
    exact absurd rfl h
theorem set_same {l : List Row} {c id m k x : Int} (h : ¬ maskR (setD l c id m).1 k x = maskR l k x) : (setD l c id m).2 = 0 ∧ k = c ∧ x = id := by
  by_cases he : (setD l c id m).2 = 0
  · have := set_e he
    rw [this.2.2.2, mask_put] at h
    by_cases q : c = k ∧ id = x
    · exact ⟨he, q.1.symm, q.2.symm⟩
    · rw [if_neg q] at h; exact absurd rfl h
  · rw [set_ne he] at h; exact absurd rfl h
theorem set_mask {l : List Row} {c id m : Int} (h : (setD l c id m).2 = 0) : ((maskR (setD l c id m).1 c id : Nat) : Int) = m := by
  have := set_e h
  rw [this.2.2.2, mask_put, if_pos ⟨rfl, rfl⟩]
  show ((m.toNat : Nat) : Int) = m
  omega
end Go.Proofs.Ytfalaahbacdbjaa
