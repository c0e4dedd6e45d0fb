/- What is written short is read back. By the prover of this seat. -/
import Derived.Test.YtdcoomeagbjhlaaDoorBn
set_option linter.unusedVariables false
set_option linter.unusedSimpArgs false
set_option maxRecDepth 100000
set_option maxHeartbeats 4000000
namespace Go.Proofs.YtdcoomeagbjhlaaDoor.Ca
open Go.RowKit Go.Pm
open Go.Proofs.YtdcoomeagbjhlaaDoor.Or (G1 C1 Pu)
def sI (zs : List Int) : ByteArray := strA (zs.flatMap e8)
theorem sI_list (zs : List Int) : (sI zs).data.toList = zs.map fun n => UInt8.ofNat n.toNat := by
  unfold sI strA
  show (((zs.flatMap e8).map toByte).toArray).toList = _
  rw [List.toList_toArray]
  induction zs with
  | nil => rfl
  | cons z zs ih => rw [List.flatMap_cons, List.map_append, ih]; rfl
theorem sI_size (zs : List Int) : (sI zs).size = zs.length := by
  rw [← size_len, sI_list, List.length_map]
theorem byteN_list (s : ByteArray) (k : Nat) : byteN s k = (nth s.data.toList k).toNat := rfl
theorem byteN_sI (zs : List Int) (h : ∀ x ∈ zs, 0 ≤ x ∧ x ≤ 255) (k : Nat) (hk : k < zs.length) : (byteN (sI zs) k : Int) = nth zs k := by
  rw [byteN_list, sI_list, nth_eq (by rw [List.length_map]; exact hk), List.getElem_map, nth_eq hk]
  have := h zs[k] (List.getElem_mem hk)
  rw [UInt8.toNat_ofNat', Nat.mod_eq_of_lt (by omega)]
  omega
theorem list_ba {a b : ByteArray} (h : a.data.toList = b.data.toList) : a = b := by
  cases a; cases b
  congr 1
  exact Array.toList_inj.1 h
theorem sI_bytes (b : ByteArray) : sI (bytesI b) = b := by
  apply list_ba
  rw [sI_list]
  unfold bytesI
  rw [List.map_map]
  conv => rhs; rw [← List.map_id b.data.toList]
  apply List.map_congr_left
  intro x _
  simp
theorem sI_drop (zs : List Int) (k : Nat) : (sI zs).extract k (sI zs).size = sI (zs.drop k) := by
  apply list_ba
  rw [sI_list]
  have e : ((sI zs).extract k (sI zs).size).data = (sI zs).data.extract k (sI zs).size := by simp
  rw [e, Array.toList_extract, sI_list, sI_size]
  simp [List.extract, List.map_drop, List.map_take]
  exact List.take_of_length_le (by rw [List.length_drop, List.length_map]; omega)
theorem flat3 (b : ByteArray) : ∀ (d : List Nat) (i j : Nat), i < d.length → j < 3 → nth (d.flatMap (three b)) (3 * i + j) = nth (three b (nth d i)) j := by
  intro d
  induction d with
  | nil => intro i j h; simp at h
  | cons x d ih =>
    intro i j hi hj
    rw [List.flatMap_cons]
    have hl : (three b x).length = 3 := rfl
    cases i with
    | zero =>
      show (three b x ++ _).getD (3 * 0 + j) default = (three b x).getD j default
      rw [List.getD_eq_getElem?_getD, List.getElem?_append_left (by omega), ← List.getD_eq_getElem?_getD]
      congr 1
      omega
    | succ i =>
      show (three b x ++ _).getD (3 * (i + 1) + j) default = nth (three b (nth d i)) j
      rw [List.getD_eq_getElem?_getD, List.getElem?_append_right (by omega), ← List.getD_eq_getElem?_getD, ← ih i j (by simpa using hi) hj]
      show _ = (d.flatMap (three b)).getD (3 * i + j) default
      congr 1
      omega
theorem flat3_len (b : ByteArray) (d : List Nat) : (d.flatMap (three b)).length = 3 * d.length := by
  induction d with
  | nil => rfl
  | cons x d ih => rw [List.flatMap_cons, List.length_append, ih, List.length_cons]; show 3 + _ = _; omega
def sD (b : ByteArray) (d : List Nat) : ByteArray := sI (d.flatMap (three b))
theorem three_bd (b : ByteArray) (d : List Nat) (hd : ∀ i ∈ d, i ≤ 65535) : ∀ x ∈ d.flatMap (three b), 0 ≤ x ∧ x ≤ 255 := by
  intro x h
  exact zs_byte b 0 (by omega) d hd x (List.mem_append_right _ h)
theorem atC_sD (b : ByteArray) (d : List Nat) (hd : ∀ i ∈ d, i ≤ 65535) (i : Nat) (hi : i < d.length) : atC (sD b d) i = nth d i := by
  have hb := three_bd b d hd
  have hl := flat3_len b d
  have h0 := byteN_sI _ hb (3 * i + 0) (by omega)
  have h1 := byteN_sI _ hb (3 * i + 1) (by omega)
  rw [flat3 b d i 0 hi (by omega)] at h0
  rw [flat3 b d i 1 hi (by omega)] at h1
  have e0 : nth (three b (nth d i)) 0 = ((nth d i : Nat) : Int) / 256 := rfl
  have e1 : nth (three b (nth d i)) 1 = ((nth d i : Nat) : Int) % 256 := rfl
  rw [e0] at h0
  rw [e1] at h1
  unfold atC sD
  rw [Nat.add_zero] at h0
  omega
theorem vC_sD (b : ByteArray) (d : List Nat) (hd : ∀ i ∈ d, i ≤ 65535) (i : Nat) (hi : i < d.length) : vC (sD b d) i = ((b[nth d i]!).toNat : Int) := by
  have h0 := byteN_sI _ (three_bd b d hd) (3 * i + 2) (by have hl := flat3_len b d; omega)
  rw [flat3 b d i 2 hi (by omega)] at h0
  exact h0
theorem nth_set {α : Type} [Inhabited α] (l : List α) (k p : Nat) (v : α) (hk : k < l.length) (hp : p < l.length) : nth (l.set k v) p = if k = p then v else nth l p := by
  rw [nth_eq (by rw [List.length_set]; exact hp), List.getElem_set, nth_eq hp]
theorem bytes_nth (b : ByteArray) (k : Nat) (hk : k < b.size) : nth (bytesI b) k = ((b[k]!).toNat : Int) := by
  rw [← byte_get b k hk]
  unfold bytesI byteAt
  rw [nth_eq (by rw [List.length_map, size_len]; exact hk), List.getElem_map, List.getD_eq_getElem?_getD, List.getElem?_eq_getElem (by rw [size_len]; exact hk)]
  rfl
theorem chZ_at (x b : ByteArray) (d : List Nat) (hd : ∀ i ∈ d, i ≤ 65535) (hx : ∀ i ∈ d, i < x.size) : ∀ i, i ≤ d.length → ∀ p, p < x.size → nth (chZ (bytesI x) (sD b d) i) p = if p ∈ d.take i then ((b[p]!).toNat : Int) else ((x[p]!).toNat : Int) := by
  intro i
  induction i with
  | zero => intro _ p hp; rw [List.take_zero, if_neg (by simp)]; exact bytes_nth x p hp
  | succ i ih =>
    intro hi p hp
    have hl : (chZ (bytesI x) (sD b d) i).length = x.size := by rw [chZ_len, bytes_len]
    have hn := hx _ (nth_mem (l := d) (k := i) (by omega))
    rw [chZ, atC_sD b d hd i (by omega), vC_sD b d hd i (by omega), nth_set _ _ _ _ (by omega) (by omega), ih (by omega) p hp, take_nthA (by omega)]
    by_cases h : nth d i = p
    · rw [if_pos h, if_pos (by simp [h]), h]
    · rw [if_neg h]
      have : p ∈ d.take i ++ [nth d i] ↔ p ∈ d.take i := by
        rw [List.mem_append, List.mem_singleton]
        constructor
        · rintro (q | q)
          · exact q
          · exact absurd q.symm h
        · exact .inl
      simp only [this]
theorem difL_sorted (a b : ByteArray) : (difL a b).Pairwise (· < ·) := by
  unfold difL
  exact List.Pairwise.filter _ List.pairwise_lt_range
theorem difL_mem (a b : ByteArray) (i : Nat) : i ∈ difL a b ↔ i < a.size ∧ difB a b i = true := by
  unfold difL
  rw [List.mem_filter, List.mem_range]
theorem sorted_nth {d : List Nat} (h : d.Pairwise (· < ·)) {i j : Nat} (hij : i < j) (hj : j < d.length) : nth d i < nth d j := by
  rw [nth_eq (by omega), nth_eq hj]
  exact List.pairwise_iff_getElem.1 h i j (by omega) hj hij
theorem not_take {d : List Nat} (h : d.Pairwise (· < ·)) {i : Nat} (hi : i < d.length) : nth d i ∉ d.take i := by
  intro q
  obtain ⟨j, hj, e⟩ := List.getElem_of_mem q
  rw [List.length_take] at hj
  rw [List.getElem_take] at e
  have := sorted_nth h (i := j) (j := i) (by omega) hi
  rw [nth_eq (l := d) (k := j) (by omega), e] at this
  omega
theorem idx_noneB {α : Type} (p : α → Bool) (l : List α) (h : ∀ x ∈ l, ¬ p x = true) : idxD p l = none := by
  have e := idx_isSome p l
  rw [List.any_eq_false.2 h] at e
  cases hk : idxD p l with
  | none => rfl
  | some k => rw [hk] at e; cases e
theorem change_back (x b : ByteArray) (hs : x.size = b.size) (hb : b.size ≤ 65536) (hne : ¬ difL x b = []) : changeD x (sD b (difL x b)) = (b, 0) := by
  have hd : ∀ i ∈ difL x b, i ≤ 65535 := fun i hi => by have := difL_lt _ _ i hi; omega
  have hx : ∀ i ∈ difL x b, i < x.size := fun i hi => ((difL_mem x b i).1 hi).1
  have hsz : (sD b (difL x b)).size = 3 * (difL x b).length := by unfold sD; rw [sI_size, flat3_len]
  have hpos : 0 < (difL x b).length := List.length_pos_iff.2 hne
  have hdiv : (sD b (difL x b)).size / 3 = (difL x b).length := by omega
  have hso := difL_sorted x b
  have herr : ∀ i, i < (difL x b).length → errC x (sD b (difL x b)) i = 0 := by
    intro i hi
    have hm := nth_mem hi
    have h1 := hx _ hm
    unfold errC
    rw [chZ_at x b _ hd hx i (by omega) _ (by rw [atC_sD b _ hd i hi]; exact h1), atC_sD b _ hd i hi, vC_sD b _ hd i hi]
    rw [if_neg (not_take hso hi)]
    have h2 := ((difL_mem x b _).1 hm).2
    have h3 : chP (sD b (difL x b)) i < ((nth (difL x b) i : Nat) : Int) := by
      cases i with
      | zero => show (-1 : Int) < _; omega
      | succ i =>
        show ((atC (sD b (difL x b)) i : Nat) : Int) < _
        rw [atC_sD b _ hd i (by omega)]
        have := sorted_nth hso (i := i) (j := i + 1) (by omega) hi
        omega
    rw [if_neg (fun q => q h3), if_neg (fun q => q h1), if_neg]
    unfold difB at h2
    rw [decide_eq_true_eq] at h2
    omega
  unfold changeD
  rw [if_neg (by omega), idx_noneB, hdiv]
  · show (strA ((chZ (bytesI x) (sD b (difL x b)) (difL x b).length).flatMap e8), (0 : Int)) = (b, 0)
    have : chZ (bytesI x) (sD b (difL x b)) (difL x b).length = bytesI b := by
      have hl : (chZ (bytesI x) (sD b (difL x b)) (difL x b).length).length = x.size := by rw [chZ_len, bytes_len]
      apply List.ext_getElem
      · rw [hl, bytes_len, hs]
      · intro p hp hp2
        rw [← nth_eq hp, ← nth_eq hp2, chZ_at x b _ hd hx _ (Nat.le_refl _) p (by omega), List.take_length, bytes_nth b p (by omega)]
        by_cases h : p ∈ difL x b
        · rw [if_pos h]
        · rw [if_neg h]
          have h2 : ¬ difB x b p = true := fun q => h ((difL_mem x b p).2 ⟨by omega, q⟩)
          unfold difB at h2
          rw [decide_eq_true_eq] at h2
          omega
    rw [this]
    exact congrArg (fun z => (z, (0 : Int))) (sI_bytes b)
  · intro i hi
    rw [hdiv, List.mem_range] at hi
    rw [herr i hi]
    simp
theorem dif_nil (x b : ByteArray) (hs : x.size = b.size) (h : difL x b = []) : x = b := by
  have e : bytesI x = bytesI b := by
    apply List.ext_getElem
    · rw [bytes_len, bytes_len, hs]
    · intro p hp hp2
      rw [bytes_len] at hp hp2
      rw [← nth_eq, ← nth_eq, bytes_nth x p hp, bytes_nth b p hp2]
      have h2 : ¬ difB x b p = true := fun q => by
        have := (difL_mem x b p).2 ⟨hp, q⟩
        rw [h] at this
        cases this
      unfold difB at h2
      rw [decide_eq_true_eq] at h2
      omega
  rw [← sI_bytes x, e, sI_bytes]
/-! a message as it is -/
def asD (b : ByteArray) : ByteArray := strA [u8 0] ++ b
theorem asD_sI (b : ByteArray) : asD b = sI (0 :: bytesI b) := by
  apply list_ba
  rw [sI_list]
  unfold asD
  have e : (strA [u8 0] ++ b).data = (strA [u8 0]).data ++ b.data := ByteArray.data_append ..
  rw [e, Array.toList_append, List.map_cons]
  have := congrArg (fun z => z.data.toList) (sI_bytes b)
  simp only [sI_list] at this
  rw [this]
  rfl
theorem asD_size (b : ByteArray) : (asD b).size = b.size + 1 := by rw [asD_sI, sI_size, List.length_cons, bytes_len]
theorem asD_0 (b : ByteArray) : byteN (asD b) 0 = 0 := by
  have h := byteN_sI (0 :: bytesI b) (fun x hx => by
    rcases List.mem_cons.1 hx with rfl | h
    · omega
    · exact bytes_bd b x h) 0 (by simp)
  rw [← asD_sI] at h
  have e : nth (0 :: bytesI b) 0 = 0 := rfl
  rw [e] at h
  omega
theorem asD_1 (b : ByteArray) : (asD b).extract 1 (asD b).size = b := by
  rw [asD_sI, sI_drop]
  exact sI_bytes b
theorem read_as (l : List ByteArray) (b : ByteArray) (hb : b.size ≤ 65536) : readD l (asD b) = (b, 0) := by
  unfold readD
  rw [if_neg (by rw [asD_size]; omega), if_pos (asD_0 b), if_neg (by rw [asD_size]; omega), asD_1]
theorem sI_2 (k : Nat) (hk : k ≤ 255) (c : Int) (c0 : 0 ≤ c) (c1 : c ≤ 255) (zs : List Int) (hz : ∀ x ∈ zs, 0 ≤ x ∧ x ≤ 255) : (byteN (sI (c :: (k : Int) :: zs)) 0 : Int) = c ∧ byteN (sI (c :: (k : Int) :: zs)) 1 = k := by
  have hb : ∀ x ∈ c :: (k : Int) :: zs, 0 ≤ x ∧ x ≤ 255 := fun x hx => by
    rcases List.mem_cons.1 hx with rfl | h
    · exact ⟨c0, c1⟩
    · rcases List.mem_cons.1 h with rfl | h
      · omega
      · exact hz x h
  have h0 := byteN_sI _ hb 0 (by simp)
  have h1 := byteN_sI _ hb 1 (by simp)
  have e0 : nth (c :: (k : Int) :: zs) 0 = c := rfl
  have e1 : nth (c :: (k : Int) :: zs) 1 = (k : Int) := rfl
  rw [e0] at h0
  rw [e1] at h1
  exact ⟨h0, by omega⟩
theorem put_back (m : Nat) (l : List ByteArray) (b : ByteArray) (h : COk m l) (hm : ¬ m = 0) (hb : b.size ≤ 65536) : readD l (putD m l b).2.1 = (b, 0) ∧ (putD m l b).1 = withD m l b ∧ (putD m l b).2.2 = 0 ∧ 0 < (putD m l b).2.1.size ∧ (putD m l b).2.1.size ≤ max (b.size + 1) 2 := by
  have h1 := h.len
  have h2 := h.top
  unfold putD
  rw [if_neg hm, if_neg (by omega)]
  cases hk : idxD (eqD b) l with
  | some k =>
    obtain ⟨k1, k2, k3⟩ := idx_some hk
    have hb2 : nth l k = b := by simpa [eqD] using k2
    have e : strA [u8 1, u8 (k : Int)] = sI [1, (k : Int)] := rfl
    have hsz : (sI [1, (k : Int)]).size = 2 := by rw [sI_size]; rfl
    obtain ⟨q0, q1⟩ := sI_2 k (by omega) 1 (by omega) (by omega) [] (by simp)
    refine ⟨?_, rfl, rfl, ?_, ?_⟩
    · show readD l (strA [u8 1, u8 (k : Int)]) = (b, 0)
      rw [e]
      unfold readD
      rw [if_neg (by omega), if_neg (by omega), if_pos (by omega), if_neg (by omega), if_neg (by omega), q1, hb2]
    · show 0 < (strA [u8 1, u8 (k : Int)]).size
      rw [e]; omega
    · show (strA [u8 1, u8 (k : Int)]).size ≤ _
      rw [e]; omega
  | none =>
    show readD l (codeD l b) = (b, 0) ∧ withD m l b = _ ∧ (0 : Int) = 0 ∧ 0 < (codeD l b).size ∧ (codeD l b).size ≤ _
    have hinv := ne_inv b l l.length (Nat.le_refl _)
    unfold codeD
    by_cases hc : 0 ≤ (neL b l l.length).1 ∧ 2 + 3 * (neL b l l.length).2 < 1 + b.size
    · rw [if_pos hc]
      rcases hinv with ⟨e1, e2⟩ | ⟨j, j1, j2, j3, j4⟩
      · omega
      · rw [j2, Int.toNat_natCast]
        rw [j2, j4] at hc
        have e : strA (([2, (j : Int)] ++ (difL (nth l j) b).flatMap (three b)).flatMap e8) = sI (2 :: (j : Int) :: (difL (nth l j) b).flatMap (three b)) := rfl
        have hd : ∀ i ∈ difL (nth l j) b, i ≤ 65535 := fun i hi => by have := difL_lt _ _ i hi; omega
        have hne : ¬ difL (nth l j) b = [] := fun q => by
          have := dif_nil _ _ j3 q
          exact idx_none hk j j1 (by simp [eqD, this])
        have hpos : 0 < (difL (nth l j) b).length := List.length_pos_iff.2 hne
        have hsz : (sI (2 :: (j : Int) :: (difL (nth l j) b).flatMap (three b))).size = 3 * (difL (nth l j) b).length + 2 := by
          rw [sI_size, List.length_cons, List.length_cons, flat3_len]
        obtain ⟨q0, q1⟩ := sI_2 j (by omega) 2 (by omega) (by omega) _ (three_bd b _ hd)
        have hx := sI_drop (2 :: (j : Int) :: (difL (nth l j) b).flatMap (three b)) 2
        rw [e]
        refine ⟨?_, rfl, rfl, by omega, by omega⟩
        unfold readD
        rw [if_neg (by omega), if_neg (by omega), if_neg (by omega), if_pos (by omega), if_neg (by omega), if_neg (by omega), q1, hx]
        exact change_back _ b j3 hb hne
    · rw [if_neg hc]
      refine ⟨read_as l b hb, rfl, rfl, ?_, ?_⟩
      · show 0 < (asD b).size
        rw [asD_size]; omega
      · show (asD b).size ≤ _
        rw [asD_size]; omega
theorem get_back (m : Nat) (l : List ByteArray) (b : ByteArray) (h : COk m l) (hm : ¬ m = 0) (hb : b.size ≤ 65536) : getD m l (putD m l b).2.1 = (withD m l b, b, 0) := by
  unfold getD
  rw [if_neg hm, (put_back m l b h hm hb).1]
  rfl
theorem get_as (m : Nat) (l : List ByteArray) (b : ByteArray) (hm : ¬ m = 0) (hb : b.size ≤ 65536) : getD m l (asD b) = (withD m l b, b, 0) := by
  unfold getD
  rw [if_neg hm, read_as l b hb]
  rfl
/-! what is kept -/
theorem with_cok {m : Nat} {l : List ByteArray} (h : COk m l) (b : ByteArray) : COk m (withD m l b) where
  nd := by
    unfold withD
    refine List.Sublist.nodup (List.take_sublist _ _) (List.nodup_cons.2 ⟨?_, List.Sublist.nodup List.filter_sublist h.nd⟩)
    rw [List.mem_filter]
    rintro ⟨_, q⟩
    simp [neB2] at q
  len := by unfold withD; rw [List.length_take]; omega
  top := h.top
theorem with_mem {m : Nat} {l : List ByteArray} {b x : ByteArray} (h : x ∈ withD m l b) : x = b ∨ x ∈ l := by
  have h := List.mem_of_mem_take h
  rcases List.mem_cons.1 h with h | h
  · exact .inl h
  · exact .inr (List.mem_filter.1 h).1
theorem with_pos {m : Nat} (hm : ¬ m = 0) (l : List ByteArray) (b : ByteArray) : 1 ≤ (withD m l b).length := by
  unfold withD
  rw [List.length_take, List.length_cons]
  omega
theorem with_head {m : Nat} (hm : ¬ m = 0) (l : List ByteArray) (b : ByteArray) : ∃ t, withD m l b = b :: t ∧ b ∉ t ∧ t.length < m := by
  obtain ⟨k, rfl⟩ : ∃ k, m = k + 1 := ⟨m - 1, by omega⟩
  refine ⟨(l.filter (neB2 b)).take k, rfl, ?_, ?_⟩
  · intro h
    have := (List.mem_filter.1 (List.mem_of_mem_take h)).2
    simp [neB2] at this
  · rw [List.length_take]; omega
theorem with_again {m : Nat} (hm : ¬ m = 0) (l : List ByteArray) (b : ByteArray) : withD m (withD m l b) b = withD m l b := by
  obtain ⟨t, e, h1, h2⟩ := with_head hm l b
  rw [e]
  unfold withD
  rw [List.filter_cons, if_neg (by simp [neB2]), List.filter_eq_self.2, List.take_of_length_le (by rw [List.length_cons]; omega)]
  intro x hx
  unfold neB2
  have : x ≠ b := fun q => h1 (q ▸ hx)
  simp [this]
theorem put_again {m : Nat} (hm : ¬ m = 0) (l : List ByteArray) (b : ByteArray) (hb : b.size ≤ 65536) : putD m (withD m l b) b = (withD m l b, strA [u8 1, u8 0], 0) := by
  unfold putD
  rw [if_neg hm, if_neg (by omega), with_again hm]
  obtain ⟨t, e, h1, h2⟩ := with_head hm l b
  have : idxD (eqD b) (withD m l b) = some 0 := by
    rw [e]
    unfold idxD
    rw [if_pos (by simp [eqD])]
  rw [this]
  rfl
/-- what is kept behind the first k messages -/
def kept (m : Nat) (l : List ByteArray) : Nat → List ByteArray
  | 0 => []
  | k + 1 => withD m (kept m l k) (nth l k)
theorem kept_ok (m : Nat) (hm : m ≤ 64) (l : List ByteArray) : ∀ k, COk m (kept m l k) := by
  intro k
  induction k with
  | zero => exact ⟨List.nodup_nil, Nat.zero_le _, hm⟩
  | succ k ih => exact with_cok ih _
theorem kept_size (m : Nat) (l : List ByteArray) (n : Nat) (hl : ∀ s ∈ l, s.size ≤ n) : ∀ k, k ≤ l.length → ∀ x ∈ kept m l k, x.size ≤ n := by
  intro k
  induction k with
  | zero => intro _ x hx; cases hx
  | succ k ih =>
    intro hk x hx
    rcases with_mem hx with rfl | h
    · exact hl _ (nth_mem (by omega))
    · exact ih (by omega) x h
end Go.Proofs.YtdcoomeagbjhlaaDoor.Ca
