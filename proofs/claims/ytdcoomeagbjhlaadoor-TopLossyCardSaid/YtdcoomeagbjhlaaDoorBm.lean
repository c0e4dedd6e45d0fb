/- changed and patch: one answer. By the prover of this seat. -/
import Derived.Test.YtdcoomeagbjhlaaDoorBl
set_option linter.unusedVariables false
set_option linter.unusedSimpArgs false
set_option maxRecDepth 100000
set_option maxHeartbeats 4000000
namespace Go.Proofs.YtdcoomeagbjhlaaDoor.Ca
open Go.RowKit Go.Pm
open Go.Proofs.YtdcoomeagbjhlaaDoor.Or (G1 C1 Pu)
def bytesI (b : ByteArray) : List Int := b.data.toList.map fun x => (x.toNat : Int)
theorem bytes_len (b : ByteArray) : (bytesI b).length = b.size := by unfold bytesI; rw [List.length_map, size_len]
theorem bytes_row (b : ByteArray) : (bytesI b).flatMap e8 = bytesA b := by
  unfold bytesI bytesA
  induction b.data.toList with
  | nil => rfl
  | cons x l ih => rw [List.map_cons, List.flatMap_cons, ih]; rfl
theorem pureB_b (b : ByteArray) (n : Nat) (fz : Fz) : pureB (.arr n (bytesA b) fz) = true := by rw [← bytes_row]; exact row_pureB (fun _ => rfl) _ _ _
theorem bytes_bd (b : ByteArray) : ∀ x ∈ bytesI b, 0 ≤ x ∧ x ≤ 255 := by
  intro x hx
  obtain ⟨y, _, rfl⟩ := List.mem_map.1 hx
  have := y.toNat_lt
  omega
def byteN (s : ByteArray) (k : Nat) : Nat := (s.data.toList.getD k 0).toNat
theorem byteN_lt (s : ByteArray) (k : Nat) : byteN s k ≤ 255 := by unfold byteN; have := (s.data.toList.getD k 0).toNat_lt; omega
def atC (s : ByteArray) (i : Nat) : Nat := 256 * byteN s (3 * i) + byteN s (3 * i + 1)
def vC (s : ByteArray) (i : Nat) : Int := (byteN s (3 * i + 2) : Int)
def chZ (z : List Int) (s : ByteArray) : Nat → List Int
  | 0 => z
  | k + 1 => (chZ z s k).set (atC s k) (vC s k)
def chP (s : ByteArray) : Nat → Int
  | 0 => -1
  | k + 1 => (atC s k : Int)
def errC (kept s : ByteArray) (i : Nat) : Int := if ¬ chP s i < (atC s i : Int) then 8 else if ¬ atC s i < kept.size then 1 else if nth (chZ (bytesI kept) s i) (atC s i) = vC s i then 22 else 0
def changeD (kept s : ByteArray) : ByteArray × Int := if s.size = 0 ∨ ¬ s.size % 3 = 0 then (⟨#[]⟩, 2) else match idxD (fun i => decide (¬ errC kept s i = 0)) (List.range (s.size / 3)) with
  | some i => (⟨#[]⟩, errC kept s i)
  | none => (strA ((chZ (bytesI kept) s (s.size / 3)).flatMap e8), 0)
theorem chZ_len (z : List Int) (s : ByteArray) : ∀ k, (chZ z s k).length = z.length := by
  intro k
  induction k with
  | zero => rfl
  | succ k ih => rw [chZ, List.length_set, ih]
theorem vC_bd (s : ByteArray) (i : Nat) : 0 ≤ vC s i ∧ vC s i ≤ 255 := by unfold vC; have := byteN_lt s (3 * i + 2); omega
theorem chZ_bd (z : List Int) (hz : ∀ x ∈ z, 0 ≤ x ∧ x ≤ 255) (s : ByteArray) : ∀ k, ∀ x ∈ chZ z s k, 0 ≤ x ∧ x ≤ 255 := by
  intro k
  induction k with
  | zero => exact hz
  | succ k ih =>
    intro x hx
    rcases List.mem_or_eq_of_mem_set hx with h | h
    · exact ih x h
    · rw [h]; exact vC_bd s k
theorem chP_ge (s : ByteArray) (i : Nat) : -1 ≤ chP s i := by
  cases i with
  | zero => exact Int.le_refl _
  | succ i => rw [chP]; omega
def chT (kept s : ByteArray) : St := ⟨mkT 63 [(0, st kept), (1, st s), (6, .osl 0 0 kept.size 1), (7, i64 (-1)), (8, i64 0)], [.arr kept.size (bytesA kept) 0]⟩
theorem ch_all (kept s : ByteArray) (hk : kept.size ≤ 1000000) (hs : s.size ≤ 1000000) (h3 : s.size % 3 = 0) : (∃ i, idxD (fun i => decide (¬ errC kept s i = 0)) (List.range (s.size / 3)) = some i ∧ LoopT C1 chB (chT kept s) .ret (chH (errC kept s i))) ∨ (idxD (fun i => decide (¬ errC kept s i = 0)) (List.range (s.size / 3)) = none ∧ LoopT C1 chB (chT kept s) (.exit 0) (chS kept s (chZ (bytesI kept) s (s.size / 3)) (chP s (s.size / 3)) (s.size / 3))) := by
  have es : chS kept s (bytesI kept) (-1) 0 = chT kept s := by unfold chS chT; rw [Nat.mul_one, bytes_row]; rfl
  have hz := chZ_len (bytesI kept) s
  rw [bytes_len] at hz
  have step : ∀ i, 3 * i + 2 < s.size → errC kept s i = 0 → Tri C1 chB (chS kept s (chZ (bytesI kept) s i) (chP s i) i) .normal (chS kept s (chZ (bytesI kept) s (i + 1)) (chP s (i + 1)) (i + 1)) := by
    intro i hi he
    unfold errC at he
    split at he
    · cases he
    rename_i q1
    split at he
    · cases he
    rename_i q2
    split at he
    · cases he
    rename_i q3
    have g0 := byteN_lt s (3 * i)
    have g1 := byteN_lt s (3 * i + 1)
    exact ch_step kept s _ _ i (byteN s (3 * i)) (byteN s (3 * i + 1)) (vC s i) (atC s i) hi hs (hz i) hk (by rw [show (3 * (i : Int)).toNat = 3 * i by omega]; rfl) (by rw [show (3 * (i : Int) + 1).toNat = 3 * i + 1 by omega]; rfl) (by rw [show (3 * (i : Int) + 2).toNat = 3 * i + 2 by omega]; rfl) (by omega) (by omega) (vC_bd s i) (by unfold atC; omega) (chP_ge s i) (by omega) (by omega) q3
  cases hx : idxD (fun i => decide (¬ errC kept s i = 0)) (List.range (s.size / 3)) with
  | some i =>
    obtain ⟨h1, h2, h4⟩ := idx_some hx
    rw [List.length_range] at h1
    rw [nth_range _ _ h1, decide_eq_true_eq] at h2
    refine .inl ⟨i, rfl, ?_⟩
    rw [← es]
    refine LoopT.count (fun k => chS kept s (chZ (bytesI kept) s k) (chP s k) k) i (fun k hk2 => step k (by omega) (by
      have := h4 k hk2
      rw [nth_range _ _ (by omega), decide_eq_true_eq] at this
      exact Decidable.not_not.1 this)) ?_ 0 (by omega)
    have g0 := byteN_lt s (3 * i)
    have g1 := byteN_lt s (3 * i + 1)
    have b0 : ((s.data.toList.getD (3 * (i : Int)).toNat 0).toNat : Int) = (byteN s (3 * i) : Int) := by rw [show (3 * (i : Int)).toNat = 3 * i by omega]; rfl
    have b1 : ((s.data.toList.getD (3 * (i : Int) + 1).toNat 0).toNat : Int) = (byteN s (3 * i + 1) : Int) := by rw [show (3 * (i : Int) + 1).toNat = 3 * i + 1 by omega]; rfl
    have b2 : ((s.data.toList.getD (3 * (i : Int) + 2).toNat 0).toNat : Int) = vC s i := by rw [show (3 * (i : Int) + 2).toNat = 3 * i + 2 by omega]; rfl
    have hj : 256 * (byteN s (3 * i) : Int) + (byteN s (3 * i + 1) : Int) = (atC s i : Int) := by unfold atC; omega
    unfold errC at h2 ⊢
    split
    · exact ch_e8 kept s _ _ i _ _ _ (atC s i) (by omega) hs (hz i) hk b0 b1 b2 (by omega) (by omega) (vC_bd s i) hj (chP_ge s i) (by assumption)
    · split
      · exact ch_e1 kept s _ _ i _ _ _ (atC s i) (by omega) hs (hz i) hk b0 b1 b2 (by omega) (by omega) (vC_bd s i) hj (chP_ge s i) (by omega) (by assumption)
      · split
        · exact ch_e22 kept s _ _ i _ _ _ (atC s i) (by omega) hs (hz i) hk b0 b1 b2 (by omega) (by omega) (vC_bd s i) hj (chP_ge s i) (by omega) (by omega) (by assumption)
        · rename_i r1 r2 r3
          rw [if_neg r1, if_neg r2, if_neg r3] at h2
          exact absurd rfl h2
  | none =>
    have h4 := idx_none hx
    refine .inr ⟨rfl, ?_⟩
    rw [← es]
    exact LoopT.count (fun k => chS kept s (chZ (bytesI kept) s k) (chP s k) k) (s.size / 3) (fun k hk2 => step k (by omega) (by
      have := h4 k (by rw [List.length_range]; exact hk2)
      rw [nth_range _ _ hk2, decide_eq_true_eq] at this
      exact Decidable.not_not.1 this)) (ch_end kept s _ _ _ (by omega) hs) 0 (by omega)
theorem ch_r (kept s : ByteArray) (e : Int) (hk : kept.size ≤ 1000000) (hs : s.size ≤ 1000000) (h0 : ¬ s = ⟨#[]⟩) (h1 : ¬ s.size = 0) (h3 : s.size % 3 = 0) (L : LoopT C1 chB (chT kept s) .ret (chH e)) : Pu 43 [st kept, st s] (.tup [st ⟨#[]⟩, i64 e]) := by
  exact pure_of (hs := hint [((1,2), {val := some (bl (false))}), ((1,5), {val := some (i64 ((↑s.size : Int) % (3 : Int)))}), ((1,7), {val := some (bl (false))}), ((6,1000), {loop := some ({ ks := [0, 1, 6, 7, 8], l := [0] }, chT kept s, Ex.ret, chH e)})]) (ps := [bl (s.toList == { data := #[] : ByteArray }.toList) = bl (false), i64 ((↑s.size : Int).tmod (3 : Int)) = i64 ((↑s.size : Int) % (3 : Int)), bl ((↑s.size : Int) % (3 : Int) != (0 : Int)) = bl (false), chT kept s = chT kept s, _, true = true, pureB (Bk.arr kept.size (bytesA kept) (0 : Fz)) = true]) (by kernel_rfl) ⟨(bsF (by assumption)), (intE (Int.tmod_eq_emod_of_nonneg (by omega))), (neT (by omega)), rfl, L, rfl, (by exact pureB_b _ _ _), trivial⟩
theorem ch_n (kept s : ByteArray) (zs : List Int) (last : Int) (i : Nat) (hz : zs.length = kept.size) (hb : ∀ x ∈ zs, 0 ≤ x ∧ x ≤ 255) (hk : kept.size ≤ 1000000) (hs : s.size ≤ 1000000) (h0 : ¬ s = ⟨#[]⟩) (h1 : ¬ s.size = 0) (h3 : s.size % 3 = 0) (L : LoopT C1 chB (chT kept s) (.exit 0) (chS kept s zs last i)) : Pu 43 [st kept, st s] (.tup [st (strA (zs.flatMap e8)), i64 0]) := by
  have q0 : (zs.flatMap e8).length = kept.size * 1 := by rw [row_len (sz := 1) (fun _ => rfl), hz]
  have q1 : (zs.flatMap e8).length = kept.size := by omega
  have t1 : List.take (kept.size * 1) (List.drop 0 (zs.flatMap e8)) = zs.flatMap e8 := by rw [List.drop_zero]; exact List.take_of_length_le (by omega)
  exact pure_cast (pure_of (hs := hint [((1,2), {val := some (bl (false))}), ((1,5), {val := some (i64 ((↑s.size : Int) % (3 : Int)))}), ((1,7), {val := some (bl (false))}), ((6,1000), {loop := some ({ ks := [0, 1, 6, 7, 8], l := [0] }, chT kept s, Ex.exit (0 : Nat), chS kept s zs last i)}), ((17,1), {sym := true})]) (r := AV.tup [st (strA (List.take (kept.size * (1 : Nat)) (List.drop (0 : Nat) (List.flatMap e8 zs)))), i64 ((0 : Int))]) (ps := [bl (s.toList == { data := #[] : ByteArray }.toList) = bl (false), i64 ((↑s.size : Int).tmod (3 : Int)) = i64 ((↑s.size : Int) % (3 : Int)), bl ((↑s.size : Int) % (3 : Int) != (0 : Int)) = bl (false), chT kept s = chT kept s, _, true = true, pureB (Bk.arr kept.size (bytesA kept) (0 : Fz)) = true, decide ((List.take (kept.size * (1 : Nat)) (List.drop (0 : Nat) (List.flatMap e8 zs))).length = kept.size) = true, (List.take (kept.size * (1 : Nat)) (List.drop (0 : Nat) (List.flatMap e8 zs))).all isU8 = true]) (by kernel_rfl) ⟨(bsF (by assumption)), (intE (Int.tmod_eq_emod_of_nonneg (by omega))), (neT (by omega)), rfl, L, rfl, (by exact pureB_b _ _ _), (by (rw [t1]; exact decide_t q1)), (by (rw [t1]; exact u8_all _ (by assumption))), trivial⟩) (by (rw [t1]; done))
theorem ch_x (kept s : ByteArray) (hs : s.size ≤ 1000000) (h0 : ¬ s = ⟨#[]⟩) (h1 : ¬ s.size = 0) (h3 : ¬ s.size % 3 = 0) : Pu 43 [st kept, st s] (.tup [st ⟨#[]⟩, i64 2]) := by
  exact pure_of (hs := hint [((1,2), {val := some (bl (false))}), ((1,5), {val := some (i64 ((↑s.size : Int) % (3 : Int)))}), ((1,7), {val := some (bl (true))})]) (ps := [bl (s.toList == { data := #[] : ByteArray }.toList) = bl (false), i64 ((↑s.size : Int).tmod (3 : Int)) = i64 ((↑s.size : Int) % (3 : Int)), bl ((↑s.size : Int) % (3 : Int) != (0 : Int)) = bl (true)]) (by kernel_rfl) ⟨(bsF (by assumption)), (intE (Int.tmod_eq_emod_of_nonneg (by omega))), (neF (by omega)), trivial⟩
theorem ch_0 (kept : ByteArray) : Pu 43 [st kept, st ⟨#[]⟩] (.tup [st ⟨#[]⟩, i64 2]) := by
  exact pure_of (hs := hint []) (ps := []) (by kernel_rfl) trivial
theorem changed_ok (kept s : ByteArray) (hk : kept.size ≤ 1000000) (hs : s.size ≤ 1000000) : Pu 43 [st kept, st s] (.tup [st (changeD kept s).1, i64 (changeD kept s).2]) := by
  unfold changeD
  by_cases h0 : s = ⟨#[]⟩
  · subst h0
    rw [if_pos (.inl rfl)]
    exact ch_0 kept
  · have h1 : ¬ s.size = 0 := fun q => h0 (ByteArray.ext (Array.eq_empty_of_size_eq_zero q))
    by_cases h3 : s.size % 3 = 0
    · rw [if_neg (by omega)]
      rcases ch_all kept s hk hs h3 with ⟨i, e, L⟩ | ⟨e, L⟩
      · rw [e]
        exact ch_r kept s _ hk hs h0 h1 h3 L
      · rw [e]
        exact ch_n kept s _ _ _ (by rw [chZ_len, bytes_len]) (chZ_bd _ (bytes_bd kept) s _) hk hs h0 h1 h3 L
    · rw [if_pos (.inr h3)]
      exact ch_x kept s hs h0 h1 h3
def paT (kept s : ByteArray) : St := ⟨mkT 65 [(0, st kept), (1, st s), (6, .osl 0 0 kept.size 1), (7, i64 (-1)), (8, i64 0)], [.arr kept.size (bytesA kept) 0]⟩
end Go.Proofs.YtdcoomeagbjhlaaDoor.Ca
