/- The law Pairs. By the prover of this seat. -/
import Derived.Test.YtgbpjpacmepicaaDoorOg
set_option linter.unusedVariables false
set_option linter.unusedSimpArgs false
set_option maxRecDepth 100000
set_option maxHeartbeats 4000000
namespace Go.Proofs.YtgbpjpacmepicaaDoor
open Go.RowKit Go.Pm
theorem row_set {α : Type} {enc : α → List AV} {sz : Nat} (he : ∀ x, (enc x).length = sz) (l : List α) (k : Nat) (hk : k < l.length) (x : α) : splice (l.flatMap enc) (k * sz) (enc x) = (l.set k x).flatMap enc := by
  have h1 : (l.take k).flatMap enc = (l.flatMap enc).take (k * sz) := by
    conv => rhs; rw [← List.take_append_drop k l, List.flatMap_append]
    rw [List.take_left' (by rw [row_len he, List.length_take]; congr 1; omega)]
  have h2 : (l.drop (k + 1)).flatMap enc = (l.flatMap enc).drop (k * sz + (enc x).length) := by
    conv => rhs; rw [← List.take_append_drop (k + 1) l, List.flatMap_append]
    rw [List.drop_left' (by rw [row_len he, List.length_take, he, show min (k + 1) l.length = k + 1 by omega, Nat.add_mul, Nat.one_mul])]
  rw [List.set_eq_take_append_cons_drop, if_pos hk, List.flatMap_append, List.flatMap_cons, h1, h2]
  unfold splice
  rw [List.append_assoc]
def eU (v : Int) : List AV := [u32 v]
def slU (l : List Int) : AV := slE eU l
noncomputable def pqB : Code := loopOf Tryd.prog 3 8
def pqS (names : List ByteArray) (a : List ByteArray) (l : List Int) (k : Nat) : St := ⟨mkT 118 [(0, slS names), (3, .ptr 0 0), (4, .osl 1 0 names.length 1), (5, i64 k)], [ptB a, .arr (names.length * 1) (l.flatMap eU) 0]⟩
theorem pq_yes (names a a' : List ByteArray) (l : List Int) (v : Int) (k : Nat) (hk : k < names.length) (hn : names.length ≤ 40) (hl : l.length = names.length) (h0 : 0 ≤ v) (h1 : v ≤ 2000) (hI : Pu 11 [tabA a, st (nth names k), bl false] (internA (a', v, 0))) : Tri C0 pqB (pqS names a l k) .normal (pqS names a' (l.set k v) (k + 1)) := by
  have e1 : splice (l.flatMap eU) (0 + (k : Int).toNat * 1) [u32 v] = (l.set k v).flatMap eU := by rw [Nat.zero_add, Int.toNat_natCast]; exact row_set (enc := eU) (sz := 1) (fun _ => rfl) l k (by omega) v
  have e2 := row_len (sz := 1) (enc := eU) (fun _ => rfl) l
  exact runF_ok (hs := hint [((8,3), {val := some (bl (true))}), ((10,3), {cells := some (eS (nth names k) ++ List.flatMap eS (List.drop (k + (1 : Nat)) names)), sym := true}), ((10,5), {call := some ((internA (a', v, (0 : Int))))}), ((12,3), {sym := true}), ((12,4), { sym := true, cells := some ((l.set k v).flatMap eU) }), ((9,1), {val := some (i64 ((↑k : Int) + (1 : Int)))})]) (f := { ks := [0, 3, 4, 5], l := [0, 1] }) (ps := [bl (decide ((↑k : Int) < (↑names.length : Int))) = bl (true), decide ((0 : Int) ≤ (↑k : Int) ∧ (↑k : Int) < (↑names.length : Int)) = true, ((List.drop ((↑k : Int).toNat * (1 : Nat)) (List.flatMap eS names)) : List AV) = (eS (nth names k) ++ List.flatMap eS (List.drop (k + (1 : Nat)) names)), _, decide ((0 : Int) ≤ (↑k : Int) ∧ (↑k : Int) < (↑names.length : Int)) = true, decide ((0 : Nat) + (↑k : Int).toNat * (1 : Nat) + (1 : Nat) ≤ names.length * (1 : Nat)) = true, decide ((0 : Nat) ≤ (0 : Nat) + (↑k : Int).toNat * (1 : Nat)) = true, ((splice (List.flatMap eU l) ((0 : Nat) + (↑k : Int).toNat * (1 : Nat)) [AV.s (Value.int IntKind.u32 v)]) : List AV) = (List.flatMap eU (l.set k v)), i64 (IntKind.i64.wrap ((↑k : Int) + (1 : Int))) = i64 ((↑k : Int) + (1 : Int)), true = true, true = true, pureB (Bk.arr (names.length * (1 : Nat)) (List.flatMap eU (l.set k v)) (0 : Nat)) = true]) (by kernel_rfl) ⟨(bdT (by omega)), (by exact decide_t (by omega)), (by exact flat_nth (sz := 1) (k := k) (fun _ => rfl) (by omega)), (hI), (by exact decide_t (by omega)), (by (first | exact e1 | exact decide_t (by omega) | omega)), (by (first | exact e1 | exact decide_t (by omega) | omega)), (by (first | exact e1 | exact decide_t (by omega) | omega)), (intE (by exact wrap_i64 (by omega) (by omega))), rfl, rfl, (by exact row_pureB (fun _ => rfl) _ _ _), trivial⟩
theorem pq_no (names a a' : List ByteArray) (l : List Int) (v e : Int) (k : Nat) (hk : k < names.length) (hn : names.length ≤ 40) (he : e ≠ 0) (hI : Pu 11 [tabA a, st (nth names k), bl false] (internA (a', v, e))) : Tri C0 pqB (pqS names a l k) .normal (pqS names a' l (k + 1)) := by
  exact runF_ok (hs := hint [((8,3), {val := some (bl (true))}), ((10,3), {cells := some (eS (nth names k) ++ List.flatMap eS (List.drop (k + (1 : Nat)) names)), sym := true}), ((10,5), {call := some ((internA (a', v, e)))}), ((11,1), {val := some (bl (false))}), ((9,1), {val := some (i64 ((↑k : Int) + (1 : Int)))})]) (f := { ks := [0, 3, 4, 5], l := [0, 1] }) (ps := [bl (decide ((↑k : Int) < (↑names.length : Int))) = bl (true), decide ((0 : Int) ≤ (↑k : Int) ∧ (↑k : Int) < (↑names.length : Int)) = true, ((List.drop ((↑k : Int).toNat * (1 : Nat)) (List.flatMap eS names)) : List AV) = (eS (nth names k) ++ List.flatMap eS (List.drop (k + (1 : Nat)) names)), _, bl (e == (0 : Int)) = bl (false), i64 (IntKind.i64.wrap ((↑k : Int) + (1 : Int))) = i64 ((↑k : Int) + (1 : Int)), true = true, true = true, pureB (Bk.arr (names.length * (1 : Nat)) (List.flatMap eU l) (0 : Nat)) = true]) (by kernel_rfl) ⟨(bdT (by omega)), (by exact decide_t (by omega)), (by exact flat_nth (sz := 1) (k := k) (fun _ => rfl) (by omega)), (hI), (beF (by assumption)), (intE (by exact wrap_i64 (by omega) (by omega))), rfl, rfl, (by exact row_pureB (fun _ => rfl) _ _ _), trivial⟩
theorem pq_end (names a : List ByteArray) (l : List Int) : LoopT C0 pqB (pqS names a l names.length) (.exit 0) (pqS names a l names.length) := by
  exact LoopT.fin (hs := hint [((8,3), {val := some (bl (false))})]) (f := { ks := [0, 3, 4, 5], l := [0, 1] }) (ps := [bl (decide ((↑names.length : Int) < (↑names.length : Int))) = bl (false), true = true, true = true, pureB (Bk.arr (names.length * (1 : Nat)) (List.flatMap eU l) (0 : Nat)) = true]) (by kernel_rfl) ⟨(bdF (by omega)), rfl, rfl, (by exact row_pureB (fun _ => rfl) _ _ _), trivial⟩ (by decide)
def atD (z : List ByteArray) (s : ByteArray) : Int := if rightD s = true then numD (kn ++ z) s else 0
theorem runI_len (names : List ByteArray) : ∀ a, (runI a names).length ≤ a.length + names.length := by
  induction names with
  | nil => intro a; exact Nat.le_refl _
  | cons s names ih =>
    intro a
    have h1 : (internD a s false).1.length ≤ a.length + 1 := by
      unfold internD
      split
      · simp
      · split
        · simp
        · split
          · simp
          · split <;> simp
    have h2 := ih (internD a s false).1
    show (runI (internD a s false).1 names).length ≤ _
    rw [List.length_cons]
    omega
/-- a right name, while there is room -/
theorem intern_yes {a : List ByteArray} {s : ByteArray} (hr : rightD s = true) (hl : a.length < 1014) : (internD a s false).2.2 = 0 := by
  unfold internD
  rw [if_neg (fun q => q hr)]
  split
  · rfl
  · rw [if_neg (by simp), if_neg (by omega)]
theorem intern_not {a : List ByteArray} {s : ByteArray} (hr : rightD s = false) : internD a s false = (a, 0, 11) := by
  unfold internD
  rw [hr]; rfl
theorem at_eq (z : List ByteArray) (s : ByteArray) (hr : rightD s = true) (k : Nat) (h : idxD (eqD s) (kn ++ z) = some k) : atD z s = (k : Int) + 1 := by
  unfold atD numD
  rw [if_pos hr, h]
def rowZ (z names : List ByteArray) (k : Nat) : List Int := (names.take k).map (atD z) ++ List.replicate (names.length - k) 0
theorem rowZ_len (z names : List ByteArray) (k : Nat) (h : k ≤ names.length) : (rowZ z names k).length = names.length := by
  unfold rowZ
  rw [List.length_append, List.length_map, List.length_take, List.length_replicate]; omega
theorem rowZ_set (z names : List ByteArray) (k : Nat) (h : k < names.length) : (rowZ z names k).set k (atD z (nth names k)) = rowZ z names (k + 1) := by
  unfold rowZ
  rw [take_nth h, List.map_append]
  have e : names.length - k = (names.length - (k + 1)) + 1 := by omega
  rw [e, List.replicate_succ]
  have hl : ((names.take k).map (atD z)).length = k := by rw [List.length_map, List.length_take]; omega
  rw [List.set_append_right _ _ (by omega), hl, Nat.sub_self, List.set_cons_zero, List.append_assoc]
  rfl
theorem rowZ_0 (z names : List ByteArray) (k : Nat) (h : k < names.length) (h0 : atD z (nth names k) = 0) : rowZ z names (k + 1) = rowZ z names k := by
  unfold rowZ
  rw [take_nth h, List.map_append]
  have e : names.length - k = (names.length - (k + 1)) + 1 := by omega
  rw [e, List.replicate_succ, List.append_assoc]
  show _ ++ ([atD z (nth names k)] ++ _) = _
  rw [h0]; rfl
theorem pq_all (names : List ByteArray) (hn : names.length ≤ 40) : LoopT C0 pqB (pqS names [] (List.replicate names.length 0) 0) (.exit 0) (pqS names (runI [] names) (names.map (atD (runI [] names))) names.length) := by
  have L := LoopT.count (fun k => pqS names (runI [] (names.take k)) (rowZ (runI [] names) names k) k) names.length (fun k hk => by
    have q := runI_tok (names.take k) [] tok0
    have e := runI_snoc [] names k hk
    have hI := intern_ok _ q (nth names k) false
    have hb := intern_int q (nth names k) false
    have hlen := runI_len (names.take k) []
    rw [List.length_take, List.length_nil] at hlen
    simp only [e]
    by_cases hr : rightD (nth names k) = true
    · have hy := intern_yes (a := runI [] (names.take k)) hr (by omega)
      obtain ⟨j, hj, e1, _⟩ := intern_there hy
      have hz : idxD (eqD (nth names k)) (kn ++ runI [] names) = some j := by
        have e2 : runI [] names = runI (runI [] (names.take (k + 1))) (names.drop (k + 1)) := by
          unfold runI
          rw [← List.foldl_append, List.take_append_drop]
        obtain ⟨b, hb⟩ := runI_pre (names.drop (k + 1)) (runI [] (names.take (k + 1)))
        rw [e2, hb, e, ← List.append_assoc]
        exact idx_appS _ _ _ _ hj
      rw [← rowZ_set _ _ k hk, at_eq _ _ hr j hz, ← e1]
      refine pq_yes names _ _ _ _ k hk hn (rowZ_len _ _ _ (by omega)) hb.1 hb.2 ?_
      rw [show internD (runI [] (names.take k)) (nth names k) false = ((internD (runI [] (names.take k)) (nth names k) false).1, (internD (runI [] (names.take k)) (nth names k) false).2.1, 0) by rw [← hy]] at hI
      exact hI
    · have hr' : rightD (nth names k) = false := by simpa using hr
      rw [rowZ_0 _ _ k hk (by unfold atD; rw [if_neg hr])]
      have hne : (internD (runI [] (names.take k)) (nth names k) false).2.2 ≠ 0 := by rw [intern_not hr']; simp
      have hz : (internD (runI [] (names.take k)) (nth names k) false).1 = runI [] (names.take k) := by rw [intern_not hr']
      exact pq_no names _ _ _ _ _ k hk hn hne hI) (pq_end names _ _) 0 (by omega)
  simp only [List.take_length] at L
  have e1 : rowZ (runI [] names) names names.length = names.map (atD (runI [] names)) := by
    unfold rowZ; rw [List.take_length, Nat.sub_self]; simp
  have e2 : rowZ (runI [] names) names 0 = List.replicate names.length 0 := by unfold rowZ; simp
  rw [e1, e2] at L
  exact L
/-! the second loop -/
noncomputable def piB : Code := loopOf Tryd.prog 3 21
def piS (names a : List ByteArray) (l : List Int) (i k : Nat) : St := ⟨mkT 118 [(0, slS names), (3, .ptr 0 0), (4, slU l), (9, i64 i), (12, i64 k)], [ptB a]⟩
theorem bb_eq {a b : Int} {s t : ByteArray} (h1 : a = b) (h2 : s = t) : (a == b) = (s.toList == t.toList) := by rw [h2, h1]; simp
theorem bb_ne {a b : Int} {s t : ByteArray} (h1 : ¬ a = b) (h2 : ¬ s = t) : (a == b) = (s.toList == t.toList) := by rw [show (s.toList == t.toList) = false by have q := bsF h2; simpa [bl] using q]; simpa using h1
theorem pi_step (names a : List ByteArray) (l : List Int) (i k : Nat) (hk : k < i) (hi : i < names.length) (hn : names.length ≤ 40) (hl : l.length = names.length) (hP : nth l i ≠ 0 → (nth l i = nth l k ↔ nth names i = nth names k)) : Tri C0 piB (piS names a l i k) .normal (piS names a l i (k + 1)) := by
  obtain h | ⟨h0, h1, h2⟩ | ⟨h0, h1, h2⟩ : nth l i = 0 ∨ (¬ nth l i = 0 ∧ nth l i = nth l k ∧ nth names i = nth names k) ∨ (¬ nth l i = 0 ∧ ¬ nth l i = nth l k ∧ ¬ nth names i = nth names k) := by
    by_cases h0 : nth l i = 0
    · exact .inl h0
    · have hP := hP h0
      by_cases h1 : nth names i = nth names k
      · exact .inr (.inl ⟨h0, hP.2 h1, h1⟩)
      · exact .inr (.inr ⟨h0, fun q => h1 (hP.1 q), h1⟩)
  · clear hP
    exact runF_ok (hs := hint [((21,2), {val := some (bl (true))}), ((23,2), {cells := some (eU (nth l i) ++ List.flatMap eU (List.drop (i + (1 : Nat)) l)), sym := true}), ((23,5), {val := some (bl (false))}), ((22,1), {val := some (i64 ((↑k : Int) + (1 : Int)))})]) (f := { ks := [0, 3, 4, 9, 12], l := [0] }) (ps := [bl (decide ((↑k : Int) < (↑i : Int))) = bl (true), decide ((0 : Int) ≤ (↑i : Int) ∧ (↑i : Int) < (↑l.length : Int)) = true, ((List.drop ((↑i : Int).toNat * (1 : Nat)) (List.flatMap eU l)) : List AV) = (eU (nth l i) ++ List.flatMap eU (List.drop (i + (1 : Nat)) l)), bl (nth l i != (0 : Int)) = bl (false), i64 (IntKind.i64.wrap ((↑k : Int) + (1 : Int))) = i64 ((↑k : Int) + (1 : Int)), true = true, true = true]) (by kernel_rfl) ⟨(bdT (by omega)), (by exact decide_t (by omega)), (by exact flat_nth (sz := 1) (k := i) (fun _ => rfl) (by omega)), (neT (by assumption)), (intE (by exact wrap_i64 (by omega) (by omega))), rfl, rfl, trivial⟩
  · clear hP
    exact runF_ok (hs := hint [((21,2), {val := some (bl (true))}), ((23,2), {cells := some (eU (nth l i) ++ List.flatMap eU (List.drop (i + (1 : Nat)) l)), sym := true}), ((23,5), {val := some (bl (true))}), ((23,8), {cells := some (eU (nth l i) ++ List.flatMap eU (List.drop (i + (1 : Nat)) l)), sym := true}), ((23,12), {cells := some (eU (nth l k) ++ List.flatMap eU (List.drop (k + (1 : Nat)) l)), sym := true}), ((23,17), {cells := some (eS (nth names i) ++ List.flatMap eS (List.drop (i + (1 : Nat)) names)), sym := true}), ((23,21), {cells := some (eS (nth names k) ++ List.flatMap eS (List.drop (k + (1 : Nat)) names)), sym := true}), ((23,25), {val := some (bl (false))}), ((22,1), {val := some (i64 ((↑k : Int) + (1 : Int)))})]) (f := { ks := [0, 3, 4, 9, 12], l := [0] }) (ps := [bl (decide ((↑k : Int) < (↑i : Int))) = bl (true), decide ((0 : Int) ≤ (↑i : Int) ∧ (↑i : Int) < (↑l.length : Int)) = true, ((List.drop ((↑i : Int).toNat * (1 : Nat)) (List.flatMap eU l)) : List AV) = (eU (nth l i) ++ List.flatMap eU (List.drop (i + (1 : Nat)) l)), bl (nth l i != (0 : Int)) = bl (true), decide ((0 : Int) ≤ (↑i : Int) ∧ (↑i : Int) < (↑l.length : Int)) = true, ((List.drop ((↑i : Int).toNat * (1 : Nat)) (List.flatMap eU l)) : List AV) = (eU (nth l i) ++ List.flatMap eU (List.drop (i + (1 : Nat)) l)), decide ((0 : Int) ≤ (↑k : Int) ∧ (↑k : Int) < (↑l.length : Int)) = true, ((List.drop ((↑k : Int).toNat * (1 : Nat)) (List.flatMap eU l)) : List AV) = (eU (nth l k) ++ List.flatMap eU (List.drop (k + (1 : Nat)) l)), decide ((0 : Int) ≤ (↑i : Int) ∧ (↑i : Int) < (↑names.length : Int)) = true, ((List.drop ((↑i : Int).toNat * (1 : Nat)) (List.flatMap eS names)) : List AV) = (eS (nth names i) ++ List.flatMap eS (List.drop (i + (1 : Nat)) names)), decide ((0 : Int) ≤ (↑k : Int) ∧ (↑k : Int) < (↑names.length : Int)) = true, ((List.drop ((↑k : Int).toNat * (1 : Nat)) (List.flatMap eS names)) : List AV) = (eS (nth names k) ++ List.flatMap eS (List.drop (k + (1 : Nat)) names)), bl (!(nth l i == nth l k) == ((nth names i).toList == (nth names k).toList)) = bl (false), i64 (IntKind.i64.wrap ((↑k : Int) + (1 : Int))) = i64 ((↑k : Int) + (1 : Int)), true = true, true = true]) (by kernel_rfl) ⟨(bdT (by omega)), (by exact decide_t (by omega)), (by exact flat_nth (sz := 1) (k := i) (fun _ => rfl) (by omega)), (neF (by assumption)), (by exact decide_t (by omega)), (by exact flat_nth (sz := 1) (k := i) (fun _ => rfl) (by omega)), (by exact decide_t (by omega)), (by exact flat_nth (sz := 1) (k := k) (fun _ => rfl) (by omega)), (by exact decide_t (by omega)), (by exact flat_nth (sz := 1) (k := i) (fun _ => rfl) (by omega)), (by exact decide_t (by omega)), (by exact flat_nth (sz := 1) (k := k) (fun _ => rfl) (by omega)), (bnT (beT (by exact bb_eq h1 h2))), (intE (by exact wrap_i64 (by omega) (by omega))), rfl, rfl, trivial⟩
  · clear hP
    exact runF_ok (hs := hint [((21,2), {val := some (bl (true))}), ((23,2), {cells := some (eU (nth l i) ++ List.flatMap eU (List.drop (i + (1 : Nat)) l)), sym := true}), ((23,5), {val := some (bl (true))}), ((23,8), {cells := some (eU (nth l i) ++ List.flatMap eU (List.drop (i + (1 : Nat)) l)), sym := true}), ((23,12), {cells := some (eU (nth l k) ++ List.flatMap eU (List.drop (k + (1 : Nat)) l)), sym := true}), ((23,17), {cells := some (eS (nth names i) ++ List.flatMap eS (List.drop (i + (1 : Nat)) names)), sym := true}), ((23,21), {cells := some (eS (nth names k) ++ List.flatMap eS (List.drop (k + (1 : Nat)) names)), sym := true}), ((23,25), {val := some (bl (false))}), ((22,1), {val := some (i64 ((↑k : Int) + (1 : Int)))})]) (f := { ks := [0, 3, 4, 9, 12], l := [0] }) (ps := [bl (decide ((↑k : Int) < (↑i : Int))) = bl (true), decide ((0 : Int) ≤ (↑i : Int) ∧ (↑i : Int) < (↑l.length : Int)) = true, ((List.drop ((↑i : Int).toNat * (1 : Nat)) (List.flatMap eU l)) : List AV) = (eU (nth l i) ++ List.flatMap eU (List.drop (i + (1 : Nat)) l)), bl (nth l i != (0 : Int)) = bl (true), decide ((0 : Int) ≤ (↑i : Int) ∧ (↑i : Int) < (↑l.length : Int)) = true, ((List.drop ((↑i : Int).toNat * (1 : Nat)) (List.flatMap eU l)) : List AV) = (eU (nth l i) ++ List.flatMap eU (List.drop (i + (1 : Nat)) l)), decide ((0 : Int) ≤ (↑k : Int) ∧ (↑k : Int) < (↑l.length : Int)) = true, ((List.drop ((↑k : Int).toNat * (1 : Nat)) (List.flatMap eU l)) : List AV) = (eU (nth l k) ++ List.flatMap eU (List.drop (k + (1 : Nat)) l)), decide ((0 : Int) ≤ (↑i : Int) ∧ (↑i : Int) < (↑names.length : Int)) = true, ((List.drop ((↑i : Int).toNat * (1 : Nat)) (List.flatMap eS names)) : List AV) = (eS (nth names i) ++ List.flatMap eS (List.drop (i + (1 : Nat)) names)), decide ((0 : Int) ≤ (↑k : Int) ∧ (↑k : Int) < (↑names.length : Int)) = true, ((List.drop ((↑k : Int).toNat * (1 : Nat)) (List.flatMap eS names)) : List AV) = (eS (nth names k) ++ List.flatMap eS (List.drop (k + (1 : Nat)) names)), bl (!(nth l i == nth l k) == ((nth names i).toList == (nth names k).toList)) = bl (false), i64 (IntKind.i64.wrap ((↑k : Int) + (1 : Int))) = i64 ((↑k : Int) + (1 : Int)), true = true, true = true]) (by kernel_rfl) ⟨(bdT (by omega)), (by exact decide_t (by omega)), (by exact flat_nth (sz := 1) (k := i) (fun _ => rfl) (by omega)), (neF (by assumption)), (by exact decide_t (by omega)), (by exact flat_nth (sz := 1) (k := i) (fun _ => rfl) (by omega)), (by exact decide_t (by omega)), (by exact flat_nth (sz := 1) (k := k) (fun _ => rfl) (by omega)), (by exact decide_t (by omega)), (by exact flat_nth (sz := 1) (k := i) (fun _ => rfl) (by omega)), (by exact decide_t (by omega)), (by exact flat_nth (sz := 1) (k := k) (fun _ => rfl) (by omega)), (bnT (beT (by exact bb_ne h1 h2))), (intE (by exact wrap_i64 (by omega) (by omega))), rfl, rfl, trivial⟩
theorem pi_end (names a : List ByteArray) (l : List Int) (i : Nat) : LoopT C0 piB (piS names a l i i) (.exit 4) (piS names a l i i) := by
  exact LoopT.fin (hs := hint [((21,2), {val := some (bl (false))})]) (f := { ks := [0, 3, 4, 9, 12], l := [0] }) (ps := [bl (decide ((↑i : Int) < (↑i : Int))) = bl (false), true = true, true = true]) (by kernel_rfl) ⟨(bdF (by omega)), rfl, rfl, trivial⟩ (by decide)
theorem pi_all (names a : List ByteArray) (l : List Int) (i : Nat) (hi : i < names.length) (hn : names.length ≤ 40) (hl : l.length = names.length) (hP : ∀ k, k < i → nth l i ≠ 0 → (nth l i = nth l k ↔ nth names i = nth names k)) : LoopT C0 piB (piS names a l i 0) (.exit 4) (piS names a l i i) :=
  LoopT.count (piS names a l i) i (fun k hk => pi_step names a l i k hk hi hn hl (hP k hk)) (pi_end names a l i) 0 (by omega)
noncomputable def poB : Code := loopOf Tryd.prog 3 15
def poS (names a : List ByteArray) (l : List Int) (k : Nat) : St := ⟨mkT 118 [(0, slS names), (3, .ptr 0 0), (4, slU l), (9, i64 k)], [ptB a]⟩
theorem po_step (names a : List ByteArray) (l : List Int) (k : Nat) (hk : k < names.length) (hn : names.length ≤ 40) (hl : l.length = names.length) (hN : nth l k = 0 ∧ Pu 12 [tabA a, u32 (nth l k)] (.tup [st ⟨#[]⟩, bl false]) ∨ nth l k ≠ 0 ∧ Pu 12 [tabA a, u32 (nth l k)] (.tup [st (nth names k), bl true])) (L : LoopT C0 piB (piS names a l k 0) (.exit 4) (piS names a l k k)) : Tri C0 poB (poS names a l k) .normal (poS names a l (k + 1)) := by
  rcases hN with ⟨h0, hN⟩ | ⟨h0, hN⟩
  · exact runF_ok (hs := hint [((15,3), {val := some (bl (true))}), ((17,3), {cells := some (eU (nth l k) ++ List.flatMap eU (List.drop (k + (1 : Nat)) l)), sym := true}), ((17,5), {call := some (AV.tup [(st { data := #[] : ByteArray }), (bl false)])}), ((18,2), {cells := some (eU (nth l k) ++ List.flatMap eU (List.drop (k + (1 : Nat)) l)), sym := true}), ((18,5), {val := some (bl (false))}), ((18,20), {cells := some (eU (nth l k) ++ List.flatMap eU (List.drop (k + (1 : Nat)) l)), sym := true}), ((18,23), {val := some (bl (true))}), ((21,1000), {loop := some ({ ks := [0, 3, 4, 9, 12], l := [0] }, piS names a l k (0 : Nat), Ex.exit (4 : Nat), piS names a l k k)}), ((16,1), {val := some (i64 ((↑k : Int) + (1 : Int)))})]) (f := { ks := [0, 3, 4, 9], l := [0] }) (ps := [bl (decide ((↑k : Int) < (↑names.length : Int))) = bl (true), decide ((0 : Int) ≤ (↑k : Int) ∧ (↑k : Int) < (↑l.length : Int)) = true, ((List.drop ((↑k : Int).toNat * (1 : Nat)) (List.flatMap eU l)) : List AV) = (eU (nth l k) ++ List.flatMap eU (List.drop (k + (1 : Nat)) l)), _, decide ((0 : Int) ≤ (↑k : Int) ∧ (↑k : Int) < (↑l.length : Int)) = true, ((List.drop ((↑k : Int).toNat * (1 : Nat)) (List.flatMap eU l)) : List AV) = (eU (nth l k) ++ List.flatMap eU (List.drop (k + (1 : Nat)) l)), bl (nth l k != (0 : Int)) = bl (false), decide ((0 : Int) ≤ (↑k : Int) ∧ (↑k : Int) < (↑l.length : Int)) = true, ((List.drop ((↑k : Int).toNat * (1 : Nat)) (List.flatMap eU l)) : List AV) = (eU (nth l k) ++ List.flatMap eU (List.drop (k + (1 : Nat)) l)), bl (nth l k == (0 : Int)) = bl (true), piS names a l k (0 : Nat) = piS names a l k (0 : Nat), _, true = true, true = true, i64 (IntKind.i64.wrap ((↑k : Int) + (1 : Int))) = i64 ((↑k : Int) + (1 : Int)), true = true, true = true]) (by kernel_rfl) ⟨(bdT (by omega)), (by exact decide_t (by omega)), (by exact flat_nth (sz := 1) (k := k) (fun _ => rfl) (by omega)), (hN), (by exact decide_t (by omega)), (by exact flat_nth (sz := 1) (k := k) (fun _ => rfl) (by omega)), (neT (by assumption)), (by exact decide_t (by omega)), (by exact flat_nth (sz := 1) (k := k) (fun _ => rfl) (by omega)), (beT (by assumption)), rfl, L, rfl, rfl, (intE (by exact wrap_i64 (by omega) (by omega))), rfl, rfl, trivial⟩
  · exact runF_ok (hs := hint [((15,3), {val := some (bl (true))}), ((17,3), {cells := some (eU (nth l k) ++ List.flatMap eU (List.drop (k + (1 : Nat)) l)), sym := true}), ((17,5), {call := some (AV.tup [(st (nth names k)), (bl true)])}), ((18,2), {cells := some (eU (nth l k) ++ List.flatMap eU (List.drop (k + (1 : Nat)) l)), sym := true}), ((18,5), {val := some (bl (true))}), ((18,12), {cells := some (eS (nth names k) ++ List.flatMap eS (List.drop (k + (1 : Nat)) names)), sym := true}), ((18,17), {val := some (bl (false))}), ((18,20), {cells := some (eU (nth l k) ++ List.flatMap eU (List.drop (k + (1 : Nat)) l)), sym := true}), ((18,23), {val := some (bl (false))}), ((21,1000), {loop := some ({ ks := [0, 3, 4, 9, 12], l := [0] }, piS names a l k (0 : Nat), Ex.exit (4 : Nat), piS names a l k k)}), ((16,1), {val := some (i64 ((↑k : Int) + (1 : Int)))})]) (f := { ks := [0, 3, 4, 9], l := [0] }) (ps := [bl (decide ((↑k : Int) < (↑names.length : Int))) = bl (true), decide ((0 : Int) ≤ (↑k : Int) ∧ (↑k : Int) < (↑l.length : Int)) = true, ((List.drop ((↑k : Int).toNat * (1 : Nat)) (List.flatMap eU l)) : List AV) = (eU (nth l k) ++ List.flatMap eU (List.drop (k + (1 : Nat)) l)), _, decide ((0 : Int) ≤ (↑k : Int) ∧ (↑k : Int) < (↑l.length : Int)) = true, ((List.drop ((↑k : Int).toNat * (1 : Nat)) (List.flatMap eU l)) : List AV) = (eU (nth l k) ++ List.flatMap eU (List.drop (k + (1 : Nat)) l)), bl (nth l k != (0 : Int)) = bl (true), decide ((0 : Int) ≤ (↑k : Int) ∧ (↑k : Int) < (↑names.length : Int)) = true, ((List.drop ((↑k : Int).toNat * (1 : Nat)) (List.flatMap eS names)) : List AV) = (eS (nth names k) ++ List.flatMap eS (List.drop (k + (1 : Nat)) names)), bl (!(nth names k).toList == (nth names k).toList) = bl (false), decide ((0 : Int) ≤ (↑k : Int) ∧ (↑k : Int) < (↑l.length : Int)) = true, ((List.drop ((↑k : Int).toNat * (1 : Nat)) (List.flatMap eU l)) : List AV) = (eU (nth l k) ++ List.flatMap eU (List.drop (k + (1 : Nat)) l)), bl (nth l k == (0 : Int)) = bl (false), piS names a l k (0 : Nat) = piS names a l k (0 : Nat), _, true = true, true = true, i64 (IntKind.i64.wrap ((↑k : Int) + (1 : Int))) = i64 ((↑k : Int) + (1 : Int)), true = true, true = true]) (by kernel_rfl) ⟨(bdT (by omega)), (by exact decide_t (by omega)), (by exact flat_nth (sz := 1) (k := k) (fun _ => rfl) (by omega)), (hN), (by exact decide_t (by omega)), (by exact flat_nth (sz := 1) (k := k) (fun _ => rfl) (by omega)), (neF (by assumption)), (by exact decide_t (by omega)), (by exact flat_nth (sz := 1) (k := k) (fun _ => rfl) (by omega)), (bnT (bsT (by (simp; done)))), (by exact decide_t (by omega)), (by exact flat_nth (sz := 1) (k := k) (fun _ => rfl) (by omega)), (beF (by assumption)), rfl, L, rfl, rfl, (intE (by exact wrap_i64 (by omega) (by omega))), rfl, rfl, trivial⟩
theorem po_end (names a : List ByteArray) (l : List Int) : LoopT C0 poB (poS names a l names.length) (.exit 2) (poS names a l names.length) := by
  exact LoopT.fin (hs := hint [((15,3), {val := some (bl (false))})]) (f := { ks := [0, 3, 4, 9], l := [0] }) (ps := [bl (decide ((↑names.length : Int) < (↑names.length : Int))) = bl (false), true = true, true = true]) (by kernel_rfl) ⟨(bdF (by omega)), rfl, rfl, trivial⟩ (by decide)
theorem pureB_repl (n m f : Nat) : pureB (.arr m (replZ n [u32 0]) f) = true := by
  have e0 : (List.replicate n (0 : Int)).flatMap eU = replZ n [u32 0] := by
    unfold replZ
    induction n with
    | zero => rfl
    | succ n ih => rw [List.replicate_succ, List.flatMap_cons, ih, List.replicate_succ, List.flatten_cons]; rfl
  rw [← e0]
  exact row_pureB (fun _ => rfl) _ _ _
theorem pairs_go (names a : List ByteArray) (l : List Int) (hl : l.length = names.length) (hs : shortD names 40 = true) (L1 : LoopT C0 pqB (pqS names [] (List.replicate names.length 0) 0) (.exit 0) (pqS names a l names.length)) (L2 : LoopT C0 poB (poS names a l 0) (.exit 2) (poS names a l names.length)) : Pu 3 [slS names] (bl true) := by
  have hSh : Pu 10 [slS names, i64 40] (bl true) := by have := short_ok names 40 (by omega); rw [hs] at this; exact this
  have hn := (short_len hs).1
  have e0 : (List.replicate names.length (0 : Int)).flatMap eU = replZ names.length [u32 0] := by
    unfold replZ
    generalize names.length = n
    induction n with
    | zero => rfl
    | succ n ih => rw [List.replicate_succ, List.flatMap_cons, ih, List.replicate_succ, List.flatten_cons]; rfl
  have r1 := row_sl (sz := 1) (enc := eU) (fun _ => rfl) l names.length (names.length * 1) hl.symm (by omega)
  unfold pqS at L1
  rw [e0] at L1
  unfold poS at L2
  rw [show slU l = AV.sl names.length (((l.flatMap eU).drop 0).take (names.length * 1)) from r1.symm] at L2
  exact pure_of (hs := hint [((1,0), {call := some ((bl true))}), ((3,1), {call := some ((bl true))}), ((6,2), {sym := true}), ((8,1000), {loop := some ({ ks := [0, 3, 4, 5], l := [0, 1], mx := [0] }, { t := mkT (118 : Nat) [((0 : Nat), slS names), ((3 : Nat), AV.ptr (0 : Nat) (0 : Nat)), ((4 : Nat), AV.osl (1 : Nat) (0 : Nat) names.length (1 : Nat)), ((5 : Nat), i64 (↑(0 : Nat) : Int))], h := [ptB [], Bk.arr (names.length * (1 : Nat)) (replZ names.length [u32 (0 : Int)]) (0 : Nat)] : St }, Ex.exit (0 : Nat), { t := mkT (118 : Nat) [((0 : Nat), slS names), ((3 : Nat), AV.ptr (0 : Nat) (0 : Nat)), ((4 : Nat), AV.osl (1 : Nat) (0 : Nat) names.length (1 : Nat)), ((5 : Nat), i64 (↑names.length : Int))], h := [ptB a, Bk.arr (names.length * (1 : Nat)) (List.flatMap eU l) (0 : Nat)] : St })}), ((14,2000), { frz := [1] }), ((15,1000), {loop := some ({ ks := [0, 3, 4, 9], l := [0] }, { t := mkT (118 : Nat) [((0 : Nat), slS names), ((3 : Nat), AV.ptr (0 : Nat) (0 : Nat)), ((4 : Nat), AV.sl names.length (List.take (names.length * (1 : Nat)) (List.drop (0 : Nat) (List.flatMap eU l)))), ((9 : Nat), i64 (↑(0 : Nat) : Int))], h := [ptB a] : St }, Ex.exit (2 : Nat), { t := mkT (118 : Nat) [((0 : Nat), slS names), ((3 : Nat), AV.ptr (0 : Nat) (0 : Nat)), ((4 : Nat), AV.sl names.length (List.take (names.length * (1 : Nat)) (List.drop (0 : Nat) (List.flatMap eU l)))), ((9 : Nat), i64 (↑names.length : Int))], h := [ptB a] : St })})]) (ps := [_, _, decide ((0 : Int) ≤ (↑names.length : Int) ∧ (↑names.length : Int) ≤ (↑names.length : Int) ∧ (↑names.length : Int) * (4 : Int) ≤ (140737488355328 : Int) ∧ (↑names.length : Int) ≤ (140737488355328 : Int)) = true, { t := mkT (118 : Nat) [((0 : Nat), slS names), ((3 : Nat), AV.ptr (0 : Nat) (0 : Nat)), ((4 : Nat), AV.osl (1 : Nat) (0 : Nat) names.length (1 : Nat)), ((5 : Nat), i64 (↑(0 : Nat) : Int))], h := [ptB [], Bk.arr (names.length * (1 : Nat)) (replZ names.length [u32 (0 : Int)]) (0 : Nat)] : St } = { t := mkT (118 : Nat) [((0 : Nat), slS names), ((3 : Nat), AV.ptr (0 : Nat) (0 : Nat)), ((4 : Nat), AV.osl (1 : Nat) (0 : Nat) names.length (1 : Nat)), ((5 : Nat), i64 (↑(0 : Nat) : Int))], h := [ptB [], Bk.arr (names.length * (1 : Nat)) (replZ names.length [u32 (0 : Int)]) (0 : Nat)] : St }, _, true = true, pureB (Bk.arr ((↑names.length : Int).toNat * (1 : Nat)) (replZ (↑names.length : Int).toNat [AV.s (Value.int IntKind.u32 (0 : Int))]) (0 : Nat)) = true, pureB (Bk.arr (names.length * (1 : Nat)) (List.flatMap eU l) (0 : Nat)) = true, { t := mkT (118 : Nat) [((0 : Nat), slS names), ((3 : Nat), AV.ptr (0 : Nat) (0 : Nat)), ((4 : Nat), AV.sl names.length (List.take (names.length * (1 : Nat)) (List.drop (0 : Nat) (List.flatMap eU l)))), ((9 : Nat), i64 (↑(0 : Nat) : Int))], h := [ptB a] : St } = { t := mkT (118 : Nat) [((0 : Nat), slS names), ((3 : Nat), AV.ptr (0 : Nat) (0 : Nat)), ((4 : Nat), AV.sl names.length (List.take (names.length * (1 : Nat)) (List.drop (0 : Nat) (List.flatMap eU l)))), ((9 : Nat), i64 (↑(0 : Nat) : Int))], h := [ptB a] : St }, _, true = true, true = true]) (by kernel_rfl) ⟨(awake_ok), (hSh), (by exact decide_t (by omega)), rfl, L1, rfl, (by exact pureB_repl _ _ _), (by exact row_pureB (fun _ => rfl) _ _ _), rfl, L2, rfl, rfl, trivial⟩
theorem nth_map {α β : Type} [Inhabited α] [Inhabited β] (f : α → β) (l : List α) (k : Nat) (h : k < l.length) : nth (l.map f) k = f (nth l k) := by
  rw [nth_eq h, nth_eq (by rw [List.length_map]; exact h), List.getElem_map]
theorem pairs_ok (names : List ByteArray) : Pu 3 [slS names] (bl true) := by
  by_cases hs : shortD names 40 = true
  · have hn := (short_len hs).1
    have tz := runI_tok names [] tok0
    have lz := tz.len
    have hq := runI_len names []
    obtain ⟨z, ez⟩ : ∃ z, runI [] names = z := ⟨_, rfl⟩
    have L1 := pq_all names hn
    rw [ez] at L1 tz lz hq
    have el : (kn ++ z).length = 10 + z.length := by rw [List.length_append]; rfl
    have hat : ∀ k, k < names.length → (rightD (nth names k) = true ∧ ∃ j, j < (kn ++ z).length ∧ nth (kn ++ z) j = nth names k ∧ atD z (nth names k) = (j : Int) + 1) ∨ (rightD (nth names k) = false ∧ atD z (nth names k) = 0) := by
      intro k hk
      by_cases hr : rightD (nth names k) = true
      · left
        refine ⟨hr, ?_⟩
        have hlen := runI_len (names.take k) []
        rw [List.length_take, List.length_nil] at hlen
        have hy := intern_yes (a := runI [] (names.take k)) hr (by omega)
        obtain ⟨j, hj, e1, _⟩ := intern_there hy
        have hz : idxD (eqD (nth names k)) (kn ++ z) = some j := by
          have e2 : runI [] names = runI (runI [] (names.take (k + 1))) (names.drop (k + 1)) := by
            unfold runI
            rw [← List.foldl_append, List.take_append_drop]
          obtain ⟨b, hb⟩ := runI_pre (names.drop (k + 1)) (runI [] (names.take (k + 1)))
          rw [← ez, e2, hb, runI_snoc [] names k hk, ← List.append_assoc]
          exact idx_appS _ _ _ _ hj
        obtain ⟨p1, p2, _⟩ := idx_some hz
        exact ⟨j, p1, by simpa [eqD] using p2, at_eq _ _ hr j hz⟩
      · right
        have hr' : rightD (nth names k) = false := by simpa using hr
        exact ⟨hr', by unfold atD; rw [if_neg hr]⟩
    refine pairs_go names z _ (by rw [List.length_map]) hs L1 (LoopT.count (poS names z (names.map (atD z))) names.length (fun k hk => po_step names z _ k hk hn (by rw [List.length_map]) ?_ (pi_all names _ _ k hk hn (by rw [List.length_map]) fun j hj h0 => ?_)) (po_end names z _) 0 (by omega))
    · rw [nth_map _ _ _ hk]
      rcases hat k hk with ⟨hr, j, p1, p2, p3⟩ | ⟨hr, p3⟩
      · right
        have hN := name_ok z (by omega) ((j : Int) + 1) (by omega) (by rw [el] at p1; omega)
        rw [show nameD (kn ++ z) ((j : Int) + 1) = (nth names k, true) by
          unfold nameD
          rw [if_pos (by omega), show ((j : Int) + 1 - 1).toNat = j by omega, p2]] at hN
        rw [p3]
        exact ⟨by omega, hN⟩
      · left
        have hN := name_ok z (by omega) 0 (by omega) (by omega)
        rw [show nameD (kn ++ z) 0 = (⟨#[]⟩, false) by unfold nameD; rw [if_neg (by omega)]] at hN
        rw [p3]
        exact ⟨rfl, hN⟩
    · rw [nth_map _ _ _ hk] at h0 ⊢
      rw [nth_map _ _ _ (by omega)]
      constructor
      · intro q
        rcases hat k hk with ⟨hr, i, p1, p2, p3⟩ | ⟨hr, p3⟩
        · rcases hat j (by omega) with ⟨hr2, i2, q1, q2, q3⟩ | ⟨hr2, q3⟩
          · rw [p3, q3] at q
            rw [← p2, ← q2, show i = i2 by omega]
          · rw [q, q3] at h0; exact absurd rfl h0
        · exact absurd p3 h0
      · intro q; rw [q]
  · have hSh : Pu 10 [slS names, i64 40] (bl false) := by have := short_ok names 40 (by omega); rw [show shortD names 40 = false by simpa using hs] at this; exact this
    exact pure_of (hs := hint [((1,0), {call := some ((bl true))}), ((3,1), {call := some ((bl false))})]) (ps := [_, _]) (by kernel_rfl) ⟨(awake_ok), (hSh), trivial⟩
end Go.Proofs.YtgbpjpacmepicaaDoor
