/- The windows of what is done, as an own row; what a choice tells; Plays, Finds. By the prover of this seat. -/
import Derived.Test.YtfalaahbacdbjaaPy
set_option linter.unusedVariables false
set_option linter.unusedSimpArgs false
set_option maxRecDepth 100000
set_option maxHeartbeats 4000000
namespace Go.Proofs.Ytfalaahbacdbjaa
open Go.RowKit Go.Pm
theorem ids_own (l : List Act) (hl : l.length ≤ 1000) : Pure Try.prog G1 19 [slA l] (.osl 0 0 (idsR l).length 1) [.arr ((idsR l).length * 1) ((idsR l).flatMap eI) 0] := by
  have L := LoopT.count (fun k => idS l k (k + 1) (1 :: (l.take k).map Act.id)) l.length (fun k hk => by
    have h := id_step l k (k + 1) (1 :: (l.take k).map Act.id) hk (by omega) (by rw [List.length_cons, List.length_map, List.length_take]; omega) (Nat.le_refl _)
    have e : (1 :: (l.take k).map Act.id) ++ [(nth l k).id] = 1 :: (l.take (k + 1)).map Act.id := by
      rw [take_nth hk, List.map_append]; rfl
    rw [e] at h
    exact h) (id_end l _ _) 0 (by omega)
  unfold idsR
  simp only [List.take_zero, List.map_nil, List.take_length] at L
  have hle : (1 :: l.map Act.id).length = l.length + 1 := by rw [List.length_cons, List.length_map]
  rw [← hle] at L
  generalize (1 :: l.map Act.id) = ks at L hle ⊢
  unfold idS at L
  rw [show ([1] : List Int).flatMap eI = [u32 1] from rfl] at L
  exact (fnRun_ok (hs := hint [((3,1000), {loop := some ({ ks := [0, 3, 4], l := [0] }, { t := mkT (21 : Nat) [((0 : Nat), slA l), ((3 : Nat), AV.osl (0 : Nat) (0 : Nat) ((0 : Nat) + (1 : Nat)) (1 : Nat)), ((4 : Nat), i64 (↑(0 : Nat) : Int))], h := [Bk.arr (((0 : Nat) + (1 : Nat)) * (1 : Nat)) [u32 (1 : Int)] (0 : Nat)] : St }, Ex.exit (0 : Nat), { t := mkT (21 : Nat) [((0 : Nat), slA l), ((3 : Nat), AV.osl (0 : Nat) (0 : Nat) ks.length (1 : Nat)), ((4 : Nat), i64 (↑l.length : Int))], h := [Bk.arr (ks.length * (1 : Nat)) (List.flatMap eI ks) (0 : Nat)] : St })})]) (ps := [{ t := mkT (21 : Nat) [((0 : Nat), slA l), ((3 : Nat), AV.osl (0 : Nat) (0 : Nat) ((0 : Nat) + (1 : Nat)) (1 : Nat)), ((4 : Nat), i64 (↑(0 : Nat) : Int))], h := [Bk.arr (((0 : Nat) + (1 : Nat)) * (1 : Nat)) [u32 (1 : Int)] (0 : Nat)] : St } = { t := mkT (21 : Nat) [((0 : Nat), slA l), ((3 : Nat), AV.osl (0 : Nat) (0 : Nat) ((0 : Nat) + (1 : Nat)) (1 : Nat)), ((4 : Nat), i64 (↑(0 : Nat) : Int))], h := [Bk.arr (((0 : Nat) + (1 : Nat)) * (1 : Nat)) [u32 (1 : Int)] (0 : Nat)] : St }, _, true = true, true = true]) (by kernel_rfl) ⟨rfl, L, rfl, rfl, trivial⟩).1
theorem ids_len (l : List Act) : (idsR l).length = l.length + 1 := by unfold idsR; rw [List.length_cons, List.length_map]
theorem ids_in (l : List Act) (h : ∀ a ∈ l, AOk a) : ∀ x ∈ idsR l, 0 ≤ x ∧ x ≤ 4294967295 := by
  intro x hx
  unfold idsR at hx
  rcases List.mem_cons.1 hx with rfl | hx
  · omega
  · obtain ⟨a, ha, rfl⟩ := List.mem_map.1 hx
    exact (h a ha).2
/-! what a choice tells -/
noncomputable def ibB : Code := loopOf Try.prog 18 7
def ibS (l : List Row) (ids : List Int) (m : Int) (k j : Nat) : St := ⟨mkT 75 [(1, slR l), (2, slI ids), (3, i64 m), (4, .ptr 0 0), (9, i64 k), (10, i64 ((j : Int) + 1))], [boxA l]⟩
theorem ib_step (l : List Row) (ids : List Int) (m : Int) (k j : Nat) (v : Int) (hk : k < ids.length) (hl : ids.length ≤ 1000) (hj : j < 8) (h1 : Pu 22 [tabC l, i64 ((j : Int) + 1), u32 (nth ids k)] (i64 v)) (h2 : Pu 28 [slR l, i64 ((j : Int) + 1), u32 (nth ids k)] (i64 v)) : Tri C0 ibB (ibS l ids m k j) .normal (ibS l ids m k (j + 1)) := by
  exact runF_ok (hs := hint [((7,1), {val := some (bl (true))}), ((9,4), {cells := some (eI (nth ids k) ++ List.flatMap eI (List.drop (k + (1 : Nat)) ids)), sym := true}), ((9,6), {call := some ((i64 v))}), ((9,11), {cells := some (eI (nth ids k) ++ List.flatMap eI (List.drop (k + (1 : Nat)) ids)), sym := true}), ((9,13), {call := some ((i64 v))}), ((9,14), {val := some (bl (false))}), ((8,1), {val := some (i64 ((↑j : Int) + (1 : Int) + (1 : Int)))})]) (f := { ks := [1, 2, 3, 4, 9, 10], l := [0] }) (ps := [bl (decide ((↑j : Int) + (1 : Int) ≤ (8 : Int))) = bl (true), decide ((0 : Int) ≤ (↑k : Int) ∧ (↑k : Int) < (↑ids.length : Int)) = true, ((List.drop ((↑k : Int).toNat * (1 : Nat)) (List.flatMap eI ids)) : List AV) = (eI (nth ids k) ++ List.flatMap eI (List.drop (k + (1 : Nat)) ids)), _, decide ((0 : Int) ≤ (↑k : Int) ∧ (↑k : Int) < (↑ids.length : Int)) = true, ((List.drop ((↑k : Int).toNat * (1 : Nat)) (List.flatMap eI ids)) : List AV) = (eI (nth ids k) ++ List.flatMap eI (List.drop (k + (1 : Nat)) ids)), _, bl (v != v) = bl (false), i64 (IntKind.i64.wrap ((↑j : Int) + (1 : Int) + (1 : Int))) = i64 ((↑j : Int) + (1 : Int) + (1 : Int)), true = true, true = true]) (by kernel_rfl) ⟨(bdT (by omega)), (by exact decide_t (by omega)), (by exact flat_nth (sz := 1) (k := k) (fun _ => rfl) (by omega)), (h1), (by exact decide_t (by omega)), (by exact flat_nth (sz := 1) (k := k) (fun _ => rfl) (by omega)), (h2), (neT (by omega)), (intE (by exact wrap_i64 (by omega) (by omega))), rfl, rfl, trivial⟩
theorem ib_end (l : List Row) (ids : List Int) (m : Int) (k : Nat) : LoopT C0 ibB (ibS l ids m k 8) (.exit 2) (ibS l ids m k 8) := by
  exact LoopT.fin (hs := hint []) (f := { ks := [1, 2, 3, 4, 9, 10], l := [0] }) (ps := [true = true, true = true]) (by kernel_rfl) ⟨rfl, rfl, trivial⟩ (by decide)
noncomputable def iaB : Code := loopOf Try.prog 18 2
def iaS (l : List Row) (ids : List Int) (m : Int) (k : Nat) : St := ⟨mkT 75 [(1, slR l), (2, slI ids), (3, i64 m), (4, .ptr 0 0), (9, i64 k)], [boxA l]⟩
theorem ia_step (l : List Row) (ids w : List Int) (m v : Int) (k : Nat) (hk : k < ids.length) (hl : ids.length ≤ 1000) (L : LoopT C0 ibB (ibS l ids m k 0) (.exit 2) (ibS l ids m k 8)) (h1 : Pu 15 [tabC l, u32 (nth ids k)] (i64 v)) (h2 : Pu 28 [slR l, i64 0, u32 (nth ids k)] (i64 v)) (h3 : Pu 14 [tabC l, u32 (nth ids k), i64 m] (slJ w)) (h4 : Pu 26 [slR l, u32 (nth ids k), i64 m] (slJ w)) (h5 : Pu 13 [slJ w, slJ w] (bl true)) : Tri C0 iaB (iaS l ids m k) .normal (iaS l ids m (k + 1)) := by
  exact runF_ok (hs := hint [((2,3), {val := some (bl (true))}), ((4,3), {cells := some (eI (nth ids k) ++ List.flatMap eI (List.drop (k + (1 : Nat)) ids)), sym := true}), ((4,5), {call := some ((i64 v))}), ((4,9), {cells := some (eI (nth ids k) ++ List.flatMap eI (List.drop (k + (1 : Nat)) ids)), sym := true}), ((4,11), {call := some ((i64 v))}), ((4,13), {val := some (bl (false))}), ((4,17), {cells := some (eI (nth ids k) ++ List.flatMap eI (List.drop (k + (1 : Nat)) ids)), sym := true}), ((4,20), {call := some ((slJ w))}), ((4,24), {cells := some (eI (nth ids k) ++ List.flatMap eI (List.drop (k + (1 : Nat)) ids)), sym := true}), ((4,27), {call := some ((slJ w))}), ((4,28), {call := some ((bl true))}), ((7,1000), {loop := some ({ ks := [1, 2, 3, 4, 9, 10], l := [0] }, ibS l ids m k (0 : Nat), Ex.exit (2 : Nat), ibS l ids m k (8 : Nat))}), ((3,1), {val := some (i64 ((↑k : Int) + (1 : Int)))})]) (f := { ks := [1, 2, 3, 4, 9], l := [0] }) (ps := [bl (decide ((↑k : Int) < (↑ids.length : Int))) = bl (true), decide ((0 : Int) ≤ (↑k : Int) ∧ (↑k : Int) < (↑ids.length : Int)) = true, ((List.drop ((↑k : Int).toNat * (1 : Nat)) (List.flatMap eI ids)) : List AV) = (eI (nth ids k) ++ List.flatMap eI (List.drop (k + (1 : Nat)) ids)), _, decide ((0 : Int) ≤ (↑k : Int) ∧ (↑k : Int) < (↑ids.length : Int)) = true, ((List.drop ((↑k : Int).toNat * (1 : Nat)) (List.flatMap eI ids)) : List AV) = (eI (nth ids k) ++ List.flatMap eI (List.drop (k + (1 : Nat)) ids)), _, bl (v != v) = bl (false), decide ((0 : Int) ≤ (↑k : Int) ∧ (↑k : Int) < (↑ids.length : Int)) = true, ((List.drop ((↑k : Int).toNat * (1 : Nat)) (List.flatMap eI ids)) : List AV) = (eI (nth ids k) ++ List.flatMap eI (List.drop (k + (1 : Nat)) ids)), _, decide ((0 : Int) ≤ (↑k : Int) ∧ (↑k : Int) < (↑ids.length : Int)) = true, ((List.drop ((↑k : Int).toNat * (1 : Nat)) (List.flatMap eI ids)) : List AV) = (eI (nth ids k) ++ List.flatMap eI (List.drop (k + (1 : Nat)) ids)), _, _, ibS l ids m k (0 : Nat) = ibS l ids m k (0 : Nat), _, true = true, true = true, i64 (IntKind.i64.wrap ((↑k : Int) + (1 : Int))) = i64 ((↑k : Int) + (1 : Int)), true = true, true = true]) (by kernel_rfl) ⟨(bdT (by omega)), (by exact decide_t (by omega)), (by exact flat_nth (sz := 1) (k := k) (fun _ => rfl) (by omega)), (h1), (by exact decide_t (by omega)), (by exact flat_nth (sz := 1) (k := k) (fun _ => rfl) (by omega)), (h2), (neT (by omega)), (by exact decide_t (by omega)), (by exact flat_nth (sz := 1) (k := k) (fun _ => rfl) (by omega)), (h3), (by exact decide_t (by omega)), (by exact flat_nth (sz := 1) (k := k) (fun _ => rfl) (by omega)), (h4), (h5), rfl, L, rfl, rfl, (intE (by exact wrap_i64 (by omega) (by omega))), rfl, rfl, trivial⟩
theorem ia_end (l : List Row) (ids : List Int) (m : Int) : LoopT C0 iaB (iaS l ids m ids.length) (.exit 0) (iaS l ids m ids.length) := by
  exact LoopT.fin (hs := hint [((2,3), {val := some (bl (false))})]) (f := { ks := [1, 2, 3, 4, 9], l := [0] }) (ps := [bl (decide ((↑ids.length : Int) < (↑ids.length : Int))) = bl (false), true = true, true = true]) (by kernel_rfl) ⟨(bdF (by omega)), rfl, rfl, trivial⟩ (by decide)
theorem is_ok (l : List Row) (h : LOk l) (ids : List Int) (hi : ∀ x ∈ ids, 0 ≤ x ∧ x ≤ 4294967295) (hl : ids.length ≤ 1000) (m : Int) : Pu 18 [tabC l, slR l, slI ids, i64 m] (bl true) := by
  have hm : ∀ r ∈ l, r.m ≤ 8191 := fun r hr => (h.row r hr).2.2.2.2
  have hL := h.len
  have L := LoopT.count (iaS l ids m) ids.length (fun k hk => by
    have hn := hi _ (nth_mem hk)
    have L1 := LoopT.count (ibS l ids m k) 8 (fun j hj => ib_step l ids m k j _ hk hl hj (pmask_ok l h ((j : Int) + 1) (nth ids k) (by omega) (by omega) (by omega) hn.1 hn.2) (mask_ok l ((j : Int) + 1) (nth ids k) (by omega))) (ib_end l ids m k) 0 (by omega)
    exact ia_step l ids _ m _ k hk hl L1 (stopped_ok l h _ hn.1 hn.2) (mask_ok l 0 _ (by omega)) (pwho_ok l h _ m hn.1 hn.2) (rwho_ok l hm (by omega) _ m) (same_ok _ (by have := who_len l (nth ids k) (mN m); omega))) (ia_end l ids m) 0 (by omega)
  have h1 := pmask_0 l h 1 (by omega) (by omega)
  have h2 := pmask_ok l h 9 1 (by omega) (by omega) (by omega) (by omega) (by omega)
  rw [show maskR l 9 1 = 0 from by
    unfold maskR
    cases hk : idxD (isR 9 1) l with
    | none => rfl
    | some k =>
      obtain ⟨p, q, _⟩ := idx_some hk
      have := (h.row _ (nth_mem p)).2.1
      simp only [isR, Bool.and_eq_true, decide_eq_true_eq] at q
      omega] at h2
  exact pure_of (hs := hint [((2,1000), {loop := some ({ ks := [1, 2, 3, 4, 9], l := [0] }, iaS l ids m (0 : Nat), Ex.exit (0 : Nat), iaS l ids m ids.length)}), ((11,1), {call := some ((i64 (0 : Int)))}), ((11,5), {call := some ((i64 (↑(0 : Nat) : Int)))})]) (ps := [iaS l ids m (0 : Nat) = iaS l ids m (0 : Nat), _, true = true, true = true, _, _]) (by kernel_rfl) ⟨rfl, L, rfl, rfl, (h1), (h2), trivial⟩
/-! Plays -/
theorem plays_ok (acts : List Act) (ha : ∀ a ∈ acts, AOk a) (m : Int) : Pu 6 [slA acts, i64 m] (bl true) := by
  by_cases hl : acts.length ≤ 40
  · have hP := played_ok acts ha hl
    obtain ⟨q1, q2⟩ := run_ok acts ha hl
    have hI := ids_ok acts (by omega)
    have hS := is_ok _ q1 (idsR acts) (ids_in acts ha) (by rw [ids_len]; omega) m
    generalize runR acts = l at hP hS
    exact pure_of (hs := hint [((1,0), {call := some ((bl true))}), ((3,2), {val := some (bl (false))}), ((5,1), {call := some ((playA l))}), ((6,5), {call := some ((slI (idsR acts)))}), ((6,7), {call := some ((bl true))})]) (ps := [_, bl (decide ((↑acts.length : Int) > (40 : Int))) = bl (false), _, _, _]) (by kernel_rfl) ⟨(awake_ok), (bdF (by omega)), (hP), (hI), (hS), trivial⟩
  · exact pure_of (hs := hint [((1,0), {call := some ((bl true))}), ((3,2), {val := some (bl (true))})]) (ps := [_, bl (decide ((↑acts.length : Int) > (40 : Int))) = bl (true)]) (by kernel_rfl) ⟨(awake_ok), (bdT (by omega)), trivial⟩
/-! Finds -/
theorem find_len (l : List Row) (path : List Int) (n : Nat) : (findR l path n).2.length ≤ 8 := by
  unfold findR
  cases idxD (hitF l n) path with
  | none => exact Nat.zero_le _
  | some k =>
    show (if _ then _ else _ : Int × List Int).2.length ≤ 8
    split
    · exact who_len _ _ _
    · exact Nat.zero_le _
theorem finds_ok (acts : List Act) (ha : ∀ a ∈ acts, AOk a) (path : List Int) (hi : ∀ x ∈ path, 0 ≤ x ∧ x ≤ 4294967295) (m : Int) : Pu 3 [slA acts, slI path, i64 m] (bl true) := by
  by_cases hl : acts.length ≤ 40
  · by_cases hp : path.length ≤ 40
    · have hP := played_ok acts ha hl
      obtain ⟨q1, q2⟩ := run_ok acts ha hl
      have hm : ∀ r ∈ runR acts, r.m ≤ 8191 := fun r hr => (q1.row r hr).2.2.2.2
      have hA := pfind_ok _ q1 path hi (by omega) m
      have hR := rfind_ok _ hm (by omega) path (by omega) m
      have hS := same_ok _ (show (findR (runR acts) path (mN m)).2.length ≤ 1000000 from by have := find_len (runR acts) path (mN m); omega)
      generalize findR (runR acts) path (mN m) = z at hA hR hS
      obtain ⟨z1, z2⟩ := z
      generalize runR acts = l at *
      exact pure_of (hs := hint [((1,0), {call := some ((bl true))}), ((3,3), {val := some (bl (false))}), ((3,7), {val := some (bl (false))}), ((5,1), {call := some ((playA l))}), ((6,3), {call := some (AV.tup [(u32 z1), (slJ z2)])}), ((7,3), {call := some (AV.tup [(u32 z1), (slJ z2)])}), ((8,3), {val := some (bl (true))}), ((8,6), {call := some ((bl true))})]) (ps := [_, bl (decide ((↑acts.length : Int) > (40 : Int))) = bl (false), bl (decide ((↑path.length : Int) > (40 : Int))) = bl (false), _, _, _, bl (z1 == z1) = bl (true), _]) (by kernel_rfl) ⟨(awake_ok), (bdF (by omega)), (bdF (by omega)), (hP), (hA), (hR), (beT (by omega)), (hS), trivial⟩
    · exact pure_of (hs := hint [((1,0), {call := some ((bl true))}), ((3,3), {val := some (bl (false))}), ((3,7), {val := some (bl (true))})]) (ps := [_, bl (decide ((↑acts.length : Int) > (40 : Int))) = bl (false), bl (decide ((↑path.length : Int) > (40 : Int))) = bl (true)]) (by kernel_rfl) ⟨(awake_ok), (bdF (by omega)), (bdT (by omega)), trivial⟩
  · exact pure_of (hs := hint [((1,0), {call := some ((bl true))}), ((3,3), {val := some (bl (true))})]) (ps := [_, bl (decide ((↑acts.length : Int) > (40 : Int))) = bl (true)]) (by kernel_rfl) ⟨(awake_ok), (bdT (by omega)), trivial⟩
end Go.Proofs.Ytfalaahbacdbjaa
