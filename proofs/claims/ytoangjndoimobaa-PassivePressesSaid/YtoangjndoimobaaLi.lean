/- The laws Full and Gone. By the prover of this seat. -/
import Derived.Test.YtoangjndoimobaaLh
set_option linter.unusedVariables false
set_option linter.unusedSimpArgs false
set_option maxRecDepth 100000
set_option maxHeartbeats 4000000
namespace Go.Proofs.Ytoangjndoimobaa
open Go.RowKit Go.Pm
theorem idx_none_of {α : Type} {p : α → Bool} {l : List α} (h : ∀ x ∈ l, ¬ p x = true) : idxD p l = none := by
  have e := idx_isSome p l
  have : l.any p = false := List.any_eq_false.2 fun x hx => by simpa using h x hx
  rw [this] at e
  cases hi : idxD p l with
  | none => rfl
  | some k => rw [hi] at e; cases e
/-! Full -/
def frG (m : Int) (i : Nat) : Grab := ⟨1 + (i : Int) % 3, 100 + (i : Int), false, 5, m, false, 0, 0, 0⟩
def frT (m : Int) (k : Nat) : List Grab := (List.range (min k 256)).map (frG m)
theorem fr_check (m : Int) (h0 : 0 ≤ m) (h1 : m ≤ 255) (i : Nat) : checkD (frG m i) = 0 := by
  unfold checkD frG lastD
  simp only [Bool.false_eq_true, if_false]
  rw [if_neg (by omega), if_neg (by omega), if_neg (by omega), if_neg (by omega), if_neg (by omega), if_neg (by omega)]
theorem fr_len (m : Int) (k : Nat) : (frT m k).length = min k 256 := by rw [frT, List.length_map, List.length_range]
theorem fr_mem {m : Int} {k : Nat} {x : Grab} (h : x ∈ frT m k) : ∃ i, i < k ∧ i < 256 ∧ x = frG m i := by
  obtain ⟨i, hi, rfl⟩ := List.mem_map.1 h
  rw [List.mem_range] at hi
  exact ⟨i, by omega, by omega, rfl⟩
theorem fr_add (m : Int) (h0 : 0 ≤ m) (h1 : m ≤ 255) (k : Nat) : addP (frT m k) (frG m k) = if k < 256 then (frT m (k + 1), 0) else (frT m (k + 1), 12) := by
  have n1 : idxD (otherD (frG m k)) (frT m k) = none := idx_none_of fun x hx => by
    obtain ⟨i, hi, _, rfl⟩ := fr_mem hx
    simp only [otherD, meetD, frG, Bool.and_eq_true, decide_eq_true_eq]
    omega
  have n2 : idxD (fun x => alikeD x (frG m k)) (frT m k) = none := idx_none_of fun x hx => by
    obtain ⟨i, hi, _, rfl⟩ := fr_mem hx
    simp only [alikeD, frG, decide_eq_true_eq]
    omega
  unfold addP
  simp only [fr_check m h0 h1, not_true_eq_false, if_false, n1, n2, Option.isSome_none, Bool.false_eq_true, fr_len]
  by_cases hk : k < 256
  · rw [if_neg (by omega), if_pos hk, frT, frT, show min k 256 = k by omega, show min (k + 1) 256 = k + 1 by omega, List.range_succ, List.map_append]; rfl
  · rw [if_pos (by omega), if_neg hk, frT, frT, show min k 256 = 256 by omega, show min (k + 1) 256 = 256 by omega]
noncomputable def fuBody : Code := loopOf Try.prog 6 3
def fuSt (m : Int) (T : List Grab) (k : Nat) : St := ⟨mkT 73 [(0, u8 m), (3, .ptr 0 0), (4, i64 k)], [.arr 1 [slG T] 0]⟩
theorem fu_step1 (m : Int) (h0 : 0 ≤ m) (h1 : m ≤ 255) (T T' : List Grab) (k : Nat) (hk : k < 256) (hl : T.length ≤ 256) (ha : addP T ⟨1 + (k : Int) % 3, 100 + (k : Int), false, 5, m, false, 0, 0, 0⟩ = (T', 0)) : Tri C0 fuBody (fuSt m T k) .normal (fuSt m T' (k + 1)) := by
  have hx := add_ok T ⟨1 + (k : Int) % 3, 100 + (k : Int), false, 5, m, false, 0, 0, 0⟩ hl
  rw [ha] at hx
  exact runF_ok (hs := hint [((3,1), {val := some (bl (true))}), ((5,2), {val := some (i64 ((↑k : Int) % (3 : Int)))}), ((5,3), {val := some (i64 ((1 : Int) + (↑k : Int) % (3 : Int)))}), ((5,5), {val := some (i64 ((100 : Int) + (↑k : Int)))}), ((5,6), {val := some (u32 ((100 : Int) + (↑k : Int)))}), ((5,8), {val := some (i64 (m))}), ((5,10), {call := some (tabR (T', (0 : Int)))}), ((6,5), {val := some (bl (false))}), ((6,8), {val := some (bl (false))}), ((4,1), {val := some (i64 ((↑k : Int) + (1 : Int)))})]) (f := { ks := [0, 3, 4], l := [0] }) (ps := [bl (decide ((↑k : Int) < (260 : Int))) = bl (true), i64 ((↑k : Int).tmod (3 : Int)) = i64 ((↑k : Int) % (3 : Int)), i64 (IntKind.i64.wrap ((1 : Int) + (↑k : Int) % (3 : Int))) = i64 ((1 : Int) + (↑k : Int) % (3 : Int)), i64 (IntKind.i64.wrap ((100 : Int) + (↑k : Int))) = i64 ((100 : Int) + (↑k : Int)), u32 (IntKind.u32.wrap ((100 : Int) + (↑k : Int))) = u32 ((100 : Int) + (↑k : Int)), i64 (IntKind.i64.wrap m) = i64 (m), _, bl (!true == decide ((↑k : Int) < (256 : Int))) = bl (false), bl (decide ((↑k : Int) ≥ (256 : Int))) = bl (false), i64 (IntKind.i64.wrap ((↑k : Int) + (1 : Int))) = i64 ((↑k : Int) + (1 : Int)), true = true, true = true]) (by kernel_rfl) ⟨(bdT (by omega)), (intE (Int.tmod_eq_emod_of_nonneg (by omega))), (intE (by exact wrap_i64 (by omega) (by omega))), (intE (by exact wrap_i64 (by omega) (by omega))), (intE (by exact wrap_u32 (by omega) (by omega))), (intE (by exact wrap_i64 (by omega) (by omega))), (hx), (bnT (beT (by (simp; omega)))), (bdF (by omega)), (intE (by exact wrap_i64 (by omega) (by omega))), rfl, rfl, trivial⟩
theorem fu_step2 (m : Int) (h0 : 0 ≤ m) (h1 : m ≤ 255) (T T' : List Grab) (k : Nat) (hk : ¬ k < 256) (hk2 : k < 260) (hl : T.length ≤ 256) (ha : addP T ⟨1 + (k : Int) % 3, 100 + (k : Int), false, 5, m, false, 0, 0, 0⟩ = (T', 12)) : Tri C0 fuBody (fuSt m T k) .normal (fuSt m T' (k + 1)) := by
  have hx := add_ok T ⟨1 + (k : Int) % 3, 100 + (k : Int), false, 5, m, false, 0, 0, 0⟩ hl
  rw [ha] at hx
  exact runF_ok (hs := hint [((3,1), {val := some (bl (true))}), ((5,2), {val := some (i64 ((↑k : Int) % (3 : Int)))}), ((5,3), {val := some (i64 ((1 : Int) + (↑k : Int) % (3 : Int)))}), ((5,5), {val := some (i64 ((100 : Int) + (↑k : Int)))}), ((5,6), {val := some (u32 ((100 : Int) + (↑k : Int)))}), ((5,8), {val := some (i64 (m))}), ((5,10), {call := some (tabR (T', (12 : Int)))}), ((6,5), {val := some (bl (false))}), ((6,8), {val := some (bl (true))}), ((4,1), {val := some (i64 ((↑k : Int) + (1 : Int)))})]) (f := { ks := [0, 3, 4], l := [0] }) (ps := [bl (decide ((↑k : Int) < (260 : Int))) = bl (true), i64 ((↑k : Int).tmod (3 : Int)) = i64 ((↑k : Int) % (3 : Int)), i64 (IntKind.i64.wrap ((1 : Int) + (↑k : Int) % (3 : Int))) = i64 ((1 : Int) + (↑k : Int) % (3 : Int)), i64 (IntKind.i64.wrap ((100 : Int) + (↑k : Int))) = i64 ((100 : Int) + (↑k : Int)), u32 (IntKind.u32.wrap ((100 : Int) + (↑k : Int))) = u32 ((100 : Int) + (↑k : Int)), i64 (IntKind.i64.wrap m) = i64 (m), _, bl (!false == decide ((↑k : Int) < (256 : Int))) = bl (false), bl (decide ((↑k : Int) ≥ (256 : Int))) = bl (true), i64 (IntKind.i64.wrap ((↑k : Int) + (1 : Int))) = i64 ((↑k : Int) + (1 : Int)), true = true, true = true]) (by kernel_rfl) ⟨(bdT (by omega)), (intE (Int.tmod_eq_emod_of_nonneg (by omega))), (intE (by exact wrap_i64 (by omega) (by omega))), (intE (by exact wrap_i64 (by omega) (by omega))), (intE (by exact wrap_u32 (by omega) (by omega))), (intE (by exact wrap_i64 (by omega) (by omega))), (hx), (bnT (beT (by (simp; omega)))), (bdT (by omega)), (intE (by exact wrap_i64 (by omega) (by omega))), rfl, rfl, trivial⟩
theorem fu_end (m : Int) (T : List Grab) (k : Nat) (hk : k = 260) : LoopT C0 fuBody (fuSt m T k) (.exit 0) (fuSt m T k) := by
  exact LoopT.fin (hs := hint [((3,1), {val := some (bl (false))})]) (f := { ks := [0, 3, 4], l := [0] }) (ps := [bl (decide ((↑k : Int) < (260 : Int))) = bl (false), true = true, true = true]) (by kernel_rfl) ⟨(bdF (by omega)), rfl, rfl, trivial⟩ (by decide)
def frL (m : Int) : Grab := ⟨1, 100, false, 5, m, true, 0, 0, 0⟩
theorem fr_last (m : Int) (h0 : 0 ≤ m) (h1 : m ≤ 255) : addP (frT m 260) ⟨1, 100, false, 5, m, true, 0, 0, 0⟩ = ((frT m 260).set 0 (frL m), 0) := by
  have c : checkD (frL m) = 0 := fr_check m h0 h1 0
  have n1 : idxD (otherD (frL m)) (frT m 260) = none := idx_none_of fun x hx => by
    obtain ⟨i, hi, _, rfl⟩ := fr_mem hx
    simp only [otherD, meetD, frG, frL, Bool.and_eq_true, decide_eq_true_eq]
    rintro ⟨q1, q2, _⟩
    have : i = 0 := by omega
    subst this
    exact (of_decide_eq_true q1) rfl
  have n2 : idxD (fun x => alikeD x (frL m)) (frT m 260) = some 0 := by
    rw [frT, show min 260 256 = 255 + 1 by rfl, List.range_succ_eq_map, List.map_cons, idxD, if_pos (by simp [alikeD, frG, frL])]
  show addP (frT m 260) (frL m) = _
  unfold addP
  simp only [c, not_true_eq_false, if_false, n1, n2, Option.isSome_none, Bool.false_eq_true]
theorem full_ok (m : Int) (h0 : 0 ≤ m) (h1 : m ≤ 255) : Pu 6 [u8 m] (bl true) := by
  have L := LoopT.count (fun k => fuSt m (frT m k) k) 260 (fun k hk => by
    have ha := fr_add m h0 h1 k
    have hl : (frT m k).length ≤ 256 := by rw [fr_len]; omega
    by_cases hk2 : k < 256
    · rw [if_pos hk2] at ha; exact fu_step1 m h0 h1 _ _ k hk2 hl ha
    · rw [if_neg hk2] at ha; exact fu_step2 m h0 h1 _ _ k hk2 hk hl ha) (fu_end m _ _ rfl) 0 (by omega)
  rw [show frT m 0 = [] from rfl] at L
  have hx := add_ok (frT m 260) ⟨1, 100, false, 5, m, true, 0, 0, 0⟩ (by rw [fr_len]; omega)
  rw [fr_last m h0 h1] at hx
  have hlen : ((frT m 260).set 0 (frL m)).length = 256 := by rw [List.length_set, fr_len]; omega
  have hown : (nth ((frT m 260).set 0 (frL m)) 0).owner = true := by
    rw [nth_eq (by omega), List.getElem_set_self]; rfl
  generalize (frT m 260).set 0 (frL m) = l at hx hlen hown
  generalize frT m 260 = T at hx L
  exact pure_of (hs := hint [((3,1000), {loop := some ({ ks := [0, 3, 4], l := [0], mx := [0] }, fuSt m [] (0 : Nat), Ex.exit (0 : Nat), fuSt m T (260 : Nat))}), ((9,2), {val := some (i64 (m))}), ((9,4), {call := some (tabR (l, (0 : Int)))}), ((10,4), {call := some (slG l)}), ((10,8), {val := some (bl (true))}), ((10,10), {call := some (slG l)}), ((10,14), {val := some (bl (true))}), ((10,16), {call := some (slG l)}), ((10,17), {cells := some (grabL (nth l (0 : Nat)) ++ List.flatMap grabL (List.drop ((0 : Nat) + (1 : Nat)) l)), sym := true}), ((10,21), {val := some (bl (true))}), ((10,22), {call := some (bl true)})]) (ps := [fuSt m [] (0 : Nat) = fuSt m [] (0 : Nat), _, true = true, i64 (IntKind.i64.wrap m) = i64 (m), _, _, bl ((↑l.length : Int) == (256 : Int)) = bl (true), _, bl (decide ((↑l.length : Int) > (0 : Int))) = bl (true), _, decide ((0 : Int) ≤ (0 : Int) ∧ (0 : Int) < (↑l.length : Int)) = true, ((List.drop (0 : Nat) (List.flatMap grabL l)) : List AV) = (grabL (nth l (0 : Nat)) ++ List.flatMap grabL (List.drop ((0 : Nat) + (1 : Nat)) l)), bl ((nth l (0 : Nat)).owner) = bl (true), _]) (by kernel_rfl) ⟨rfl, L, rfl, (intE (by exact wrap_i64 (by omega) (by omega))), (hx), (all_ok (l) (by omega)), (beT (by omega)), (all_ok (l) (by omega)), (bdT (by omega)), (all_ok (l) (by omega)), (by exact decide_t (by omega)), (by exact flat_nth (sz := 9) (k := (0 : Nat)) (fun _ => rfl) (by omega)), (bvT (by assumption)), (awake_ok), trivial⟩
/-! Gone -/
noncomputable def gn2Body : Code := loopOf Try.prog 9 14
def gn2St (l b : List Grab) (client : Int) (ids : List Int) (n k : Nat) (g : Bool) (j : Nat) : St := ⟨mkT 108 [(1, i64 client), (2, slU ids), (10, .ptr 0 0), (11, slG l), (12, slG b), (13, i64 n), (14, i64 k), (15, bl g), (16, i64 j)], [.arr 1 [slG b] 0]⟩
theorem gn2_step (l b : List Grab) (client : Int) (ids : List Int) (n k : Nat) (g : Bool) (j : Nat) (hj : j < ids.length) (hi : ids.length ≤ 1000000) (hk : k < l.length) (hl : l.length ≤ 1000000) : Tri C0 gn2Body (gn2St l b client ids n k g j) .normal (gn2St l b client ids n k (g || decide (nth ids j = (nth l k).window)) (j + 1)) := by
  cases g
  · exact runF_ok (hs := hint [((14,3), {val := some (bl (true))}), ((16,4), {cells := some (eU (nth ids j) ++ List.flatMap eU (List.drop (j + (1 : Nat)) ids)), sym := true}), ((16,8), {cells := some (grabL (nth l k) ++ List.flatMap grabL (List.drop (k + (1 : Nat)) l)), sym := true}), ((15,1), {val := some (i64 ((↑j : Int) + (1 : Int)))})]) (f := { ks := [1, 2, 10, 11, 12, 13, 14, 15, 16], l := [0] }) (ps := [bl (decide ((↑j : Int) < (↑ids.length : Int))) = bl (true), decide ((0 : Int) ≤ (↑j : Int) ∧ (↑j : Int) < (↑ids.length : Int)) = true, ((List.drop ((↑j : Int).toNat * (1 : Nat)) (List.flatMap eU ids)) : List AV) = (eU (nth ids j) ++ List.flatMap eU (List.drop (j + (1 : Nat)) ids)), decide ((0 : Int) ≤ (↑k : Int) ∧ (↑k : Int) < (↑l.length : Int)) = true, ((List.drop ((↑k : Int).toNat * (9 : Nat)) (List.flatMap grabL l)) : List AV) = (grabL (nth l k) ++ List.flatMap grabL (List.drop (k + (1 : Nat)) l)), i64 (IntKind.i64.wrap ((↑j : Int) + (1 : Int))) = i64 ((↑j : Int) + (1 : Int)), true = true, true = true]) (by kernel_rfl) ⟨(bdT (by omega)), (by exact decide_t (by omega)), (by exact flat_nth (sz := 1) (k := j) (fun _ => rfl) (by omega)), (by exact decide_t (by omega)), (by exact flat_nth (sz := 9) (k := k) (fun _ => rfl) (by omega)), (intE (by exact wrap_i64 (by omega) (by omega))), rfl, rfl, trivial⟩
  · exact runF_ok (hs := hint [((14,3), {val := some (bl (true))}), ((15,1), {val := some (i64 ((↑j : Int) + (1 : Int)))})]) (f := { ks := [1, 2, 10, 11, 12, 13, 14, 15, 16], l := [0] }) (ps := [bl (decide ((↑j : Int) < (↑ids.length : Int))) = bl (true), i64 (IntKind.i64.wrap ((↑j : Int) + (1 : Int))) = i64 ((↑j : Int) + (1 : Int)), true = true, true = true]) (by kernel_rfl) ⟨(bdT (by omega)), (intE (by exact wrap_i64 (by omega) (by omega))), rfl, rfl, trivial⟩
theorem gn2_end (l b : List Grab) (client : Int) (ids : List Int) (n k : Nat) (g : Bool) : LoopT C0 gn2Body (gn2St l b client ids n k g ids.length) (.exit 2) (gn2St l b client ids n k g ids.length) := by
  exact LoopT.fin (hs := hint [((14,3), {val := some (bl (false))})]) (f := { ks := [1, 2, 10, 11, 12, 13, 14, 15, 16], l := [0] }) (ps := [bl (decide ((↑ids.length : Int) < (↑ids.length : Int))) = bl (false), true = true, true = true]) (by kernel_rfl) ⟨(bdF (by omega)), rfl, rfl, trivial⟩ (by decide)
theorem gn2_all (l b : List Grab) (client : Int) (ids : List Int) (n k : Nat) (g : Bool) (hi : ids.length ≤ 1000000) (hk : k < l.length) (hl : l.length ≤ 1000000) : LoopT C0 gn2Body (gn2St l b client ids n k g 0) (.exit 2) (gn2St l b client ids n k (g || inD ids (nth l k).window) ids.length) := by
  have L := LoopT.count (fun j => gn2St l b client ids n k (g || (ids.take j).any fun x => decide (x = (nth l k).window)) j) ids.length (fun j hj => by
    simp only [take_nth hj, List.any_append, List.any_cons, List.any_nil, Bool.or_false, ← Bool.or_assoc]
    exact gn2_step l b client ids n k _ j hj hi hk hl) (gn2_end l b client ids n k _) 0 (by omega)
  simpa [inD_any] using L
noncomputable def gnBody : Code := loopOf Try.prog 9 10
def gnSt (l b : List Grab) (client : Int) (ids : List Int) (n k : Nat) : St := ⟨mkT 108 [(1, i64 client), (2, slU ids), (10, .ptr 0 0), (11, slG l), (12, slG b), (13, i64 n), (14, i64 k)], [.arr 1 [slG b] 0]⟩
theorem gn_keep (l b : List Grab) (client : Int) (ids : List Int) (n k : Nat) (hi : ids.length ≤ 1000000) (hk : k < l.length) (hl : l.length ≤ 1000000) (hn : n < b.length) (hb : b.length ≤ 1000000) (he : nth b n = nth l k) (hp : ¬ leaveD client ids (nth l k) = true) : Tri C0 gnBody (gnSt l b client ids n k) .normal (gnSt l b client ids (n + 1) (k + 1)) := by
  have L := gn2_all l b client ids n k (decide ((nth l k).client = client)) hi hk hl
  have hp' : leaveD client ids (nth l k) = false := by simpa using hp
  rw [show (decide ((nth l k).client = client) || inD ids (nth l k).window) = false from hp'] at L
  exact runF_ok (hs := hint [((10,3), {val := some (bl (true))}), ((12,2), {cells := some (grabL (nth l k) ++ List.flatMap grabL (List.drop (k + (1 : Nat)) l)), sym := true}), ((12,6), { val := some (bl (decide ((nth l k).client = client))) }), ((14,1000), {loop := some ({ ks := [1, 2, 10, 11, 12, 13, 14, 15, 16], l := [0] }, gn2St l b client ids n k (decide ((nth l k).client = client)) (0 : Nat), Ex.exit (2 : Nat), gn2St l b client ids n k false ids.length)}), ((18,4), {val := some (bl (false))}), ((18,7), {cells := some (grabL (nth b n) ++ List.flatMap grabL (List.drop (n + (1 : Nat)) b)), sym := true}), ((18,11), {cells := some (grabL (nth l k) ++ List.flatMap grabL (List.drop (k + (1 : Nat)) l)), sym := true}), ((18,14), {val := some (bl (false))}), ((20,1), {val := some (i64 ((↑n : Int) + (1 : Int)))}), ((11,1), {val := some (i64 ((↑k : Int) + (1 : Int)))})]) (f := { ks := [1, 2, 10, 11, 12, 13, 14], l := [0] }) (ps := [bl (decide ((↑k : Int) < (↑l.length : Int))) = bl (true), decide ((0 : Int) ≤ (↑k : Int) ∧ (↑k : Int) < (↑l.length : Int)) = true, ((List.drop ((↑k : Int).toNat * (9 : Nat)) (List.flatMap grabL l)) : List AV) = (grabL (nth l k) ++ List.flatMap grabL (List.drop (k + (1 : Nat)) l)), bl ((nth l k).client == client) = bl (decide ((nth l k).client = client)), gn2St l b client ids n k (decide ((nth l k).client = client)) (0 : Nat) = gn2St l b client ids n k (decide ((nth l k).client = client)) (0 : Nat), _, true = true, true = true, bl (decide ((↑n : Int) ≥ (↑b.length : Int))) = bl (false), decide ((0 : Int) ≤ (↑n : Int) ∧ (↑n : Int) < (↑b.length : Int)) = true, ((List.drop ((↑n : Int).toNat * (9 : Nat)) (List.flatMap grabL b)) : List AV) = (grabL (nth b n) ++ List.flatMap grabL (List.drop (n + (1 : Nat)) b)), decide ((0 : Int) ≤ (↑k : Int) ∧ (↑k : Int) < (↑l.length : Int)) = true, ((List.drop ((↑k : Int).toNat * (9 : Nat)) (List.flatMap grabL l)) : List AV) = (grabL (nth l k) ++ List.flatMap grabL (List.drop (k + (1 : Nat)) l)), bl (!((nth b n).client == (nth l k).client && ((nth b n).window == (nth l k).window && ((nth b n).button == (nth l k).button && ((nth b n).code == (nth l k).code && ((nth b n).mods == (nth l k).mods && ((nth b n).owner == (nth l k).owner && ((nth b n).mask == (nth l k).mask && ((nth b n).pointer == (nth l k).pointer && ((nth b n).keyboard == (nth l k).keyboard && true)))))))))) = bl (false), i64 (IntKind.i64.wrap ((↑n : Int) + (1 : Int))) = i64 ((↑n : Int) + (1 : Int)), i64 (IntKind.i64.wrap ((↑k : Int) + (1 : Int))) = i64 ((↑k : Int) + (1 : Int)), true = true, true = true]) (by kernel_rfl) ⟨(bdT (by omega)), (by exact decide_t (by omega)), (by exact flat_nth (sz := 9) (k := k) (fun _ => rfl) (by omega)), (by exact beq_blI Iff.rfl), rfl, L, rfl, rfl, (bdF (by omega)), (by exact decide_t (by omega)), (by exact flat_nth (sz := 9) (k := n) (fun _ => rfl) (by omega)), (by exact decide_t (by omega)), (by exact flat_nth (sz := 9) (k := k) (fun _ => rfl) (by omega)), (bnT (bvT (by (simp [he]; done)))), (intE (by exact wrap_i64 (by omega) (by omega))), (intE (by exact wrap_i64 (by omega) (by omega))), rfl, rfl, trivial⟩
theorem gn_drop (l b : List Grab) (client : Int) (ids : List Int) (n k : Nat) (hi : ids.length ≤ 1000000) (hk : k < l.length) (hl : l.length ≤ 1000000) (hp : leaveD client ids (nth l k) = true) : Tri C0 gnBody (gnSt l b client ids n k) .normal (gnSt l b client ids n (k + 1)) := by
  have L := gn2_all l b client ids n k (decide ((nth l k).client = client)) hi hk hl
  rw [show (decide ((nth l k).client = client) || inD ids (nth l k).window) = true from hp] at L
  exact runF_ok (hs := hint [((10,3), {val := some (bl (true))}), ((12,2), {cells := some (grabL (nth l k) ++ List.flatMap grabL (List.drop (k + (1 : Nat)) l)), sym := true}), ((12,6), { val := some (bl (decide ((nth l k).client = client))) }), ((14,1000), {loop := some ({ ks := [1, 2, 10, 11, 12, 13, 14, 15, 16], l := [0] }, gn2St l b client ids n k (decide ((nth l k).client = client)) (0 : Nat), Ex.exit (2 : Nat), gn2St l b client ids n k true ids.length)}), ((11,1), {val := some (i64 ((↑k : Int) + (1 : Int)))})]) (f := { ks := [1, 2, 10, 11, 12, 13, 14], l := [0] }) (ps := [bl (decide ((↑k : Int) < (↑l.length : Int))) = bl (true), decide ((0 : Int) ≤ (↑k : Int) ∧ (↑k : Int) < (↑l.length : Int)) = true, ((List.drop ((↑k : Int).toNat * (9 : Nat)) (List.flatMap grabL l)) : List AV) = (grabL (nth l k) ++ List.flatMap grabL (List.drop (k + (1 : Nat)) l)), bl ((nth l k).client == client) = bl (decide ((nth l k).client = client)), gn2St l b client ids n k (decide ((nth l k).client = client)) (0 : Nat) = gn2St l b client ids n k (decide ((nth l k).client = client)) (0 : Nat), _, true = true, true = true, i64 (IntKind.i64.wrap ((↑k : Int) + (1 : Int))) = i64 ((↑k : Int) + (1 : Int)), true = true, true = true]) (by kernel_rfl) ⟨(bdT (by omega)), (by exact decide_t (by omega)), (by exact flat_nth (sz := 9) (k := k) (fun _ => rfl) (by omega)), (by exact beq_blI Iff.rfl), rfl, L, rfl, rfl, (intE (by exact wrap_i64 (by omega) (by omega))), rfl, rfl, trivial⟩
theorem gn_end (l b : List Grab) (client : Int) (ids : List Int) (n : Nat) : LoopT C0 gnBody (gnSt l b client ids n l.length) (.exit 0) (gnSt l b client ids n l.length) := by
  exact LoopT.fin (hs := hint [((10,3), {val := some (bl (false))})]) (f := { ks := [1, 2, 10, 11, 12, 13, 14], l := [0] }) (ps := [bl (decide ((↑l.length : Int) < (↑l.length : Int))) = bl (false), true = true, true = true]) (by kernel_rfl) ⟨(bdF (by omega)), rfl, rfl, trivial⟩ (by decide)
theorem kept_at (p : Grab → Bool) (l : List Grab) (k : Nat) (hk : k < l.length) (hp : ¬ p (nth l k) = true) : (keptD p (l.take k)).length < (keptD p l).length ∧ nth (keptD p l) (keptD p (l.take k)).length = nth l k := by
  have e : keptD p l = keptD p (l.take k) ++ nth l k :: keptD p (l.drop (k + 1)) := by
    conv => lhs; rw [← List.take_append_drop k l, drop_nth hk]
    simp [keptD, hp]
  rw [e]
  refine ⟨by simp, ?_⟩
  simp [nth]
theorem kept_kept (p : Grab → Bool) (l : List Grab) : keptD p (keptD p l) = keptD p l := by simp [keptD, List.filter_filter]
theorem gone_ok (acts : List Act) (client : Int) (ids : List Int) : Pu 9 [slA acts, i64 client, slU ids] (bl true) := by
  have hg := great_ok acts
  by_cases h : greatD acts = true
  · exact pure_of (hs := hint [((1,1), {call := some (bl (greatD acts))}), ((1,2), {val := some (bl (true))}), ((2,0), {call := some (bl true)})]) (ps := [_, bl (greatD acts) = bl (true), _]) (by kernel_rfl) ⟨(hg), (bvT (by assumption)), (awake_ok), trivial⟩
  · have hp := played_ok acts (great_small h)
    have hi := run_inv acts
    by_cases h20 : 20 < ids.length
    · exact pure_of (hs := hint [((1,1), {call := some (bl (greatD acts))}), ((1,2), {val := some (bl (false))}), ((1,6), {val := some (bl (true))}), ((2,0), {call := some (bl true)})]) (ps := [_, bl (greatD acts) = bl (false), bl (decide ((↑ids.length : Int) > (20 : Int))) = bl (true), _]) (by kernel_rfl) ⟨(hg), (bvF (by assumption)), (bdT (by omega)), (awake_ok), trivial⟩
    · have hl := hi.len
      generalize runD acts = l at hp hl
      have hb : (keptD (leaveD client ids) l).length ≤ l.length := List.length_filter_le _ _
      have L := LoopT.count (fun k => gnSt l (keptD (leaveD client ids) l) client ids (keptD (leaveD client ids) (l.take k)).length k) l.length (fun k hk => by
        have e := kept_step (leaveD client ids) l k hk
        by_cases hq : leaveD client ids (nth l k) = true
        · rw [if_pos hq, List.append_nil] at e
          simp only [e]
          exact gn_drop l _ client ids _ k (by omega) hk (by omega) hq
        · rw [if_neg hq] at e
          obtain ⟨h1, h2⟩ := kept_at (leaveD client ids) l k hk hq
          simp only [e, List.length_append, List.length_singleton]
          exact gn_keep l _ client ids _ k (by omega) hk (by omega) h1 (by omega) h2 hq) (gn_end l _ client ids _) 0 (by omega)
      simp only [List.take_length] at L
      have hL := leave_ok (keptD (leaveD client ids) l) client ids (by omega) (by omega)
      rw [kept_kept] at hL
      have hL1 := leave_ok l client ids (by omega) (by omega)
      generalize keptD (leaveD client ids) l = b at L hL hL1 hb
      exact pure_of (hs := hint [((1,1), {call := some (bl (greatD acts))}), ((1,2), {val := some (bl (false))}), ((1,6), {val := some (bl (false))}), ((3,1), {call := some (AV.tup [tab l, slG l, bl true])}), ((6,3), {call := some (tab b)}), ((7,1), {call := some (slG l)}), ((7,3), {call := some (slG b)}), ((10,1000), {loop := some ({ ks := [1, 2, 10, 11, 12, 13, 14], l := [1] }, gnSt l b client ids (keptD (leaveD client ids) (List.take (0 : Nat) l)).length (0 : Nat), Ex.exit (0 : Nat), gnSt l b client ids b.length l.length)}), ((21,4), {val := some (bl (true))}), ((21,8), {call := some (tab b)}), ((21,9), {call := some (slG b)}), ((21,14), {val := some (bl (true))}), ((21,15), {call := some (bl true)})]) (ps := [_, bl (greatD acts) = bl (false), bl (decide ((↑ids.length : Int) > (20 : Int))) = bl (false), _, _, _, _, gnSt l b client ids (keptD (leaveD client ids) (List.take (0 : Nat) l)).length (0 : Nat) = gnSt l b client ids (keptD (leaveD client ids) (List.take (0 : Nat) l)).length (0 : Nat), _, true = true, true = true, bl ((↑b.length : Int) == (↑b.length : Int)) = bl (true), _, _, bl ((↑b.length : Int) == (↑b.length : Int)) = bl (true), _]) (by kernel_rfl) ⟨(hg), (bvF (by assumption)), (bdF (by omega)), (hp), (hL1), (all_ok (l) (by omega)), (all_ok (b) (by omega)), rfl, L, rfl, rfl, (beT (by omega)), (hL), (all_ok (b) (by omega)), (beT (by omega)), (awake_ok), trivial⟩
end Go.Proofs.Ytoangjndoimobaa
