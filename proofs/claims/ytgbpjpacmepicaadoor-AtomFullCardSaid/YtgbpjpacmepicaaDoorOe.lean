/- The example; the laws Plays, Known and Splits. By the prover of this seat. -/
import Derived.Test.YtgbpjpacmepicaaDoorOd
set_option linter.unusedVariables false
set_option linter.unusedSimpArgs false
set_option maxRecDepth 100000
set_option maxHeartbeats 4000000
namespace Go.Proofs.YtgbpjpacmepicaaDoor
open Go.RowKit Go.Pm
theorem tok0 : TOk [] := ⟨(by decide +kernel), (fun s hs => by cases hs), (by simp)⟩
theorem e1 : internD [] ⟨#[105, 110, 99, 114]⟩ false = ([], 7, 0) := by decide +kernel
theorem e2 : internD [] ⟨#[120]⟩ true = ([], 0, 0) := by decide +kernel
theorem e3 : internD [] ⟨#[120]⟩ false = ([⟨#[120]⟩], 11, 0) := by decide +kernel
theorem e4 : internD [⟨#[120]⟩] ⟨#[120]⟩ true = ([⟨#[120]⟩], 11, 0) := by decide +kernel
theorem e5 : nameD (kn ++ [⟨#[120]⟩]) 11 = (⟨#[120]⟩, true) := by decide +kernel
theorem tokx : TOk [⟨#[120]⟩] := by have := intern_tok tok0 ⟨#[120]⟩ false; rw [e3] at this; exact this
theorem awake_ok : Pu 9 [] (bl true) := by
  have s1 := intern_ok [] tok0 ⟨#[105, 110, 99, 114]⟩ false
  rw [e1] at s1
  have s2 := intern_ok [] tok0 ⟨#[120]⟩ true
  rw [e2] at s2
  have s3 := intern_ok [] tok0 ⟨#[120]⟩ false
  rw [e3] at s3
  have s4 := intern_ok [⟨#[120]⟩] tokx ⟨#[120]⟩ true
  rw [e4] at s4
  have s5 := name_ok [⟨#[120]⟩] (by decide) 11 (by decide) (by decide)
  rw [e5] at s5
  have s6 : Pu 13 [tabA [⟨#[120]⟩]] (i64 11) := len_ok [⟨#[120]⟩] (by decide)
  have s7 : Pu 13 [tabA []] (i64 10) := len_ok [] (by decide)
  exact pure_of (hs := hint [((1,1), {call := some ((internA ([], (7 : Int), (0 : Int))))}), ((2,1), {call := some ((internA ([], (0 : Int), (0 : Int))))}), ((3,1), {call := some ((internA ([{ data := #[(120 : UInt8)] : ByteArray }], (11 : Int), (0 : Int))))}), ((4,1), {call := some ((internA ([{ data := #[(120 : UInt8)] : ByteArray }], (11 : Int), (0 : Int))))}), ((5,1), {call := some (AV.tup [(st { data := #[(120 : UInt8)] : ByteArray }), (bl true)])}), ((6,39), {call := some ((i64 (11 : Int)))}), ((6,44), {call := some ((i64 (10 : Int)))})]) (ps := [_, _, _, _, _, _, _]) (by kernel_rfl) ⟨(s1), (s2), (s3), (s4), (s5), (s6), (s7), trivial⟩
/-! names, one by one -/
def runI (a : List ByteArray) (names : List ByteArray) : List ByteArray := names.foldl (fun a s => (internD a s false).1) a
theorem runI_snoc (a names : List ByteArray) (k : Nat) (hk : k < names.length) : runI a (names.take (k + 1)) = (internD (runI a (names.take k)) (nth names k) false).1 := by
  rw [take_nth hk, runI, List.foldl_append]; rfl
theorem intern_pre (a : List ByteArray) (s : ByteArray) (o : Bool) : ∃ b, (internD a s o).1 = a ++ b := by
  unfold internD
  split
  · exact ⟨[], by simp⟩
  · split
    · exact ⟨[], by simp⟩
    · split
      · exact ⟨[], by simp⟩
      · split
        · exact ⟨[], by simp⟩
        · exact ⟨_, rfl⟩
theorem runI_pre (names : List ByteArray) : ∀ a, ∃ b, runI a names = a ++ b := by
  induction names with
  | nil => intro a; exact ⟨[], by simp [runI]⟩
  | cons s names ih =>
    intro a
    obtain ⟨b, hb⟩ := intern_pre a s false
    obtain ⟨c, hc⟩ := ih (internD a s false).1
    exact ⟨b ++ c, by show runI (internD a s false).1 names = _; rw [hc, hb, List.append_assoc]⟩
theorem runI_tok (names : List ByteArray) : ∀ a, TOk a → TOk (runI a names) := by
  induction names with
  | nil => intro a h; exact h
  | cons s names ih => intro a h; exact ih _ (intern_tok h s false)
theorem intern_int {a : List ByteArray} (h : TOk a) (s : ByteArray) (o : Bool) : 0 ≤ (internD a s o).2.1 ∧ (internD a s o).2.1 ≤ 2000 := by
  have hl := h.len
  unfold internD
  split
  · exact ⟨by simp, by simp⟩
  · split
    · rename_i k hk
      have := (idx_some hk).1
      rw [List.length_append] at this
      have e : kn.length = 10 := rfl
      simp only
      omega
    · split
      · exact ⟨by simp, by simp⟩
      · split
        · exact ⟨by simp, by simp⟩
        · simp only; omega
/-! Plays -/
def eBo (b : Bool) : List AV := [bl b]
def slB (l : List Bool) : AV := slE eBo l
noncomputable def plB : Code := loopOf Tryd.prog 6 8
def plS (names : List ByteArray) (only : List Bool) (x : Int) (a l : List ByteArray) (k : Nat) : St := ⟨mkT 141 [(0, slS names), (1, slB only), (2, u32 x), (7, .ptr 0 0), (8, slS l), (9, i64 k)], [.arr 2 [slS a, .mp (rowsB a)] 0]⟩
theorem pl_gen (names : List ByteArray) (only : List Bool) (x : Int) (a l a' l' : List ByteArray) (n e : Int) (k : Nat) (o : Bool) (hk : k < names.length) (hn : names.length ≤ 40) (h0 : 0 ≤ n) (h1 : n ≤ 2000) (ho : k < only.length ∧ nth only k = o ∨ ¬ k < only.length ∧ o = false) (hI : Pu 11 [tabA a, st (nth names k), bl o] (internA (a', n, e))) (hR : Pu 16 [slS l, st (nth names k), bl o] (rR (l', n, e))) (hA : Pu 19 [tabA a] (slS l)) (hS : Pu 18 [slS l, slS l] (bl true)) (hL : Pu 13 [tabA a] (i64 (10 + (a.length : Int)))) (hl : l.length = 10 + a.length) : Tri C0 plB (plS names only x a l k) .normal (plS names only x a' l' (k + 1)) := by
  rcases ho with ⟨ho, rfl⟩ | ⟨ho, rfl⟩
  · exact runF_ok (hs := hint [((8,3), {val := some (bl (true))}), ((10,4), {val := some (bl (true))}), ((10,7), {cells := some (eBo (nth only k) ++ List.flatMap eBo (List.drop (k + (1 : Nat)) only)), sym := true}), ((11,3), {cells := some (eS (nth names k) ++ List.flatMap eS (List.drop (k + (1 : Nat)) names)), sym := true}), ((11,6), {call := some ((internA (a', n, e)))}), ((12,3), {cells := some (eS (nth names k) ++ List.flatMap eS (List.drop (k + (1 : Nat)) names)), sym := true}), ((12,6), {call := some ((rR (l', n, e)))}), ((13,1), {val := some (i64 (n))}), ((13,4), {val := some (bl (false))}), ((13,9), {val := some (bl (false))}), ((13,11), {call := some ((slS l))}), ((13,13), {call := some ((bl true))}), ((13,18), {call := some ((i64 ((10 : Int) + (↑a.length : Int))))}), ((13,22), {val := some (bl (false))}), ((9,1), {val := some (i64 ((↑k : Int) + (1 : Int)))})]) (f := { ks := [0, 1, 2, 7, 8, 9], l := [0] }) (ps := [bl (decide ((↑k : Int) < (↑names.length : Int))) = bl (true), bl (decide ((↑k : Int) < (↑only.length : Int))) = bl (true), decide ((0 : Int) ≤ (↑k : Int) ∧ (↑k : Int) < (↑only.length : Int)) = true, ((List.drop ((↑k : Int).toNat * (1 : Nat)) (List.flatMap eBo only)) : List AV) = (eBo (nth only k) ++ List.flatMap eBo (List.drop (k + (1 : Nat)) only)), decide ((0 : Int) ≤ (↑k : Int) ∧ (↑k : Int) < (↑names.length : Int)) = true, ((List.drop ((↑k : Int).toNat * (1 : Nat)) (List.flatMap eS names)) : List AV) = (eS (nth names k) ++ List.flatMap eS (List.drop (k + (1 : Nat)) names)), _, decide ((0 : Int) ≤ (↑k : Int) ∧ (↑k : Int) < (↑names.length : Int)) = true, ((List.drop ((↑k : Int).toNat * (1 : Nat)) (List.flatMap eS names)) : List AV) = (eS (nth names k) ++ List.flatMap eS (List.drop (k + (1 : Nat)) names)), _, i64 (IntKind.i64.wrap n) = i64 (n), bl (n != n) = bl (false), bl (e != e) = bl (false), _, _, _, bl ((10 : Int) + (↑a.length : Int) != (↑l.length : Int)) = bl (false), i64 (IntKind.i64.wrap ((↑k : Int) + (1 : Int))) = i64 ((↑k : Int) + (1 : Int)), true = true, true = true]) (by kernel_rfl) ⟨(bdT (by omega)), (bdT (by omega)), (by exact decide_t (by omega)), (by exact flat_nth (sz := 1) (k := k) (fun _ => rfl) (by omega)), (by exact decide_t (by omega)), (by exact flat_nth (sz := 1) (k := k) (fun _ => rfl) (by omega)), (hI), (by exact decide_t (by omega)), (by exact flat_nth (sz := 1) (k := k) (fun _ => rfl) (by omega)), (hR), (intE (by exact wrap_i64 (by omega) (by omega))), (neT (by omega)), (neT (by omega)), (hA), (hS), (hL), (neT (by omega)), (intE (by exact wrap_i64 (by omega) (by omega))), rfl, rfl, trivial⟩
  · exact runF_ok (hs := hint [((8,3), {val := some (bl (true))}), ((10,4), {val := some (bl (false))}), ((11,3), {cells := some (eS (nth names k) ++ List.flatMap eS (List.drop (k + (1 : Nat)) names)), sym := true}), ((11,6), {call := some ((internA (a', n, e)))}), ((12,3), {cells := some (eS (nth names k) ++ List.flatMap eS (List.drop (k + (1 : Nat)) names)), sym := true}), ((12,6), {call := some ((rR (l', n, e)))}), ((13,1), {val := some (i64 (n))}), ((13,4), {val := some (bl (false))}), ((13,9), {val := some (bl (false))}), ((13,11), {call := some ((slS l))}), ((13,13), {call := some ((bl true))}), ((13,18), {call := some ((i64 ((10 : Int) + (↑a.length : Int))))}), ((13,22), {val := some (bl (false))}), ((9,1), {val := some (i64 ((↑k : Int) + (1 : Int)))})]) (f := { ks := [0, 1, 2, 7, 8, 9], l := [0] }) (ps := [bl (decide ((↑k : Int) < (↑names.length : Int))) = bl (true), bl (decide ((↑k : Int) < (↑only.length : Int))) = bl (false), decide ((0 : Int) ≤ (↑k : Int) ∧ (↑k : Int) < (↑names.length : Int)) = true, ((List.drop ((↑k : Int).toNat * (1 : Nat)) (List.flatMap eS names)) : List AV) = (eS (nth names k) ++ List.flatMap eS (List.drop (k + (1 : Nat)) names)), _, decide ((0 : Int) ≤ (↑k : Int) ∧ (↑k : Int) < (↑names.length : Int)) = true, ((List.drop ((↑k : Int).toNat * (1 : Nat)) (List.flatMap eS names)) : List AV) = (eS (nth names k) ++ List.flatMap eS (List.drop (k + (1 : Nat)) names)), _, i64 (IntKind.i64.wrap n) = i64 (n), bl (n != n) = bl (false), bl (e != e) = bl (false), _, _, _, bl ((10 : Int) + (↑a.length : Int) != (↑l.length : Int)) = bl (false), i64 (IntKind.i64.wrap ((↑k : Int) + (1 : Int))) = i64 ((↑k : Int) + (1 : Int)), true = true, true = true]) (by kernel_rfl) ⟨(bdT (by omega)), (bdF (by omega)), (by exact decide_t (by omega)), (by exact flat_nth (sz := 1) (k := k) (fun _ => rfl) (by omega)), (hI), (by exact decide_t (by omega)), (by exact flat_nth (sz := 1) (k := k) (fun _ => rfl) (by omega)), (hR), (intE (by exact wrap_i64 (by omega) (by omega))), (neT (by omega)), (neT (by omega)), (hA), (hS), (hL), (neT (by omega)), (intE (by exact wrap_i64 (by omega) (by omega))), rfl, rfl, trivial⟩
theorem pl_end (names : List ByteArray) (only : List Bool) (x : Int) (a l : List ByteArray) : LoopT C0 plB (plS names only x a l names.length) (.exit 0) (plS names only x a l names.length) := by
  exact LoopT.fin (hs := hint [((8,3), {val := some (bl (false))})]) (f := { ks := [0, 1, 2, 7, 8, 9], l := [0] }) (ps := [bl (decide ((↑names.length : Int) < (↑names.length : Int))) = bl (false), true = true, true = true]) (by kernel_rfl) ⟨(bdF (by omega)), rfl, rfl, trivial⟩ (by decide)
def onlyD (only : List Bool) (k : Nat) : Bool := if k < only.length then nth only k else false
def runP (names : List ByteArray) (only : List Bool) : Nat → List ByteArray
  | 0 => []
  | k + 1 => (internD (runP names only k) (nth names k) (onlyD only k)).1
theorem runP_tok (names : List ByteArray) (only : List Bool) : ∀ k, TOk (runP names only k) := by
  intro k
  induction k with
  | zero => exact tok0
  | succ k ih => exact intern_tok ih _ _
theorem plays_go (names : List ByteArray) (only : List Bool) (x : Int) (x0 : 0 ≤ x) (x1 : x ≤ 4294967295) (hs : shortD names 40 = true) (a l : List ByteArray) (hl : l.length = 10 + a.length) (ha : a.length ≤ 1014) (L : LoopT C0 plB (plS names only x [] kn 0) (.exit 0) (plS names only x a l names.length)) (hA : Pu 19 [tabA a] (slS l)) (hS : Pu 18 [slS l, slS l] (bl true)) (hN : Pu 12 [tabA a, u32 x] (.tup [st (nameD l x).1, bl (nameD l x).2])) : Pu 6 [slS names, slB only, u32 x] (bl true) := by
  have hSh : Pu 10 [slS names, i64 40] (bl true) := by have := short_ok names 40 (by omega); rw [hs] at this; exact this
  have hL := len_ok a (by omega)
  have hK := rknown_ok
  unfold nameD at hN
  by_cases hx : 1 ≤ x ∧ x ≤ (l.length : Int)
  · rw [if_pos hx] at hN
    obtain ⟨j, hj⟩ : ∃ j : Nat, (j : Int) + 1 = x := ⟨(x - 1).toNat, by omega⟩
    rw [show (x - 1).toNat = j by omega] at hN
    exact pure_cast (pure_of (hs := hint [((1,0), {call := some ((bl true))}), ((3,1), {call := some ((bl true))}), ((6,0), {call := some ((slS kn))}), ((8,1000), {loop := some ({ ks := [0, 1, 2, 7, 8, 9], l := [0], mx := [0] }, plS names only x [] kn (0 : Nat), Ex.exit (0 : Nat), plS names only x a l names.length)}), ((16,2), {call := some (AV.tup [(st (nth l j)), (bl true)])}), ((17,2), {val := some (bl (true))}), ((17,4), {val := some (i64 (x))}), ((18,1), {call := some ((slS l))}), ((18,3), {call := some ((bl true))}), ((18,7), {call := some ((i64 ((10 : Int) + (↑a.length : Int))))}), ((18,12), {val := some (bl (false))}), ((18,17), {val := some (bl (false))}), ((18,20), {val := some (bl (false))}), ((20,2), {val := some (bl (false))}), ((20,6), { val := some (u32 j) }), ((20,7), {cells := some (eS (nth l j) ++ List.flatMap eS (List.drop (j + (1 : Nat)) l)), sym := true})]) (r := bl ((nth l j).toList == (nth l j).toList)) (ps := [_, _, _, plS names only x [] kn (0 : Nat) = plS names only x [] kn (0 : Nat), _, true = true, _, bl (decide (x ≥ (1 : Int))) = bl (true), i64 (IntKind.i64.wrap x) = i64 (x), _, _, _, bl ((10 : Int) + (↑a.length : Int) != (↑l.length : Int)) = bl (false), bl (!true == decide (x ≤ (↑l.length : Int))) = bl (false), bl (!decide (x ≤ (↑l.length : Int))) = bl (false), bl (!decide (x ≤ (↑l.length : Int))) = bl (false), u32 (IntKind.u32.wrap (x - (1 : Int))) = u32 ((↑j : Int)), decide ((0 : Int) ≤ (↑j : Int) ∧ (↑j : Int) < (↑l.length : Int)) = true, ((List.drop ((↑j : Int).toNat * (1 : Nat)) (List.flatMap eS l)) : List AV) = (eS (nth l j) ++ List.flatMap eS (List.drop (j + (1 : Nat)) l))]) (by kernel_rfl) ⟨(awake_ok), (hSh), (hK), rfl, L, rfl, (hN), (bdT (by omega)), (intE (by exact wrap_i64 (by omega) (by omega))), (hA), (hS), (hL), (neT (by omega)), (bnT (beT (by (simp; omega)))), (bnT (bdT (by omega))), (bnT (bdT (by omega))), (by (first | exact intE (by omega) | exact intE (by rw [wrap_u32 (by omega) (by omega)]; omega))), (by exact decide_t (by omega)), (by exact flat_nth (sz := 1) (k := j) (fun _ => rfl) (by omega)), trivial⟩) (by (simp; done))
  · rw [if_neg hx] at hN
    by_cases h1 : x ≥ (1 : Int)
    · exact pure_of (hs := hint [((1,0), {call := some ((bl true))}), ((3,1), {call := some ((bl true))}), ((6,0), {call := some ((slS kn))}), ((8,1000), {loop := some ({ ks := [0, 1, 2, 7, 8, 9], l := [0], mx := [0] }, plS names only x [] kn (0 : Nat), Ex.exit (0 : Nat), plS names only x a l names.length)}), ((16,2), {call := some (AV.tup [(st { data := #[] : ByteArray }), (bl false)])}), ((17,2), {val := some (bl (true))}), ((17,4), {val := some (i64 (x))}), ((18,1), {call := some ((slS l))}), ((18,3), {call := some ((bl true))}), ((18,7), {call := some ((i64 ((10 : Int) + (↑a.length : Int))))}), ((18,12), {val := some (bl (false))}), ((18,17), {val := some (bl (false))}), ((18,20), {val := some (bl (true))}), ((20,2), {val := some (bl (true))})]) (ps := [_, _, _, plS names only x [] kn (0 : Nat) = plS names only x [] kn (0 : Nat), _, true = true, _, bl (decide (x ≥ (1 : Int))) = bl (true), i64 (IntKind.i64.wrap x) = i64 (x), _, _, _, bl ((10 : Int) + (↑a.length : Int) != (↑l.length : Int)) = bl (false), bl (!false == decide (x ≤ (↑l.length : Int))) = bl (false), bl (!decide (x ≤ (↑l.length : Int))) = bl (true), bl (!decide (x ≤ (↑l.length : Int))) = bl (true)]) (by kernel_rfl) ⟨(awake_ok), (hSh), (hK), rfl, L, rfl, (hN), (bdT h1), (intE (by exact wrap_i64 (by omega) (by omega))), (hA), (hS), (hL), (neT (by omega)), (bnT (beT (by (simp; omega)))), (bnF (bdF (by omega))), (bnF (bdF (by omega))), trivial⟩
    · exact pure_of (hs := hint [((1,0), {call := some ((bl true))}), ((3,1), {call := some ((bl true))}), ((6,0), {call := some ((slS kn))}), ((8,1000), {loop := some ({ ks := [0, 1, 2, 7, 8, 9], l := [0], mx := [0] }, plS names only x [] kn (0 : Nat), Ex.exit (0 : Nat), plS names only x a l names.length)}), ((16,2), {call := some (AV.tup [(st { data := #[] : ByteArray }), (bl false)])}), ((17,2), {val := some (bl (false))}), ((18,1), {call := some ((slS l))}), ((18,3), {call := some ((bl true))}), ((18,7), {call := some ((i64 ((10 : Int) + (↑a.length : Int))))}), ((18,12), {val := some (bl (false))})]) (ps := [_, _, _, plS names only x [] kn (0 : Nat) = plS names only x [] kn (0 : Nat), _, true = true, _, bl (decide (x ≥ (1 : Int))) = bl (false), _, _, _, bl ((10 : Int) + (↑a.length : Int) != (↑l.length : Int)) = bl (false)]) (by kernel_rfl) ⟨(awake_ok), (hSh), (hK), rfl, L, rfl, (hN), (bdF h1), (hA), (hS), (hL), (neT (by omega)), trivial⟩
theorem plays_ok (names : List ByteArray) (only : List Bool) (x : Int) (x0 : 0 ≤ x) (x1 : x ≤ 4294967295) : Pu 6 [slS names, slB only, u32 x] (bl true) := by
  by_cases hs : shortD names 40 = true
  · have hn := (short_len hs).1
    have hz : ∀ s ∈ names, s.size ≤ 1000000000 := fun s h => Nat.le_trans ((short_len hs).2 s h) (by decide)
    have hle : ∀ k, (kn ++ runP names only k).length = 10 + (runP names only k).length := fun k => by rw [List.length_append]; rfl
    have L := LoopT.count (fun k => plS names only x (runP names only k) (kn ++ runP names only k) k) names.length (fun k hk => by
      have q1 := runP_tok names only k
      have hb := intern_int q1 (nth names k) (onlyD only k)
      have hl := q1.len
      have hI := intern_ok _ q1 (nth names k) (onlyD only k)
      have hR := rintern_ok (kn ++ runP names only k) (by rw [hle]; omega) (nth names k) (hz _ (nth_mem hk)) (onlyD only k)
      rw [rD_eq] at hR
      exact pl_gen names only x _ _ _ _ _ _ k (onlyD only k) hk hn hb.1 hb.2 (by
        unfold onlyD
        by_cases q : k < only.length
        · exact .inl ⟨q, by rw [if_pos q]⟩
        · exact .inr ⟨q, by rw [if_neg q]⟩) hI hR (all_ok _ (by omega)) (same_ok _ (by rw [hle]; omega)) (len_ok _ (by omega)) (hle k)) (pl_end names only x _ _) 0 (by omega)
    have q2 := runP_tok names only names.length
    have hl := q2.len
    have L' : LoopT C0 plB (plS names only x [] kn 0) (.exit 0) (plS names only x (runP names only names.length) (kn ++ runP names only names.length) names.length) := L
    exact plays_go names only x x0 x1 hs _ _ (hle _) hl L' (all_ok _ (by omega)) (same_ok _ (by rw [hle]; omega)) (name_ok _ (by omega) x x0 x1)
  · have hSh : Pu 10 [slS names, i64 40] (bl false) := by have := short_ok names 40 (by omega); rw [show shortD names 40 = false by simpa using hs] at this; exact this
    exact pure_of (hs := hint [((1,0), {call := some ((bl true))}), ((3,1), {call := some ((bl false))})]) (ps := [_, _]) (by kernel_rfl) ⟨(awake_ok), (hSh), trivial⟩

/-! Known -/
noncomputable def nwB : Code := loopOf Tryd.prog 7 7
def nwS (names : List ByteArray) (a : List ByteArray) (k : Nat) : St := ⟨mkT 72 [(0, slS names), (3, .ptr 0 0), (4, i64 k)], [.arr 2 [slS a, .mp (rowsB a)] 0]⟩
theorem nw_step (names a a' : List ByteArray) (n e : Int) (k : Nat) (hk : k < names.length) (hn : names.length ≤ 40) (hI : Pu 11 [tabA a, st (nth names k), bl false] (internA (a', n, e))) : Tri C0 nwB (nwS names a k) .normal (nwS names a' (k + 1)) := by
  exact runF_ok (hs := hint [((7,3), {val := some (bl (true))}), ((9,3), {cells := some (eS (nth names k) ++ List.flatMap eS (List.drop (k + (1 : Nat)) names)), sym := true}), ((9,5), {call := some ((internA (a', n, e)))}), ((8,1), {val := some (i64 ((↑k : Int) + (1 : Int)))})]) (f := { ks := [0, 3, 4], l := [0] }) (ps := [bl (decide ((↑k : Int) < (↑names.length : Int))) = bl (true), decide ((0 : Int) ≤ (↑k : Int) ∧ (↑k : Int) < (↑names.length : Int)) = true, ((List.drop ((↑k : Int).toNat * (1 : Nat)) (List.flatMap eS names)) : List AV) = (eS (nth names k) ++ List.flatMap eS (List.drop (k + (1 : Nat)) names)), _, i64 (IntKind.i64.wrap ((↑k : Int) + (1 : Int))) = i64 ((↑k : Int) + (1 : Int)), true = true, true = true]) (by kernel_rfl) ⟨(bdT (by omega)), (by exact decide_t (by omega)), (by exact flat_nth (sz := 1) (k := k) (fun _ => rfl) (by omega)), (hI), (intE (by exact wrap_i64 (by omega) (by omega))), rfl, rfl, trivial⟩
theorem nw_end (names a : List ByteArray) : LoopT C0 nwB (nwS names a names.length) (.exit 0) (nwS names a names.length) := by
  exact LoopT.fin (hs := hint [((7,3), {val := some (bl (false))})]) (f := { ks := [0, 3, 4], l := [0] }) (ps := [bl (decide ((↑names.length : Int) < (↑names.length : Int))) = bl (false), true = true, true = true]) (by kernel_rfl) ⟨(bdF (by omega)), rfl, rfl, trivial⟩ (by decide)
theorem nw_all (names : List ByteArray) (hn : names.length ≤ 40) : LoopT C0 nwB (nwS names [] 0) (.exit 0) (nwS names (runI [] names) names.length) := by
  have L := LoopT.count (fun k => nwS names (runI [] (names.take k)) k) names.length (fun k hk => by
    have q := runI_tok (names.take k) [] tok0
    have e := runI_snoc [] names k hk
    simp only [e]
    exact nw_step names _ _ _ _ k hk hn (intern_ok _ q (nth names k) false)) (nw_end names _) 0 (by omega)
  simp only [List.take_length] at L
  exact L
theorem known_go (names a l : List ByteArray) (hs : shortD names 40 = true) (ha : a.length ≤ 1014) (hl : l.length = 10 + a.length) (L : LoopT C0 nwB (nwS names [] 0) (.exit 0) (nwS names a names.length)) (hA : Pu 19 [tabA a] (slS l)) (hK1 : Pu 15 [] (slS kn)) (hK2 : Pu 20 [] (slS kn)) (hS : Pu 18 [slS kn, slS kn] (bl true)) (h10 : AV.sl ((10 : Int) - 0).toNat (pieceA 1 0 10 (l.flatMap eS)) = slS kn) (h7 : Pu 12 [tabA a, u32 7] (.tup [st ⟨#[105, 110, 99, 114]⟩, bl true])) (hX : Pu 12 [tabA a, u32 10] (.tup [st ⟨#[99, 108, 111, 115, 101]⟩, bl true])) : Pu 7 [slS names] (bl true) := by
  have hSh : Pu 10 [slS names, i64 40] (bl true) := by have := short_ok names 40 (by omega); rw [hs] at this; exact this
  exact pure_of (hs := hint [((1,0), {call := some ((bl true))}), ((3,1), {call := some ((bl true))}), ((7,1000), {loop := some ({ ks := [0, 3, 4], l := [0], mx := [0] }, nwS names [] (0 : Nat), Ex.exit (0 : Nat), nwS names a names.length)}), ((10,1), {call := some ((slS l))}), ((11,0), {call := some ((slS kn))}), ((11,1), {call := some ((slS kn))}), ((11,2), {call := some ((bl true))}), ((11,9), {val := some (bl (false))}), ((11,11), { sym := true, val := some (slS kn) }), ((11,12), {call := some ((slS kn))}), ((11,13), {call := some ((bl true))}), ((13,1), {call := some (AV.tup [(st { data := #[(105 : UInt8), (110 : UInt8), (99 : UInt8), (114 : UInt8)] : ByteArray }), (bl true)])}), ((14,1), {call := some (AV.tup [(st { data := #[(99 : UInt8), (108 : UInt8), (111 : UInt8), (115 : UInt8), (101 : UInt8)] : ByteArray }), (bl true)])})]) (ps := [_, _, nwS names [] (0 : Nat) = nwS names [] (0 : Nat), _, true = true, _, _, _, _, bl (decide ((↑l.length : Int) < (10 : Int))) = bl (false), (decide ((0 : Int) ≤ (0 : Int) ∧ (0 : Int) ≤ (10 : Int) ∧ (10 : Int) ≤ (↑l.length : Int) ∧ (↑l.length : Int) ≤ (↑l.length : Int)) && true) = true, AV.sl ((10 : Nat)) (List.take (10 : Nat) (List.drop (0 : Nat) (List.flatMap eS l))) = AV.sl ((10 : Nat)) [st (⟨#[112, 114, 105, 109, 97, 114, 121]⟩), st (⟨#[115, 101, 99, 111, 110, 100, 97, 114, 121]⟩), st (⟨#[99, 108, 105, 112, 98, 111, 97, 114, 100]⟩), st (⟨#[115, 116, 114, 105, 110, 103]⟩), st (⟨#[105, 110, 116, 101, 103, 101, 114]⟩), st (⟨#[97, 116, 111, 109, 115]⟩), st (⟨#[105, 110, 99, 114]⟩), st (⟨#[116, 105, 116, 108, 101]⟩), st (⟨#[116, 114, 97, 110, 115, 102, 101, 114]⟩), st (⟨#[99, 108, 111, 115, 101]⟩)], _, _, _, _]) (by kernel_rfl) ⟨(awake_ok), (hSh), rfl, L, rfl, (hA), (hK2), (hK1), (hS), (bdF (by omega)), (by (first | exact h10 | (simp [slIn]; omega))), (by (first | exact h10 | (simp [slIn]; omega))), (hK1), (hS), (h7), (hX), trivial⟩
theorem known_all (names : List ByteArray) : Pu 7 [slS names] (bl true) := by
  by_cases hs : shortD names 40 = true
  · have hn := (short_len hs).1
    have q := runI_tok names [] tok0
    have hl := q.len
    have hle : (kn ++ runI [] names).length = 10 + (runI [] names).length := by rw [List.length_append]; rfl
    have h7 := name_ok (runI [] names) (by omega) 7 (by decide) (by decide)
    have hX := name_ok (runI [] names) (by omega) 10 (by decide) (by decide)
    have e7 : nameD (kn ++ runI [] names) 7 = (⟨#[105, 110, 99, 114]⟩, true) := by
      unfold nameD
      rw [if_pos (by rw [hle]; omega), nth_app_l (by decide)]
      rfl
    have eX : nameD (kn ++ runI [] names) 10 = (⟨#[99, 108, 111, 115, 101]⟩, true) := by
      unfold nameD
      rw [if_pos (by rw [hle]; omega), nth_app_l (by decide)]
      rfl
    rw [e7] at h7
    rw [eX] at hX
    have h10 := row_to (sz := 1) (enc := eS) (fun _ => rfl) (kn ++ runI [] names) 10 (by decide) (by rw [hle]; omega)
    rw [show (kn ++ runI [] names).take (10 : Int).toNat = kn from List.take_left' rfl] at h10
    exact known_go names _ _ hs hl hle (nw_all names hn) (all_ok _ (by omega)) rknown_ok known_ok (same_ok kn (by decide)) h10 h7 hX
  · have hSh : Pu 10 [slS names, i64 40] (bl false) := by have := short_ok names 40 (by omega); rw [show shortD names 40 = false by simpa using hs] at this; exact this
    exact pure_of (hs := hint [((1,0), {call := some ((bl true))}), ((3,1), {call := some ((bl false))})]) (ps := [_, _]) (by kernel_rfl) ⟨(awake_ok), (hSh), trivial⟩
end Go.Proofs.YtgbpjpacmepicaaDoor
