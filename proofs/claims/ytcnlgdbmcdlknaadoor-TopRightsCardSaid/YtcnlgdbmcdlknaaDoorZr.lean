/- Ids; a tree's parents. By the prover of this seat. -/
import Derived.Test.YtcnlgdbmcdlknaaDoorYg
set_option linter.unusedVariables false
set_option linter.unusedSimpArgs false
set_option maxRecDepth 100000
set_option maxHeartbeats 4000000
namespace Go.Proofs.YtcnlgdbmcdlknaaDoor.Tr
open Go.RowKit Go.Pm
theorem q_eq {x q : Int} (hx : 0 ≤ x) (hx2 : x ≤ 4294967295) (hq : x / 1048576 = q) : u32 (IntKind.u32.wrap (x.tdiv 1048576)) = u32 q := by
  rw [Int.tdiv_eq_ediv_of_nonneg hx, hq, wrap_u32 (by omega) (by omega)]
theorem r_eq {x q : Int} (hx : 0 ≤ x) (hx2 : x ≤ 4294967295) (hq : x % 1048576 = q) : u32 (x.tmod 1048576) = u32 q := by
  rw [Int.tmod_eq_emod_of_nonneg hx, hq]
abbrev Pu (f : FuncId) (args : List AV) (r : AV) : Prop := Pure Tryd.prog GS f args r []
theorem isc_ok (n : Int) (h0 : 0 ≤ n) (h1 : n ≤ 4096) : Pu 63 [i64 n] (bl (decide (1 ≤ n ∧ n ≤ 8))) := by
  by_cases a : 1 ≤ n
  · by_cases b : n ≤ 8
    · rw [decide_t (p := 1 ≤ n ∧ n ≤ 8) ⟨a, b⟩]
      exact pure_cast (pure_of (hs := hint [((1,2), {val := some (bl (true))})]) (r := bl (decide (n ≤ (8 : Int)))) (ps := [bl (decide ((1 : Int) ≤ n)) = bl (true)]) (by kernel_rfl) ⟨(bdT (by assumption)), trivial⟩) (by (simp; omega))
    · rw [decide_eq_false (p := 1 ≤ n ∧ n ≤ 8) (by omega)]
      exact pure_cast (pure_of (hs := hint [((1,2), {val := some (bl (true))})]) (r := bl (decide (n ≤ (8 : Int)))) (ps := [bl (decide ((1 : Int) ≤ n)) = bl (true)]) (by kernel_rfl) ⟨(bdT (by assumption)), trivial⟩) (by (simp; omega))
  · rw [decide_eq_false (p := 1 ≤ n ∧ n ≤ 8) (by omega)]
    exact pure_of (hs := hint [((1,2), {val := some (bl (false))})]) (ps := [bl (decide ((1 : Int) ≤ n)) = bl (false)]) (by kernel_rfl) ⟨(bdF (by assumption)), trivial⟩
/-- whose an id is -/
def clientD (x : Int) : Int × Bool := if x = 1 then (0, true) else if x % 1048576 = 0 then (0, false) else if 1 ≤ x / 1048576 ∧ x / 1048576 ≤ 8 then (x / 1048576, true) else (0, false)
theorem client_1 : Pu 48 [u32 1] (.tup [i64 0, bl true]) := by
  exact pure_of (hs := hint []) (ps := []) (by kernel_rfl) trivial
theorem client_2 (x q m : Int) (h1 : ¬ x = 1) (hx : 0 ≤ x) (hx2 : x ≤ 4294967295) (hq : x / 1048576 = q) (hm : x % 1048576 = m) (h2 : m = 0) : Pu 48 [u32 x] (.tup [i64 0, bl false]) := by
  have q0 : 0 ≤ q := by omega
  have q1 : q ≤ 4095 := by omega
  exact pure_of (hs := hint [((1,1), {val := some (bl (false))}), ((3,1), { val := some (u32 q) }), ((3,2), {val := some (i64 (q))}), ((4,1), { val := some (u32 m) }), ((4,3), {val := some (bl (true))})]) (ps := [bl (x == (1 : Int)) = bl (false), u32 (IntKind.u32.wrap (x.tdiv (1048576 : Int))) = u32 (q), i64 (IntKind.i64.wrap q) = i64 (q), u32 (x.tmod (1048576 : Int)) = u32 (m), bl (m == (0 : Int)) = bl (true)]) (by kernel_rfl) ⟨(beF (by assumption)), (by (first | exact q_eq hx hx2 hq | exact decide_t (by omega) | rfl)), (intE (by exact wrap_i64 (by omega) (by omega))), (by (first | exact r_eq hx hx2 hm | exact decide_t (by omega) | rfl)), (beT (by assumption)), trivial⟩
theorem client_3 (x q m : Int) (h1 : ¬ x = 1) (hx : 0 ≤ x) (hx2 : x ≤ 4294967295) (hq : x / 1048576 = q) (hm : x % 1048576 = m) (h2 : ¬ m = 0) (h3 : 1 ≤ q ∧ q ≤ 8) : Pu 48 [u32 x] (.tup [i64 q, bl true]) := by
  have q0 : 0 ≤ q := by omega
  have q1 : q ≤ 4095 := by omega
  have hi := isc_ok q q0 (by omega)
  rw [decide_t h3] at hi
  exact pure_of (hs := hint [((1,1), {val := some (bl (false))}), ((3,1), { val := some (u32 q) }), ((3,2), {val := some (i64 (q))}), ((4,1), { val := some (u32 m) }), ((4,3), {val := some (bl (false))}), ((4,5), {call := some ((bl true))})]) (ps := [bl (x == (1 : Int)) = bl (false), u32 (IntKind.u32.wrap (x.tdiv (1048576 : Int))) = u32 (q), i64 (IntKind.i64.wrap q) = i64 (q), u32 (x.tmod (1048576 : Int)) = u32 (m), bl (m == (0 : Int)) = bl (false), _]) (by kernel_rfl) ⟨(beF (by assumption)), (by (first | exact q_eq hx hx2 hq | exact decide_t (by omega) | rfl)), (intE (by exact wrap_i64 (by omega) (by omega))), (by (first | exact r_eq hx hx2 hm | exact decide_t (by omega) | rfl)), (beF (by assumption)), (hi), trivial⟩
theorem client_4 (x q m : Int) (h1 : ¬ x = 1) (hx : 0 ≤ x) (hx2 : x ≤ 4294967295) (hq : x / 1048576 = q) (hm : x % 1048576 = m) (h2 : ¬ m = 0) (h3 : ¬ (1 ≤ q ∧ q ≤ 8)) : Pu 48 [u32 x] (.tup [i64 0, bl false]) := by
  have q0 : 0 ≤ q := by omega
  have q1 : q ≤ 4095 := by omega
  have hi := isc_ok q q0 (by omega)
  rw [decide_eq_false h3] at hi
  exact pure_of (hs := hint [((1,1), {val := some (bl (false))}), ((3,1), { val := some (u32 q) }), ((3,2), {val := some (i64 (q))}), ((4,1), { val := some (u32 m) }), ((4,3), {val := some (bl (false))}), ((4,5), {call := some ((bl false))})]) (ps := [bl (x == (1 : Int)) = bl (false), u32 (IntKind.u32.wrap (x.tdiv (1048576 : Int))) = u32 (q), i64 (IntKind.i64.wrap q) = i64 (q), u32 (x.tmod (1048576 : Int)) = u32 (m), bl (m == (0 : Int)) = bl (false), _]) (by kernel_rfl) ⟨(beF (by assumption)), (by (first | exact q_eq hx hx2 hq | exact decide_t (by omega) | rfl)), (intE (by exact wrap_i64 (by omega) (by omega))), (by (first | exact r_eq hx hx2 hm | exact decide_t (by omega) | rfl)), (beF (by assumption)), (hi), trivial⟩
theorem client_ok (x : Int) (hx : 0 ≤ x) (hx2 : x ≤ 4294967295) : Pu 48 [u32 x] (.tup [i64 (clientD x).1, bl (clientD x).2]) := by
  unfold clientD
  split
  · subst_vars; exact client_1
  · split
    · exact client_2 x _ _ (by assumption) hx hx2 rfl rfl (by assumption)
    · split
      · exact client_3 x _ _ (by assumption) hx hx2 rfl rfl (by assumption) (by assumption)
      · exact client_4 x _ _ (by assumption) hx hx2 rfl rfl (by assumption) (by assumption)
/-- is an id a client's? -/
def checkD (x : Int) : Int := if x = 0 then 6 else if (clientD x).2 = true then 0 else 1
theorem check_1 (x c : Int) (hx : ¬ x = 0) (h : Pu 48 [u32 x] (.tup [i64 c, bl true])) : Pu 39 [u32 x] (i64 0) := by
  exact pure_of (hs := hint [((1,1), {val := some (bl (false))}), ((3,1), {call := some (AV.tup [(i64 c), (bl true)])})]) (ps := [bl (x == (0 : Int)) = bl (false), _]) (by kernel_rfl) ⟨(beF (by assumption)), (h), trivial⟩
theorem check_2 (x c : Int) (hx : ¬ x = 0) (h : Pu 48 [u32 x] (.tup [i64 c, bl false])) : Pu 39 [u32 x] (i64 1) := by
  exact pure_of (hs := hint [((1,1), {val := some (bl (false))}), ((3,1), {call := some (AV.tup [(i64 c), (bl false)])})]) (ps := [bl (x == (0 : Int)) = bl (false), _]) (by kernel_rfl) ⟨(beF (by assumption)), (h), trivial⟩
theorem check_0 : Pu 39 [u32 0] (i64 6) := by
  exact pure_of (hs := hint []) (ps := []) (by kernel_rfl) trivial
theorem check_ok (x : Int) (hx : 0 ≤ x) (hx2 : x ≤ 4294967295) : Pu 39 [u32 x] (i64 (checkD x)) := by
  unfold checkD
  split
  · subst_vars; exact check_0
  · have h := client_ok x hx hx2
    split
    · rename_i h0 h1
      rw [h1] at h
      exact check_1 x _ h0 h
    · rename_i h0 h1
      rw [Bool.not_eq_true] at h1
      rw [h1] at h
      exact check_2 x _ h0 h
def mineD (c x : Int) : Bool := (clientD x).2 && decide ((clientD x).1 ≠ 0) && decide ((clientD x).1 = c)
theorem mine_0 (c x k : Int) (h : Pu 48 [u32 x] (.tup [i64 k, bl false])) : Pu 26 [i64 c, u32 x] (bl false) := by
  exact pure_of (hs := hint [((1,1), {call := some (AV.tup [(i64 k), (bl false)])})]) (ps := [_]) (by kernel_rfl) ⟨(h), trivial⟩
theorem mine_1 (c x k : Int) (hk : k = 0) (h : Pu 48 [u32 x] (.tup [i64 k, bl true])) : Pu 26 [i64 c, u32 x] (bl false) := by
  exact pure_of (hs := hint [((1,1), {call := some (AV.tup [(i64 k), (bl true)])}), ((2,5), {val := some (bl (false))})]) (ps := [_, bl (k != (0 : Int)) = bl (false)]) (by kernel_rfl) ⟨(h), (neT (by assumption)), trivial⟩
theorem mine_2 (c x k : Int) (hk : ¬ k = 0) (hc : k = c) (h : Pu 48 [u32 x] (.tup [i64 k, bl true])) : Pu 26 [i64 c, u32 x] (bl true) := by
  subst hc
  exact pure_cast (pure_of (hs := hint [((1,1), {call := some (AV.tup [(i64 k), (bl true)])}), ((2,5), {val := some (bl (true))})]) (r := bl (k == k)) (ps := [_, bl (k != (0 : Int)) = bl (true)]) (by kernel_rfl) ⟨(h), (neF (by assumption)), trivial⟩) (by (simp; done))
theorem mine_3 (c x k : Int) (hk : ¬ k = 0) (hc : ¬ k = c) (h : Pu 48 [u32 x] (.tup [i64 k, bl true])) : Pu 26 [i64 c, u32 x] (bl false) := by
  exact pure_cast (pure_of (hs := hint [((1,1), {call := some (AV.tup [(i64 k), (bl true)])}), ((2,5), {val := some (bl (true))})]) (r := bl (k == c)) (ps := [_, bl (k != (0 : Int)) = bl (true)]) (by kernel_rfl) ⟨(h), (neF (by assumption)), trivial⟩) (by (simp; omega))
theorem mine_ok (c x : Int) (hx : 0 ≤ x) (hx2 : x ≤ 4294967295) : Pu 26 [i64 c, u32 x] (bl (mineD c x)) := by
  have h := client_ok x hx hx2
  unfold mineD
  generalize (clientD x) = p at h ⊢
  obtain ⟨k, b⟩ := p
  cases b with
  | false => exact mine_0 c x k h
  | true =>
    by_cases hk : k = 0
    · rw [show (true && decide (k ≠ 0) && decide (k = c)) = false by simp [hk]]
      exact mine_1 c x k hk h
    · by_cases hc : k = c
      · rw [show (true && decide (k ≠ 0) && decide (k = c)) = true by simp [hk, hc] <;> exact hc ▸ hk]
        exact mine_2 c x k hk hc h
      · rw [show (true && decide (k ≠ 0) && decide (k = c)) = false by simp [hk, hc]]
        exact mine_3 c x k hk hc h
/-! a tree's parents -/
def trA (K : List Kid) (U : List Up) : AV := A [.mp (K.map rowD), .mp (U.map rowU)]
theorem new_ok : Pu 20 [] (trA [] []) := by
  exact pure_of (hs := hint []) (ps := []) (by kernel_rfl) trivial
theorem has_ok (K : List Kid) (U : List Up) (hU : UOk U) (x : Int) (hx : 0 ≤ x) (hx2 : x ≤ 4294967295) (o : Option Up) (ho : findM Up.id U x = o) : Pu 28 [trA K U, u32 x] (bl (o.isSome || decide (x = 1))) := by
  have hm : mfind (U.map rowU) (u32 x) = o.map evU := by rw [show (u32 x) = ekU x from rfl, mfind_row ke_U, ho]
  have hk := kwf_U hx hx2
  have ha := allK_U hU.2
  cases o with
  | some y =>
    simp only [Option.map_some] at hm
    rw [show ((some y).isSome || decide (x = 1)) = true by rfl]
    exact pure_of (hs := hint [((1,3), { sym := true, val := some (.tup [u32 y.up, bl true]) })]) (ps := [true = true, kwf Tryd.prog (39 : Nat) (AV.s (Value.int IntKind.u32 x)) = true, allK Tryd.prog (39 : Nat) (List.map rowU U) = true, (match mfind (List.map rowU U) (AV.s (Value.int IntKind.u32 x)) with
    | some v => if true = true then AV.tup [v, AV.s (Value.bool true)] else v
    | none => if true = true then AV.tup [ofV (Value.int IntKind.u32 (0 : Int)), AV.s (Value.bool false)] else ofV (Value.int IntKind.u32 (0 : Int))) = AV.tup [u32 (y.up), bl (true)]]) (by kernel_rfl) ⟨(by (first | assumption | (rw [hm]; rfl) | rfl)), (by (first | assumption | (rw [hm]; rfl) | rfl)), (by (first | assumption | (rw [hm]; rfl) | rfl)), (by (first | assumption | (rw [hm]; rfl) | rfl)), trivial⟩
  | none =>
    simp only [Option.map_none] at hm
    by_cases h1 : x = 1
    · subst h1
      exact pure_of (hs := hint [((1,3), { sym := true, val := some (.tup [u32 0, bl false]) })]) (ps := [true = true, true = true, allK Tryd.prog (39 : Nat) (List.map rowU U) = true, (match mfind (List.map rowU U) (AV.s (Value.int IntKind.u32 (1 : Int))) with
      | some v => if true = true then AV.tup [v, AV.s (Value.bool true)] else v
      | none => if true = true then AV.tup [ofV (Value.int IntKind.u32 (0 : Int)), AV.s (Value.bool false)] else ofV (Value.int IntKind.u32 (0 : Int))) = AV.tup [u32 ((0 : Int)), bl (false)]]) (by kernel_rfl) ⟨(by (first | assumption | (rw [hm]; rfl) | rfl)), (by (first | assumption | (rw [hm]; rfl) | rfl)), (by (first | assumption | (rw [hm]; rfl) | rfl)), (by (first | assumption | (rw [hm]; rfl) | rfl)), trivial⟩
    · rw [show ((none : Option Up).isSome || decide (x = 1)) = false by simp [h1]]
      exact pure_cast (pure_of (hs := hint [((1,3), { sym := true, val := some (.tup [u32 0, bl false]) })]) (r := bl (x == (1 : Int))) (ps := [true = true, kwf Tryd.prog (39 : Nat) (AV.s (Value.int IntKind.u32 x)) = true, allK Tryd.prog (39 : Nat) (List.map rowU U) = true, (match mfind (List.map rowU U) (AV.s (Value.int IntKind.u32 x)) with
      | some v => if true = true then AV.tup [v, AV.s (Value.bool true)] else v
      | none => if true = true then AV.tup [ofV (Value.int IntKind.u32 (0 : Int)), AV.s (Value.bool false)] else ofV (Value.int IntKind.u32 (0 : Int))) = AV.tup [u32 ((0 : Int)), bl (false)]]) (by kernel_rfl) ⟨(by (first | assumption | (rw [hm]; rfl) | rfl)), (by (first | assumption | (rw [hm]; rfl) | rfl)), (by (first | assumption | (rw [hm]; rfl) | rfl)), (by (first | assumption | (rw [hm]; rfl) | rfl)), trivial⟩) (by (simp; omega))
theorem parent_1 (K : List Kid) (U : List Up) (hU : UOk U) (x : Int) (hx : 0 ≤ x) (hx2 : x ≤ 4294967295) (y : Up) (ho : findM Up.id U x = some y) : Pu 29 [trA K U, u32 x] (.tup [u32 y.up, bl true]) := by
  have hm : mfind (U.map rowU) (u32 x) = some (evU y) := by rw [show (u32 x) = ekU x from rfl, mfind_row ke_U, ho]; rfl
  have hk := kwf_U hx hx2
  have ha := allK_U hU.2
  exact pure_of (hs := hint [((1,3), { sym := true, val := some (.tup [u32 y.up, bl true]) })]) (ps := [true = true, kwf Tryd.prog (39 : Nat) (AV.s (Value.int IntKind.u32 x)) = true, allK Tryd.prog (39 : Nat) (List.map rowU U) = true, (match mfind (List.map rowU U) (AV.s (Value.int IntKind.u32 x)) with
  | some v => if true = true then AV.tup [v, AV.s (Value.bool true)] else v
  | none => if true = true then AV.tup [ofV (Value.int IntKind.u32 (0 : Int)), AV.s (Value.bool false)] else ofV (Value.int IntKind.u32 (0 : Int))) = AV.tup [u32 (y.up), bl (true)]]) (by kernel_rfl) ⟨(by (first | assumption | (rw [hm]; rfl) | rfl)), (by (first | assumption | (rw [hm]; rfl) | rfl)), (by (first | assumption | (rw [hm]; rfl) | rfl)), (by (first | assumption | (rw [hm]; rfl) | rfl)), trivial⟩
theorem parent_0 (K : List Kid) (U : List Up) (hU : UOk U) (x : Int) (hx : 0 ≤ x) (hx2 : x ≤ 4294967295) (ho : findM Up.id U x = none) : Pu 29 [trA K U, u32 x] (.tup [u32 0, bl false]) := by
  have hm : mfind (U.map rowU) (u32 x) = none := by rw [show (u32 x) = ekU x from rfl, mfind_row ke_U, ho]; rfl
  have hk := kwf_U hx hx2
  have ha := allK_U hU.2
  exact pure_of (hs := hint [((1,3), { sym := true, val := some (.tup [u32 0, bl false]) })]) (ps := [true = true, kwf Tryd.prog (39 : Nat) (AV.s (Value.int IntKind.u32 x)) = true, allK Tryd.prog (39 : Nat) (List.map rowU U) = true, (match mfind (List.map rowU U) (AV.s (Value.int IntKind.u32 x)) with
  | some v => if true = true then AV.tup [v, AV.s (Value.bool true)] else v
  | none => if true = true then AV.tup [ofV (Value.int IntKind.u32 (0 : Int)), AV.s (Value.bool false)] else ofV (Value.int IntKind.u32 (0 : Int))) = AV.tup [u32 ((0 : Int)), bl (false)]]) (by kernel_rfl) ⟨(by (first | assumption | (rw [hm]; rfl) | rfl)), (by (first | assumption | (rw [hm]; rfl) | rfl)), (by (first | assumption | (rw [hm]; rfl) | rfl)), (by (first | assumption | (rw [hm]; rfl) | rfl)), trivial⟩
end Go.Proofs.YtcnlgdbmcdlknaaDoor.Tr
