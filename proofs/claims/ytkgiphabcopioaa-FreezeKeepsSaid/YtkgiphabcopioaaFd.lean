/- Taking out an input, upon plain values. By the prover of this seat. -/
import Derived.Test.YtkgiphabcopioaaFc
set_option linter.unusedVariables false
set_option maxRecDepth 100000
namespace Go.Proofs.Ytkgiphabcopioaa
open Go.RowKit Go.Pm
theorem tail_len (i : Inp) (ws : List Inp) : (((i :: ws).length : Int) - 1).toNat = ws.length := by simp
theorem piece_tail (i : Inp) (ws : List Inp) : pieceA 6 1 ((i :: ws).length : Int) (inpsL (i :: ws)) = inpsL ws := by
  simp only [pieceA, tail_len]
  show ((inpsL (i :: ws)).drop (1 * 6)).take (ws.length * 6) = inpsL ws
  rw [inps_drop, List.drop_one, List.tail_cons, take_inps]
theorem slIn_tail (i : Inp) (ws : List Inp) : slIn 1 ((i :: ws).length : Int) ((i :: ws).length : Int) ((i :: ws).length : Int) none none = true := by
  simp [slIn]
  omega
theorem at0 (i : Inp) (ws : List Inp) : decide ((0 : Int) ≤ 0 ∧ (0 : Int) < ((i :: ws).length : Int)) = true := decide_t (by simp)
theorem clone_tail (i : Inp) (ws : List Inp) (hl : ws.length ≤ 2000000) : Pu 26 [.sl (((i :: ws).length : Int) - 1).toNat (inpsL ws)] (slI ws) := by
  rw [tail_len]
  exact clone_ok ws hl
theorem len_ne (i : Inp) (ws : List Inp) : bl (((i :: ws).length : Int) == 0) = bl false := by
  have : ((((i :: ws).length : Nat) : Int) == 0) = false := by simp; omega
  rw [this]
theorem next_ok (d : Dev) (hl : d.waits.length ≤ 2000000) : Pu 12 [A (devL d)] (res3 d.nextD) := by
  obtain ⟨a, g, fr, st, he, ho, ws⟩ := d
  cases fr with
  | true => exact pure_of (hs := hint []) (ps := []) (by kernel_rfl) trivial
  | false =>
    cases ws with
    | nil => exact pure_of (hs := hint []) (ps := []) (by kernel_rfl) trivial
    | cons i ws =>
      have hw : ws.length ≤ 2000000 := by simp at hl; omega
      have e0 : Pu 15 [A (devL ⟨a, g, false, true, he, ho, ws⟩)] (A (devL ⟨a, g, true, false, he, ho, ws⟩)) := freeze_ok _
      cases st with
      | false =>
        exact pure_of (hs := hint [((1,6), {val := some (bl false)}), ((3,2), {sym := true}), ((4, 2), { sym := true, cells := some (inpsL ws) }), ((4, 3), {call := some (slI ws)})])
          (ps := [bl (((i :: ws).length : Int) == 0) = bl false, decide ((0 : Int) ≤ 0 ∧ (0 : Int) < ((i :: ws).length : Int)) = true, slIn 1 ((i :: ws).length : Int) ((i :: ws).length : Int) ((i :: ws).length : Int) none none = true, pieceA 6 1 ((i :: ws).length : Int) (inpsL (i :: ws)) = inpsL ws, Pu 26 [.sl (((i :: ws).length : Int) - 1).toNat (inpsL ws)] (slI ws)])
          (by kernel_rfl) ⟨len_ne i ws, at0 i ws, slIn_tail i ws, piece_tail i ws, clone_tail i ws hw, trivial⟩
      | true =>
        by_cases h1 : 1 ≤ i.kind
        · by_cases h2 : i.kind ≤ 4
          · have key : Pu 12 [A (devL ⟨a, g, false, true, he, ho, i :: ws⟩)] (res3 (⟨a, g, true, false, he, ho, ws⟩, i, true)) :=
              pure_of (hs := hint [((1,6), {val := some (bl false)}), ((3,2), {sym := true}), ((4, 2), { sym := true, cells := some (inpsL ws) }), ((4, 3), {call := some (slI ws)}), ((5,5), {val := some (bl true)}), ((5,10), {val := some (bl true)}), ((6,1), {call := some (A (devL ⟨a, g, true, false, he, ho, ws⟩))})])
                (ps := [bl (((i :: ws).length : Int) == 0) = bl false, decide ((0 : Int) ≤ 0 ∧ (0 : Int) < ((i :: ws).length : Int)) = true, slIn 1 ((i :: ws).length : Int) ((i :: ws).length : Int) ((i :: ws).length : Int) none none = true, pieceA 6 1 ((i :: ws).length : Int) (inpsL (i :: ws)) = inpsL ws, Pu 26 [.sl (((i :: ws).length : Int) - 1).toNat (inpsL ws)] (slI ws), bl (decide (i.kind ≥ 1)) = bl true, bl (decide (i.kind ≤ 4)) = bl true, Pu 15 [A (devL ⟨a, g, false, true, he, ho, ws⟩)] (A (devL ⟨a, g, true, false, he, ho, ws⟩))])
                (by kernel_rfl) ⟨len_ne i ws, at0 i ws, slIn_tail i ws, piece_tail i ws, clone_tail i ws hw, by rw [decide_t h1], by rw [decide_t h2], e0, trivial⟩
            simpa [Dev.nextD, isDown, h1, h2] using key
          · have key : Pu 12 [A (devL ⟨a, g, false, true, he, ho, i :: ws⟩)] (res3 (⟨a, g, false, true, he, ho, ws⟩, i, true)) :=
              pure_of (hs := hint [((1,6), {val := some (bl false)}), ((3,2), {sym := true}), ((4, 2), { sym := true, cells := some (inpsL ws) }), ((4, 3), {call := some (slI ws)}), ((5,5), {val := some (bl true)}), ((5,10), {val := some (bl false)})])
                (ps := [bl (((i :: ws).length : Int) == 0) = bl false, decide ((0 : Int) ≤ 0 ∧ (0 : Int) < ((i :: ws).length : Int)) = true, slIn 1 ((i :: ws).length : Int) ((i :: ws).length : Int) ((i :: ws).length : Int) none none = true, pieceA 6 1 ((i :: ws).length : Int) (inpsL (i :: ws)) = inpsL ws, Pu 26 [.sl (((i :: ws).length : Int) - 1).toNat (inpsL ws)] (slI ws), bl (decide (i.kind ≥ 1)) = bl true, bl (decide (i.kind ≤ 4)) = bl false])
                (by kernel_rfl) ⟨len_ne i ws, at0 i ws, slIn_tail i ws, piece_tail i ws, clone_tail i ws hw, by rw [decide_t h1], by rw [decide_eq_false h2], trivial⟩
            simpa [Dev.nextD, isDown, h1, h2] using key
        · have key : Pu 12 [A (devL ⟨a, g, false, true, he, ho, i :: ws⟩)] (res3 (⟨a, g, false, true, he, ho, ws⟩, i, true)) :=
            pure_of (hs := hint [((1,6), {val := some (bl false)}), ((3,2), {sym := true}), ((4, 2), { sym := true, cells := some (inpsL ws) }), ((4, 3), {call := some (slI ws)}), ((5,5), {val := some (bl false)})])
              (ps := [bl (((i :: ws).length : Int) == 0) = bl false, decide ((0 : Int) ≤ 0 ∧ (0 : Int) < ((i :: ws).length : Int)) = true, slIn 1 ((i :: ws).length : Int) ((i :: ws).length : Int) ((i :: ws).length : Int) none none = true, pieceA 6 1 ((i :: ws).length : Int) (inpsL (i :: ws)) = inpsL ws, Pu 26 [.sl (((i :: ws).length : Int) - 1).toNat (inpsL ws)] (slI ws), bl (decide (i.kind ≥ 1)) = bl false])
              (by kernel_rfl) ⟨len_ne i ws, at0 i ws, slIn_tail i ws, piece_tail i ws, clone_tail i ws hw, by rw [decide_eq_false h1], trivial⟩
          simpa [Dev.nextD, isDown, h1] using key
theorem rnext_ok (d : Dev) : Pu 29 [A (devL d)] (res3 d.nextD) := by
  obtain ⟨a, g, fr, st, he, ho, ws⟩ := d
  cases fr with
  | true => exact pure_of (hs := hint []) (ps := []) (by kernel_rfl) trivial
  | false =>
    cases ws with
    | nil => exact pure_of (hs := hint []) (ps := []) (by kernel_rfl) trivial
    | cons i ws =>
      have e0 : AV.sl (((i :: ws).length : Int) - 1).toNat (inpsL ws) = slI ws := by rw [tail_len]; rfl
      cases st with
      | false =>
        have key : Pu 29 [A (devL ⟨a, g, false, false, he, ho, i :: ws⟩)] (.tup [A (devR ⟨a, g, false, false, he, ho, ws⟩ (.sl (((i :: ws).length : Int) - 1).toNat (inpsL ws))), A (inpL i), bl true]) :=
          pure_of (hs := hint [((1,6), {val := some (bl false)}), ((3,2), {sym := true}), ((4, 2), { sym := true, cells := some (inpsL ws) })])
          (ps := [bl (((i :: ws).length : Int) == 0) = bl false, decide ((0 : Int) ≤ 0 ∧ (0 : Int) < ((i :: ws).length : Int)) = true, slIn 1 ((i :: ws).length : Int) ((i :: ws).length : Int) ((i :: ws).length : Int) none none = true, pieceA 6 1 ((i :: ws).length : Int) (inpsL (i :: ws)) = inpsL ws])
          (by kernel_rfl) ⟨len_ne i ws, at0 i ws, slIn_tail i ws, piece_tail i ws, trivial⟩
        rw [e0] at key
        exact key
      | true =>
        by_cases h1 : 1 ≤ i.kind
        · by_cases h2 : i.kind ≤ 4
          · have key : Pu 29 [A (devL ⟨a, g, false, true, he, ho, i :: ws⟩)] (.tup [A (devR ⟨a, g, true, false, he, ho, ws⟩ (.sl (((i :: ws).length : Int) - 1).toNat (inpsL ws))), A (inpL i), bl true]) :=
              pure_of (hs := hint [((1,6), {val := some (bl false)}), ((3,2), {sym := true}), ((4, 2), { sym := true, cells := some (inpsL ws) }), ((5,5), {val := some (bl true)}), ((5,10), {val := some (bl true)})])
                (ps := [bl (((i :: ws).length : Int) == 0) = bl false, decide ((0 : Int) ≤ 0 ∧ (0 : Int) < ((i :: ws).length : Int)) = true, slIn 1 ((i :: ws).length : Int) ((i :: ws).length : Int) ((i :: ws).length : Int) none none = true, pieceA 6 1 ((i :: ws).length : Int) (inpsL (i :: ws)) = inpsL ws, bl (decide (i.kind ≥ 1)) = bl true, bl (decide (i.kind ≤ 4)) = bl true])
                (by kernel_rfl) ⟨len_ne i ws, at0 i ws, slIn_tail i ws, piece_tail i ws, by rw [decide_t h1], by rw [decide_t h2], trivial⟩
            rw [e0] at key
            have e : Dev.nextD ⟨a, g, false, true, he, ho, i :: ws⟩ = (⟨a, g, true, false, he, ho, ws⟩, i, true) := by simp [Dev.nextD, isDown, h1, h2]
            rw [e]
            exact key
          · have key : Pu 29 [A (devL ⟨a, g, false, true, he, ho, i :: ws⟩)] (.tup [A (devR ⟨a, g, false, true, he, ho, ws⟩ (.sl (((i :: ws).length : Int) - 1).toNat (inpsL ws))), A (inpL i), bl true]) :=
              pure_of (hs := hint [((1,6), {val := some (bl false)}), ((3,2), {sym := true}), ((4, 2), { sym := true, cells := some (inpsL ws) }), ((5,5), {val := some (bl true)}), ((5,10), {val := some (bl false)})])
                (ps := [bl (((i :: ws).length : Int) == 0) = bl false, decide ((0 : Int) ≤ 0 ∧ (0 : Int) < ((i :: ws).length : Int)) = true, slIn 1 ((i :: ws).length : Int) ((i :: ws).length : Int) ((i :: ws).length : Int) none none = true, pieceA 6 1 ((i :: ws).length : Int) (inpsL (i :: ws)) = inpsL ws, bl (decide (i.kind ≥ 1)) = bl true, bl (decide (i.kind ≤ 4)) = bl false])
                (by kernel_rfl) ⟨len_ne i ws, at0 i ws, slIn_tail i ws, piece_tail i ws, by rw [decide_t h1], by rw [decide_eq_false h2], trivial⟩
            rw [e0] at key
            have e : Dev.nextD ⟨a, g, false, true, he, ho, i :: ws⟩ = (⟨a, g, false, true, he, ho, ws⟩, i, true) := by simp [Dev.nextD, isDown, h1, h2]
            rw [e]
            exact key
        · have key : Pu 29 [A (devL ⟨a, g, false, true, he, ho, i :: ws⟩)] (.tup [A (devR ⟨a, g, false, true, he, ho, ws⟩ (.sl (((i :: ws).length : Int) - 1).toNat (inpsL ws))), A (inpL i), bl true]) :=
            pure_of (hs := hint [((1,6), {val := some (bl false)}), ((3,2), {sym := true}), ((4, 2), { sym := true, cells := some (inpsL ws) }), ((5,5), {val := some (bl false)})])
              (ps := [bl (((i :: ws).length : Int) == 0) = bl false, decide ((0 : Int) ≤ 0 ∧ (0 : Int) < ((i :: ws).length : Int)) = true, slIn 1 ((i :: ws).length : Int) ((i :: ws).length : Int) ((i :: ws).length : Int) none none = true, pieceA 6 1 ((i :: ws).length : Int) (inpsL (i :: ws)) = inpsL ws, bl (decide (i.kind ≥ 1)) = bl false])
              (by kernel_rfl) ⟨len_ne i ws, at0 i ws, slIn_tail i ws, piece_tail i ws, by rw [decide_eq_false h1], trivial⟩
          rw [e0] at key
          have e : Dev.nextD ⟨a, g, false, true, he, ho, i :: ws⟩ = (⟨a, g, false, true, he, ho, ws⟩, i, true) := by simp [Dev.nextD, isDown, h1]
          rw [e]
          exact key
end Go.Proofs.Ytkgiphabcopioaa
