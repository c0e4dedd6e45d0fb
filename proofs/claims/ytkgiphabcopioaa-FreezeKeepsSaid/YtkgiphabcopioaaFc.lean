/- The functions of the chapter that take in and hand out inputs. By the prover of this seat. -/
import Derived.Test.YtkgiphabcopioaaFb
set_option linter.unusedVariables false
set_option maxRecDepth 100000
namespace Go.Proofs.Ytkgiphabcopioaa
open Go.RowKit Go.Pm
theorem waiting_ok (d : Dev) (hl : d.waits.length ≤ 2000000) : Pu 14 [A (devL d)] (slI d.waits) :=
  pure_of (hs := hint [((1, 2), { call := some (slI d.waits) })]) (ps := [Pu 26 [slI d.waits] (slI d.waits)]) (by kernel_rfl) ⟨clone_ok _ hl, trivial⟩
theorem sl_fix {n : Nat} {l : List Inp} (h : n = l.length) : AV.sl n (((inpsL l).drop 0).take (n * 6)) = slI l := by subst h; rw [List.drop_zero, take_inps]; rfl
def Dev.feedD (d : Dev) (i : Inp) : Dev := { d with waits := d.waits ++ [i] }
def zI : List AV := inpL Inp.zero
theorem replZ_len (n : Nat) : (replZ n zI).length = n * 6 := by
  induction n with
  | zero => rfl
  | succ n ih => simp only [replZ, List.replicate_succ, List.flatten_cons, List.length_append] at ih ⊢; rw [ih]; simp [zI, inpL]; omega
theorem splice_all (l : List Inp) : splice (replZ l.length zI) 0 ((((inpsL l).take (l.length * 6)).take (min l.length l.length * 6))) = inpsL l := by
  rw [take_inps, Nat.min_self, take_inps]
  simp [splice, len_inps, replZ_len]
theorem wrap_small {n : Int} (h0 : -9223372036854775808 ≤ n) (h : n ≤ 9223372036854775807) : IntKind.i64.wrap n = n := by
  simp only [IntKind.wrap, IntKind.signed, IntKind.bits]
  simp
  omega
theorem feed_full (d : Dev) (i : Inp) (h : 256 ≤ d.waits.length) : Pu 10 [A (devL d), A (inpL i)] (.tup [A (devL d), i64 12]) :=
  pure_of (hs := hint [((1, 3), { val := some (bl true) })]) (ps := [bl (decide ((d.waits.length : Int) ≥ 256)) = bl true]) (by kernel_rfl) ⟨by rw [decide_t (by omega)], trivial⟩
theorem feed_ok (d : Dev) (i : Inp) (h : d.waits.length < 256) : Pu 10 [A (devL d), A (inpL i)] (.tup [A (devL (d.feedD i)), i64 0]) := by
  have h1 : Pu 10 [A (devL d), A (inpL i)] (.tup [A (devR d (.sl (d.waits.length + 1) (((inpsL (d.waits ++ [i])).drop 0).take ((d.waits.length + 1) * 6)))), i64 0]) :=
    pure_said (hs := hint [((1, 3), { val := some (bl false) }), ((3, 7), { sym := true }), ((4, 3), { sym := true, cells := some (inpsL d.waits)}), ((5, 3), { sym := true, cells := some (inpsL (d.waits ++ [i])) })])
      (ps := [bl (decide ((d.waits.length : Int) ≥ 256)) = bl false,
        decide ((0 : Int) ≤ d.waits.length ∧ (d.waits.length : Int) ≤ IntKind.i64.wrap (d.waits.length + 1) ∧ IntKind.i64.wrap (d.waits.length + 1) * 48 ≤ 140737488355328 ∧ IntKind.i64.wrap (d.waits.length + 1) ≤ 140737488355328) = true,
        decide (0 + d.waits.length * 6 ≤ d.waits.length * 6) = true, true = true, decide (((inpsL d.waits).take (d.waits.length * 6)).length = d.waits.length * 6) = true,
        splice (replZ d.waits.length zI) 0 (((inpsL d.waits).take (d.waits.length * 6)).take (min d.waits.length d.waits.length * 6)) = inpsL d.waits,
        decide (d.waits.length * 6 = d.waits.length * 6 ∧ 0 ≤ d.waits.length * 6 ∧ d.waits.length * 6 = (inpsL d.waits).length) = true,
        decide ((d.waits.length + 1) * 48 ≤ 140737488355328) = true, true = true,
        inpsL d.waits ++ inpL i = inpsL (d.waits ++ [i]),
        ((inpsL (d.waits ++ [i])).all pureC && true) = true, true = true]) (by kernel_rfl)
      ⟨by rw [decide_eq_false (by omega)], decide_t (by rw [wrap_small (by omega) (by omega)]; omega), decide_t (by omega), rfl, decide_t (by rw [take_inps, len_inps]), splice_all _, decide_t ⟨rfl, Nat.zero_le _, (len_inps _).symm⟩, decide_t (by omega), rfl, by rw [inps_append]; simp [inpsL], by rw [pure_inps]; rfl, rfl, trivial⟩
  rw [sl_fix (by simp)] at h1
  exact h1
theorem rfeed_full (d : Dev) (i : Inp) (h : 256 ≤ d.waits.length) : Pu 31 [A (devL d), A (inpL i)] (.tup [A (devL d), i64 12]) :=
  pure_of (hs := hint [((1, 3), { val := some (bl true) })]) (ps := [bl (decide ((d.waits.length : Int) ≥ 256)) = bl true]) (by kernel_rfl) ⟨by rw [decide_t (by omega)], trivial⟩
theorem rfeed_ok (d : Dev) (i : Inp) (h : d.waits.length < 256) : Pu 31 [A (devL d), A (inpL i)] (.tup [A (devL (d.feedD i)), i64 0]) := by
  have h1 : Pu 31 [A (devL d), A (inpL i)] (.tup [A (devR d (.sl (d.waits.length + 1) (((inpsL (d.waits ++ [i])).drop 0).take ((d.waits.length + 1) * 6)))), i64 0]) :=
    pure_said (hs := hint [((1, 3), { val := some (bl false) }), ((4, 3), { sym := true, cells := some (inpsL d.waits)}), ((5, 3), { sym := true, cells := some (inpsL (d.waits ++ [i])) })])
      (ps := [bl (decide ((d.waits.length : Int) ≥ 256)) = bl false,
        decide (d.waits.length * 48 ≤ 140737488355328) = true, decide (((inpsL d.waits).take (d.waits.length * 6)).length = d.waits.length * 6) = true,
        (inpsL d.waits).take (d.waits.length * 6) = inpsL d.waits,
        decide (d.waits.length * 6 = d.waits.length * 6 ∧ 0 ≤ d.waits.length * 6 ∧ d.waits.length * 6 = (inpsL d.waits).length) = true,
        decide ((d.waits.length + 1) * 48 ≤ 140737488355328) = true, true = true,
        inpsL d.waits ++ inpL i = inpsL (d.waits ++ [i]),
        ((inpsL (d.waits ++ [i])).all pureC && true) = true, true = true]) (by kernel_rfl)
      ⟨by rw [decide_eq_false (by omega)], decide_t (by omega), decide_t (by rw [take_inps, len_inps]), take_inps _, decide_t ⟨rfl, Nat.zero_le _, (len_inps _).symm⟩, decide_t (by omega), rfl, by rw [inps_append]; simp [inpsL], by rw [pure_inps]; rfl, rfl, trivial⟩
  rw [sl_fix (by simp)] at h1
  exact h1
def isDown (i : Inp) : Bool := decide (1 ≤ i.kind) && decide (i.kind ≤ 4)
def Dev.nextD (d : Dev) : Dev × Inp × Bool := match d.frozen, d.waits with
  | false, i :: ws => (if d.steps = true ∧ isDown i = true then { d with waits := ws, frozen := true, steps := false } else { d with waits := ws }, i, true)
  | _, _ => (d, Inp.zero, false)
end Go.Proofs.Ytkgiphabcopioaa
