/- The law of replays: its loop. By the prover of this seat. -/
import Derived.Test.YtkgiphabcopioaaFf
set_option linter.unusedVariables false
set_option maxRecDepth 100000
namespace Go.Proofs.Ytkgiphabcopioaa
open Go.RowKit Go.Pm
noncomputable def rBody : Code := loopOf Try.prog 6 5
def rDev (a : Grab) (i : Inp) (ws : List Inp) : Dev := { Dev.zero with act := a, grabbed := true, frozen := true, held := i, holds := true, waits := ws }
def rFg : Fg := { ks := [2, 3, 4, 7, 35, 36, 37], l := [0, 1, 2] }
def rSt (a : Grab) (i : Inp) (ws : List Inp) (k : Int) (pre : List Inp) : St := ⟨mkT 133 [(2, slI ws), (3, .ptr 0 0), (4, .ptr 1 0), (7, .ptr 2 0), (35, slI ws), (36, i64 ws.length), (37, i64 k)], [.arr 8 (actL a) 0, .arr 6 (inpL i) 0, .arr 19 (devL (rDev a i pre)) 0]⟩
theorem i64_wrap {k : Int} (h0 : -9223372036854775808 ≤ k) (h : k ≤ 9223372036854775807) : i64 (IntKind.i64.wrap k) = i64 k := by rw [wrap_small h0 h]
theorem drop_at {pre rest ws : List Inp} {j : Inp} (h : pre ++ j :: rest = ws) : (inpsL ws).drop (pre.length * 6) = inpsL (j :: rest) := by
  rw [inps_drop, ← h, List.drop_left]
theorem rLoop (a : Grab) (i : Inp) (ws : List Inp) (hw : ws.length ≤ 60) : ∀ (rest pre : List Inp), pre ++ rest = ws → LoopT C0 rBody (rSt a i ws (pre.length : Nat) pre) (.exit 0) (rSt a i ws (ws.length : Nat) ws) := by
  intro rest
  induction rest with
  | nil =>
    intro pre h
    simp at h
    subst h
    exact LoopT.fin (hs := hint [((5,0), {val := some (bl false)})]) (f := rFg) (ps := [bl (decide ((pre.length : Int) < (pre.length : Int))) = bl false, true = true, true = true, true = true, true = true]) (by kernel_rfl) ⟨by rw [decide_eq_false (by omega)], rfl, rfl, rfl, rfl, trivial⟩ (by decide)
  | cons j rest ih =>
    intro pre h
    have hl : pre.length < ws.length := by rw [← h]; simp
    have h2 := ih (pre ++ [j]) (by simpa using h)
    rw [List.length_append, List.length_singleton] at h2
    exact LoopT.go (hs := hint [((5,0), {val := some (bl true)}), ((6,0), {sym := true, cells := some (inpsL (j :: rest))}), ((7, 2), {call := some (.tup [A (devL (rDev a i (pre ++ [j]))), i64 0])}), ((8,0), {val := some (i64 ((pre.length + 1 : Nat) : Int))})]) (f := rFg)
      (ps := [bl (decide ((pre.length : Int) < (ws.length : Int))) = bl true, decide ((0 : Int) ≤ (pre.length : Int) ∧ (pre.length : Int) < (ws.length : Int)) = true, (inpsL ws).drop (pre.length * 6) = inpsL (j :: rest),
        Pu 10 [A (devL (rDev a i pre)), A (inpL j)] (.tup [A (devL (rDev a i (pre ++ [j]))), i64 0]), i64 (IntKind.i64.wrap ((pre.length : Int) + 1)) = i64 ((pre.length + 1 : Nat) : Int), true = true, true = true, true = true, true = true])
      (by kernel_rfl) ⟨by rw [decide_t (by omega)], decide_t (by omega), drop_at h, feed_ok (rDev a i pre) j (by show pre.length < 256; omega), i64_wrap (by omega) (by omega), rfl, rfl, rfl, rfl, trivial⟩ h2
end Go.Proofs.Ytkgiphabcopioaa
