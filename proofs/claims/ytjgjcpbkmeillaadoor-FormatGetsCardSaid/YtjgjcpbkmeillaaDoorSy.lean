/- How many bytes a form has at least; the same fields; light ones. By the prover of this seat. -/
import Derived.Test.YtjgjcpbkmeillaaDoorSs
set_option linter.unusedVariables false
set_option linter.unusedSimpArgs false
set_option maxRecDepth 100000
set_option maxHeartbeats 4000000
namespace Go.Proofs.YtjgjcpbkmeillaaDoor
open Go.RowKit Go.Pm
def sumW (zs : List Int) : Nat → Nat
  | 0 => 0
  | k + 1 => sumW zs k + wdD (nth zs k)
theorem wd_le {z : Int} (h : szB z = true) : 1 ≤ wdD z ∧ wdD z ≤ 4 := by
  unfold szB at h
  cases hk : knownD z with
  | none => rw [hk] at h; cases h
  | some s => rcases known_cases hk with ⟨e, _⟩ | ⟨e, _⟩ | ⟨e, _⟩ | ⟨e, _⟩ | ⟨e, _⟩ | ⟨e, _⟩ <;> rw [e] <;> decide
theorem sumW_le {zs : List Int} : ∀ k, (∀ j, j < k → szB (nth zs j) = true) → sumW zs k ≤ 4 * k := by
  intro k
  induction k with
  | zero => intro _; exact Nat.le_refl _
  | succ k ih =>
    intro h
    have := ih (fun j hj => h j (by omega))
    have := wd_le (h k (by omega))
    rw [sumW]
    omega
def leastD (f : Fm) : Nat := if checkD f = 0 then sumW f.fixed f.fixed.length + padN (sumW f.fixed f.fixed.length) + (if f.bytes = true then 4 else 0) + (if f.list = 0 then 0 else 4) else 0
noncomputable def leB : Code := loopOf Tryd.prog 16 5
def leS (f : Fm) (k n : Nat) : St := ⟨mkT 35 [(1, .ptr 0 0), (3, i64 n), (10, slJ f.fixed), (11, i64 f.fixed.length), (12, i64 k)], [.arr 3 (fmC f) 0]⟩
theorem le_step (f : Fm) (k n w : Nat) (hk : k < f.fixed.length) (hl : f.fixed.length ≤ 16) (hn : n ≤ 1000) (hw2 : w ≤ 4) (hw : Pu 38 [i64 (nth f.fixed k)] (i64 w)) : Tri C1 leB (leS f k n) .normal (leS f (k + 1) (n + w)) := by
  exact runF_ok (hs := hint [((5,0), {val := some (bl (true))}), ((6,0), {cells := some (eJ (nth f.fixed k) ++ List.flatMap eJ (List.drop (k + (1 : Nat)) f.fixed)), sym := true}), ((7,2), {call := some ((i64 (↑w : Int)))}), ((7,3), {val := some (i64 ((↑n : Int) + (↑w : Int)))}), ((8,0), {val := some (i64 ((↑k : Int) + (1 : Int)))})]) (f := { ks := [1, 3, 10, 11, 12], l := [0] }) (ps := [bl (decide ((↑k : Int) < (↑f.fixed.length : Int))) = bl (true), decide ((0 : Int) ≤ (↑k : Int) ∧ (↑k : Int) < (↑f.fixed.length : Int)) = true, ((List.drop ((↑k : Int).toNat * (1 : Nat)) (List.flatMap eJ f.fixed)) : List AV) = (eJ (nth f.fixed k) ++ List.flatMap eJ (List.drop (k + (1 : Nat)) f.fixed)), _, i64 (IntKind.i64.wrap ((↑n : Int) + (↑w : Int))) = i64 ((↑n : Int) + (↑w : Int)), i64 (IntKind.i64.wrap ((↑k : Int) + (1 : Int))) = i64 ((↑k : Int) + (1 : Int)), true = true, true = true]) (by kernel_rfl) ⟨(bdT (by omega)), (by exact decide_t (by omega)), (by exact flat_nth (sz := 1) (k := k) (fun _ => rfl) (by omega)), (hw), (intE (by exact wrap_i64 (by omega) (by omega))), (intE (by exact wrap_i64 (by omega) (by omega))), rfl, rfl, trivial⟩
theorem le_end (f : Fm) (n : Nat) : LoopT C1 leB (leS f f.fixed.length n) (.exit 0) (leS f f.fixed.length n) := by
  exact LoopT.fin (hs := hint [((5,0), {val := some (bl (false))})]) (f := { ks := [1, 3, 10, 11, 12], l := [0] }) (ps := [bl (decide ((↑f.fixed.length : Int) < (↑f.fixed.length : Int))) = bl (false), true = true, true = true]) (by kernel_rfl) ⟨(bdF (by omega)), rfl, rfl, trivial⟩ (by decide)
noncomputable def lrB : Code := loopOf Tryd.prog 17 5
def lrS (f : Fm) (k n : Nat) : St := ⟨mkT 38 [(1, .ptr 0 0), (3, i64 n), (4, i64 k)], [.arr 3 (fmC f) 0]⟩
theorem lr_step (f : Fm) (k n w : Nat) (hk : k < f.fixed.length) (hl : f.fixed.length ≤ 16) (hn : n ≤ 1000) (hw2 : w ≤ 4) (hw : Pu 39 [i64 (nth f.fixed k)] (i64 w)) : Tri C1 lrB (lrS f k n) .normal (lrS f (k + 1) (n + w)) := by
  exact runF_ok (hs := hint [((5,4), {val := some (bl (true))}), ((7,4), {cells := some (eJ (nth f.fixed k) ++ List.flatMap eJ (List.drop (k + (1 : Nat)) f.fixed)), sym := true}), ((7,6), {call := some ((i64 (↑w : Int)))}), ((7,7), {val := some (i64 ((↑n : Int) + (↑w : Int)))}), ((6,1), {val := some (i64 ((↑k : Int) + (1 : Int)))})]) (f := { ks := [1, 3, 4], l := [0] }) (ps := [bl (decide ((↑k : Int) < (↑f.fixed.length : Int))) = bl (true), decide ((0 : Int) ≤ (↑k : Int) ∧ (↑k : Int) < (↑f.fixed.length : Int)) = true, ((List.drop ((↑k : Int).toNat * (1 : Nat)) (List.flatMap eJ f.fixed)) : List AV) = (eJ (nth f.fixed k) ++ List.flatMap eJ (List.drop (k + (1 : Nat)) f.fixed)), _, i64 (IntKind.i64.wrap ((↑n : Int) + (↑w : Int))) = i64 ((↑n : Int) + (↑w : Int)), i64 (IntKind.i64.wrap ((↑k : Int) + (1 : Int))) = i64 ((↑k : Int) + (1 : Int)), true = true, true = true]) (by kernel_rfl) ⟨(bdT (by omega)), (by exact decide_t (by omega)), (by exact flat_nth (sz := 1) (k := k) (fun _ => rfl) (by omega)), (hw), (intE (by exact wrap_i64 (by omega) (by omega))), (intE (by exact wrap_i64 (by omega) (by omega))), rfl, rfl, trivial⟩
theorem lr_end (f : Fm) (n : Nat) : LoopT C1 lrB (lrS f f.fixed.length n) (.exit 0) (lrS f f.fixed.length n) := by
  exact LoopT.fin (hs := hint [((5,4), {val := some (bl (false))})]) (f := { ks := [1, 3, 4], l := [0] }) (ps := [bl (decide ((↑f.fixed.length : Int) < (↑f.fixed.length : Int))) = bl (false), true = true, true = true]) (by kernel_rfl) ⟨(bdF (by omega)), rfl, rfl, trivial⟩ (by decide)
noncomputable def lpB : Code := loopOf Tryd.prog 17 8
def lpS (f : Fm) (n : Nat) : St := ⟨mkT 38 [(1, .ptr 0 0), (3, i64 n)], [.arr 3 (fmC f) 0]⟩
theorem lp_step (f : Fm) (n : Nat) (hn : n ≤ 2000) (h : ¬ n % 4 = 0) : Tri C1 lpB (lpS f n) .normal (lpS f (n + 1)) := by
  exact runF_ok (hs := hint [((8,1), {val := some (i64 ((↑n : Int) % (4 : Int)))}), ((8,2), {val := some (bl (true))}), ((9,1), {val := some (i64 ((↑n : Int) + (1 : Int)))})]) (f := { ks := [1, 3], l := [0] }) (ps := [i64 ((↑n : Int).tmod (4 : Int)) = i64 ((↑n : Int) % (4 : Int)), bl ((↑n : Int) % (4 : Int) != (0 : Int)) = bl (true), i64 (IntKind.i64.wrap ((↑n : Int) + (1 : Int))) = i64 ((↑n : Int) + (1 : Int)), true = true, true = true]) (by kernel_rfl) ⟨(intE (Int.tmod_eq_emod_of_nonneg (by omega))), (neF (by omega)), (intE (by exact wrap_i64 (by omega) (by omega))), rfl, rfl, trivial⟩
theorem lp_end (f : Fm) (n : Nat) (hn : n ≤ 2000) (h : n % 4 = 0) : LoopT C1 lpB (lpS f n) (.exit 2) (lpS f n) := by
  exact LoopT.fin (hs := hint [((8,1), {val := some (i64 ((↑n : Int) % (4 : Int)))}), ((8,2), {val := some (bl (false))})]) (f := { ks := [1, 3], l := [0] }) (ps := [i64 ((↑n : Int).tmod (4 : Int)) = i64 ((↑n : Int) % (4 : Int)), bl ((↑n : Int) % (4 : Int) != (0 : Int)) = bl (false), true = true, true = true]) (by kernel_rfl) ⟨(intE (Int.tmod_eq_emod_of_nonneg (by omega))), (neT (by omega)), rfl, rfl, trivial⟩ (by decide)
theorem least_e (f : Fm) (e : Int) (he : ¬ e = 0) (h : Pu 14 [fmA f] (i64 e)) : Pu 16 [fmA f] (i64 0) := by
  exact pure_of (hs := hint [((1,1), {call := some ((i64 e))}), ((1,2), {val := some (bl (true))})]) (ps := [_, bl (e != (0 : Int)) = bl (true)]) (by kernel_rfl) ⟨(h), (neF (by assumption)), trivial⟩
theorem rleast_e (f : Fm) (e : Int) (he : ¬ e = 0) (h : Pu 15 [fmA f] (i64 e)) : Pu 17 [fmA f] (i64 0) := by
  exact pure_of (hs := hint [((1,1), {call := some ((i64 e))}), ((1,2), {val := some (bl (true))})]) (ps := [_, bl (e != (0 : Int)) = bl (true)]) (by kernel_rfl) ⟨(h), (neF (by assumption)), trivial⟩
theorem least_00 (f : Fm) (n p : Nat) (hn : n ≤ 1000) (hp3 : p ≤ 3) (h : Pu 14 [fmA f] (i64 0)) (hp : Pu 28 [i64 n] (i64 p)) (hb : f.bytes = false) (h0 : f.list = 0) (L : LoopT C1 leB (leS f 0 0) (.exit 0) (leS f f.fixed.length n)) : Pu 16 [fmA f] (i64 (n + p : Nat)) := by
  exact pure_cast (pure_of (hs := hint [((1,1), {call := some ((i64 (0 : Int)))}), ((5,1000), {loop := some ({ ks := [1, 3, 10, 11, 12], l := [0] }, leS f (0 : Nat) (0 : Nat), Ex.exit (0 : Nat), leS f f.fixed.length n)}), ((9,2), {call := some ((i64 (↑p : Int)))}), ((9,3), {val := some (i64 ((↑n : Int) + (↑p : Int)))}), ((10,1), {val := some (bl (false))}), ((12,2), {val := some (bl (false))})]) (r := i64 ((↑n : Int) + (↑p : Int))) (ps := [_, leS f (0 : Nat) (0 : Nat) = leS f (0 : Nat) (0 : Nat), _, true = true, true = true, _, i64 (IntKind.i64.wrap ((↑n : Int) + (↑p : Int))) = i64 ((↑n : Int) + (↑p : Int)), bl (f.bytes) = bl (false), bl (f.list != (0 : Int)) = bl (false)]) (by kernel_rfl) ⟨(h), rfl, L, rfl, rfl, (hp), (intE (by exact wrap_i64 (by omega) (by omega))), (bvF (by (simp; omega))), (neT (by assumption)), trivial⟩) (by (simp; done))
theorem rleast_00 (f : Fm) (n m : Nat) (hn : n ≤ 1000) (hm : m ≤ 1000) (h : Pu 15 [fmA f] (i64 0)) (hb : f.bytes = false) (h0 : f.list = 0) (L : LoopT C1 lrB (lrS f 0 0) (.exit 0) (lrS f f.fixed.length m)) (L2 : LoopT C1 lpB (lpS f m) (.exit 2) (lpS f n)) : Pu 17 [fmA f] (i64 (n : Nat)) := by
  exact pure_of (hs := hint [((1,1), {call := some ((i64 (0 : Int)))}), ((5,1000), {loop := some ({ ks := [1, 3, 4], l := [0] }, lrS f (0 : Nat) (0 : Nat), Ex.exit (0 : Nat), lrS f f.fixed.length m)}), ((8,1000), {loop := some ({ ks := [1, 3], l := [0] }, lpS f m, Ex.exit (2 : Nat), lpS f n)}), ((10,1), {val := some (bl (false))}), ((12,2), {val := some (bl (false))})]) (ps := [_, lrS f (0 : Nat) (0 : Nat) = lrS f (0 : Nat) (0 : Nat), _, true = true, true = true, lpS f m = lpS f m, _, true = true, true = true, bl (f.bytes) = bl (false), bl (f.list != (0 : Int)) = bl (false)]) (by kernel_rfl) ⟨(h), rfl, L, rfl, rfl, rfl, L2, rfl, rfl, (bvF (by (simp; omega))), (neT (by assumption)), trivial⟩
theorem least_01 (f : Fm) (n p : Nat) (hn : n ≤ 1000) (hp3 : p ≤ 3) (h : Pu 14 [fmA f] (i64 0)) (hp : Pu 28 [i64 n] (i64 p)) (hb : f.bytes = false) (h0 : ¬ f.list = 0) (L : LoopT C1 leB (leS f 0 0) (.exit 0) (leS f f.fixed.length n)) : Pu 16 [fmA f] (i64 (n + p + 4 : Nat)) := by
  exact pure_cast (pure_of (hs := hint [((1,1), {call := some ((i64 (0 : Int)))}), ((5,1000), {loop := some ({ ks := [1, 3, 10, 11, 12], l := [0] }, leS f (0 : Nat) (0 : Nat), Ex.exit (0 : Nat), leS f f.fixed.length n)}), ((9,2), {call := some ((i64 (↑p : Int)))}), ((9,3), {val := some (i64 ((↑n : Int) + (↑p : Int)))}), ((10,1), {val := some (bl (false))}), ((12,2), {val := some (bl (true))}), ((13,1), {val := some (i64 ((↑n : Int) + (↑p : Int) + (4 : Int)))})]) (r := i64 ((↑n : Int) + (↑p : Int) + (4 : Int))) (ps := [_, leS f (0 : Nat) (0 : Nat) = leS f (0 : Nat) (0 : Nat), _, true = true, true = true, _, i64 (IntKind.i64.wrap ((↑n : Int) + (↑p : Int))) = i64 ((↑n : Int) + (↑p : Int)), bl (f.bytes) = bl (false), bl (f.list != (0 : Int)) = bl (true), i64 (IntKind.i64.wrap ((↑n : Int) + (↑p : Int) + (4 : Int))) = i64 ((↑n : Int) + (↑p : Int) + (4 : Int))]) (by kernel_rfl) ⟨(h), rfl, L, rfl, rfl, (hp), (intE (by exact wrap_i64 (by omega) (by omega))), (bvF (by (simp; omega))), (neF (by assumption)), (intE (by exact wrap_i64 (by omega) (by omega))), trivial⟩) (by (simp; done))
theorem rleast_01 (f : Fm) (n m : Nat) (hn : n ≤ 1000) (hm : m ≤ 1000) (h : Pu 15 [fmA f] (i64 0)) (hb : f.bytes = false) (h0 : ¬ f.list = 0) (L : LoopT C1 lrB (lrS f 0 0) (.exit 0) (lrS f f.fixed.length m)) (L2 : LoopT C1 lpB (lpS f m) (.exit 2) (lpS f n)) : Pu 17 [fmA f] (i64 (n + 4 : Nat)) := by
  exact pure_cast (pure_of (hs := hint [((1,1), {call := some ((i64 (0 : Int)))}), ((5,1000), {loop := some ({ ks := [1, 3, 4], l := [0] }, lrS f (0 : Nat) (0 : Nat), Ex.exit (0 : Nat), lrS f f.fixed.length m)}), ((8,1000), {loop := some ({ ks := [1, 3], l := [0] }, lpS f m, Ex.exit (2 : Nat), lpS f n)}), ((10,1), {val := some (bl (false))}), ((12,2), {val := some (bl (true))}), ((13,1), {val := some (i64 ((↑n : Int) + (4 : Int)))})]) (r := i64 ((↑n : Int) + (4 : Int))) (ps := [_, lrS f (0 : Nat) (0 : Nat) = lrS f (0 : Nat) (0 : Nat), _, true = true, true = true, lpS f m = lpS f m, _, true = true, true = true, bl (f.bytes) = bl (false), bl (f.list != (0 : Int)) = bl (true), i64 (IntKind.i64.wrap ((↑n : Int) + (4 : Int))) = i64 ((↑n : Int) + (4 : Int))]) (by kernel_rfl) ⟨(h), rfl, L, rfl, rfl, rfl, L2, rfl, rfl, (bvF (by (simp; omega))), (neF (by assumption)), (intE (by exact wrap_i64 (by omega) (by omega))), trivial⟩) (by (simp; done))
theorem least_10 (f : Fm) (n p : Nat) (hn : n ≤ 1000) (hp3 : p ≤ 3) (h : Pu 14 [fmA f] (i64 0)) (hp : Pu 28 [i64 n] (i64 p)) (hb : f.bytes = true) (h0 : f.list = 0) (L : LoopT C1 leB (leS f 0 0) (.exit 0) (leS f f.fixed.length n)) : Pu 16 [fmA f] (i64 (n + p + 4 : Nat)) := by
  exact pure_cast (pure_of (hs := hint [((1,1), {call := some ((i64 (0 : Int)))}), ((5,1000), {loop := some ({ ks := [1, 3, 10, 11, 12], l := [0] }, leS f (0 : Nat) (0 : Nat), Ex.exit (0 : Nat), leS f f.fixed.length n)}), ((9,2), {call := some ((i64 (↑p : Int)))}), ((9,3), {val := some (i64 ((↑n : Int) + (↑p : Int)))}), ((10,1), {val := some (bl (true))}), ((11,1), {val := some (i64 ((↑n : Int) + (↑p : Int) + (4 : Int)))}), ((12,2), {val := some (bl (false))})]) (r := i64 ((↑n : Int) + (↑p : Int) + (4 : Int))) (ps := [_, leS f (0 : Nat) (0 : Nat) = leS f (0 : Nat) (0 : Nat), _, true = true, true = true, _, i64 (IntKind.i64.wrap ((↑n : Int) + (↑p : Int))) = i64 ((↑n : Int) + (↑p : Int)), bl (f.bytes) = bl (true), i64 (IntKind.i64.wrap ((↑n : Int) + (↑p : Int) + (4 : Int))) = i64 ((↑n : Int) + (↑p : Int) + (4 : Int)), bl (f.list != (0 : Int)) = bl (false)]) (by kernel_rfl) ⟨(h), rfl, L, rfl, rfl, (hp), (intE (by exact wrap_i64 (by omega) (by omega))), (bvT (by assumption)), (intE (by exact wrap_i64 (by omega) (by omega))), (neT (by assumption)), trivial⟩) (by (simp; done))
theorem rleast_10 (f : Fm) (n m : Nat) (hn : n ≤ 1000) (hm : m ≤ 1000) (h : Pu 15 [fmA f] (i64 0)) (hb : f.bytes = true) (h0 : f.list = 0) (L : LoopT C1 lrB (lrS f 0 0) (.exit 0) (lrS f f.fixed.length m)) (L2 : LoopT C1 lpB (lpS f m) (.exit 2) (lpS f n)) : Pu 17 [fmA f] (i64 (n + 4 : Nat)) := by
  exact pure_cast (pure_of (hs := hint [((1,1), {call := some ((i64 (0 : Int)))}), ((5,1000), {loop := some ({ ks := [1, 3, 4], l := [0] }, lrS f (0 : Nat) (0 : Nat), Ex.exit (0 : Nat), lrS f f.fixed.length m)}), ((8,1000), {loop := some ({ ks := [1, 3], l := [0] }, lpS f m, Ex.exit (2 : Nat), lpS f n)}), ((10,1), {val := some (bl (true))}), ((11,1), {val := some (i64 ((↑n : Int) + (4 : Int)))}), ((12,2), {val := some (bl (false))})]) (r := i64 ((↑n : Int) + (4 : Int))) (ps := [_, lrS f (0 : Nat) (0 : Nat) = lrS f (0 : Nat) (0 : Nat), _, true = true, true = true, lpS f m = lpS f m, _, true = true, true = true, bl (f.bytes) = bl (true), i64 (IntKind.i64.wrap ((↑n : Int) + (4 : Int))) = i64 ((↑n : Int) + (4 : Int)), bl (f.list != (0 : Int)) = bl (false)]) (by kernel_rfl) ⟨(h), rfl, L, rfl, rfl, rfl, L2, rfl, rfl, (bvT (by assumption)), (intE (by exact wrap_i64 (by omega) (by omega))), (neT (by assumption)), trivial⟩) (by (simp; done))
theorem least_11 (f : Fm) (n p : Nat) (hn : n ≤ 1000) (hp3 : p ≤ 3) (h : Pu 14 [fmA f] (i64 0)) (hp : Pu 28 [i64 n] (i64 p)) (hb : f.bytes = true) (h0 : ¬ f.list = 0) (L : LoopT C1 leB (leS f 0 0) (.exit 0) (leS f f.fixed.length n)) : Pu 16 [fmA f] (i64 (n + p + 4 + 4 : Nat)) := by
  exact pure_cast (pure_of (hs := hint [((1,1), {call := some ((i64 (0 : Int)))}), ((5,1000), {loop := some ({ ks := [1, 3, 10, 11, 12], l := [0] }, leS f (0 : Nat) (0 : Nat), Ex.exit (0 : Nat), leS f f.fixed.length n)}), ((9,2), {call := some ((i64 (↑p : Int)))}), ((9,3), {val := some (i64 ((↑n : Int) + (↑p : Int)))}), ((10,1), {val := some (bl (true))}), ((11,1), {val := some (i64 ((↑n : Int) + (↑p : Int) + (4 : Int)))}), ((12,2), {val := some (bl (true))}), ((13,1), {val := some (i64 ((↑n : Int) + (↑p : Int) + (4 : Int) + (4 : Int)))})]) (r := i64 ((↑n : Int) + (↑p : Int) + (4 : Int) + (4 : Int))) (ps := [_, leS f (0 : Nat) (0 : Nat) = leS f (0 : Nat) (0 : Nat), _, true = true, true = true, _, i64 (IntKind.i64.wrap ((↑n : Int) + (↑p : Int))) = i64 ((↑n : Int) + (↑p : Int)), bl (f.bytes) = bl (true), i64 (IntKind.i64.wrap ((↑n : Int) + (↑p : Int) + (4 : Int))) = i64 ((↑n : Int) + (↑p : Int) + (4 : Int)), bl (f.list != (0 : Int)) = bl (true), i64 (IntKind.i64.wrap ((↑n : Int) + (↑p : Int) + (4 : Int) + (4 : Int))) = i64 ((↑n : Int) + (↑p : Int) + (4 : Int) + (4 : Int))]) (by kernel_rfl) ⟨(h), rfl, L, rfl, rfl, (hp), (intE (by exact wrap_i64 (by omega) (by omega))), (bvT (by assumption)), (intE (by exact wrap_i64 (by omega) (by omega))), (neF (by assumption)), (intE (by exact wrap_i64 (by omega) (by omega))), trivial⟩) (by (simp; done))
theorem rleast_11 (f : Fm) (n m : Nat) (hn : n ≤ 1000) (hm : m ≤ 1000) (h : Pu 15 [fmA f] (i64 0)) (hb : f.bytes = true) (h0 : ¬ f.list = 0) (L : LoopT C1 lrB (lrS f 0 0) (.exit 0) (lrS f f.fixed.length m)) (L2 : LoopT C1 lpB (lpS f m) (.exit 2) (lpS f n)) : Pu 17 [fmA f] (i64 (n + 4 + 4 : Nat)) := by
  exact pure_cast (pure_of (hs := hint [((1,1), {call := some ((i64 (0 : Int)))}), ((5,1000), {loop := some ({ ks := [1, 3, 4], l := [0] }, lrS f (0 : Nat) (0 : Nat), Ex.exit (0 : Nat), lrS f f.fixed.length m)}), ((8,1000), {loop := some ({ ks := [1, 3], l := [0] }, lpS f m, Ex.exit (2 : Nat), lpS f n)}), ((10,1), {val := some (bl (true))}), ((11,1), {val := some (i64 ((↑n : Int) + (4 : Int)))}), ((12,2), {val := some (bl (true))}), ((13,1), {val := some (i64 ((↑n : Int) + (4 : Int) + (4 : Int)))})]) (r := i64 ((↑n : Int) + (4 : Int) + (4 : Int))) (ps := [_, lrS f (0 : Nat) (0 : Nat) = lrS f (0 : Nat) (0 : Nat), _, true = true, true = true, lpS f m = lpS f m, _, true = true, true = true, bl (f.bytes) = bl (true), i64 (IntKind.i64.wrap ((↑n : Int) + (4 : Int))) = i64 ((↑n : Int) + (4 : Int)), bl (f.list != (0 : Int)) = bl (true), i64 (IntKind.i64.wrap ((↑n : Int) + (4 : Int) + (4 : Int))) = i64 ((↑n : Int) + (4 : Int) + (4 : Int))]) (by kernel_rfl) ⟨(h), rfl, L, rfl, rfl, rfl, L2, rfl, rfl, (bvT (by assumption)), (intE (by exact wrap_i64 (by omega) (by omega))), (neF (by assumption)), (intE (by exact wrap_i64 (by omega) (by omega))), trivial⟩) (by (simp; done))
noncomputable def rrB : Code := loopOf Tryd.prog 47 4
def rrS (a b : List Int) (k : Nat) : St := ⟨mkT 26 [(0, slJ a), (1, slJ b), (5, i64 k)], []⟩
def rrH : St := ⟨mkT 26 [(4, bl false)], []⟩
theorem rr_step (a b : List Int) (k : Nat) (hk : k < a.length) (hab : a.length = b.length) (hl : a.length ≤ 1000000) (h : nth a k = nth b k) : Tri C1 rrB (rrS a b k) .normal (rrS a b (k + 1)) := by
  exact runF_ok (hs := hint [((4,3), {val := some (bl (true))}), ((6,2), {cells := some (eJ (nth a k) ++ List.flatMap eJ (List.drop (k + (1 : Nat)) a)), sym := true}), ((6,6), {cells := some (eJ (nth b k) ++ List.flatMap eJ (List.drop (k + (1 : Nat)) b)), sym := true}), ((6,8), {val := some (bl (false))}), ((5,1), {val := some (i64 ((↑k : Int) + (1 : Int)))})]) (f := { ks := [0, 1, 5] }) (ps := [bl (decide ((↑k : Int) < (↑a.length : Int))) = bl (true), decide ((0 : Int) ≤ (↑k : Int) ∧ (↑k : Int) < (↑a.length : Int)) = true, ((List.drop ((↑k : Int).toNat * (1 : Nat)) (List.flatMap eJ a)) : List AV) = (eJ (nth a k) ++ List.flatMap eJ (List.drop (k + (1 : Nat)) a)), decide ((0 : Int) ≤ (↑k : Int) ∧ (↑k : Int) < (↑b.length : Int)) = true, ((List.drop ((↑k : Int).toNat * (1 : Nat)) (List.flatMap eJ b)) : List AV) = (eJ (nth b k) ++ List.flatMap eJ (List.drop (k + (1 : Nat)) b)), bl (nth a k != nth b k) = bl (false), i64 (IntKind.i64.wrap ((↑k : Int) + (1 : Int))) = i64 ((↑k : Int) + (1 : Int)), true = true]) (by kernel_rfl) ⟨(bdT (by omega)), (by exact decide_t (by omega)), (by exact flat_nth (sz := 1) (k := k) (fun _ => rfl) (by omega)), (by exact decide_t (by omega)), (by exact flat_nth (sz := 1) (k := k) (fun _ => rfl) (by omega)), (neT (by assumption)), (intE (by exact wrap_i64 (by omega) (by omega))), rfl, trivial⟩
theorem rr_hit (a b : List Int) (k : Nat) (hk : k < a.length) (hab : a.length = b.length) (hl : a.length ≤ 1000000) (h : ¬ nth a k = nth b k) : LoopT C1 rrB (rrS a b k) .ret rrH := by
  exact LoopT.fin (hs := hint [((4,3), {val := some (bl (true))}), ((6,2), {cells := some (eJ (nth a k) ++ List.flatMap eJ (List.drop (k + (1 : Nat)) a)), sym := true}), ((6,6), {cells := some (eJ (nth b k) ++ List.flatMap eJ (List.drop (k + (1 : Nat)) b)), sym := true}), ((6,8), {val := some (bl (true))})]) (f := { ks := [4] }) (ps := [bl (decide ((↑k : Int) < (↑a.length : Int))) = bl (true), decide ((0 : Int) ≤ (↑k : Int) ∧ (↑k : Int) < (↑a.length : Int)) = true, ((List.drop ((↑k : Int).toNat * (1 : Nat)) (List.flatMap eJ a)) : List AV) = (eJ (nth a k) ++ List.flatMap eJ (List.drop (k + (1 : Nat)) a)), decide ((0 : Int) ≤ (↑k : Int) ∧ (↑k : Int) < (↑b.length : Int)) = true, ((List.drop ((↑k : Int).toNat * (1 : Nat)) (List.flatMap eJ b)) : List AV) = (eJ (nth b k) ++ List.flatMap eJ (List.drop (k + (1 : Nat)) b)), bl (nth a k != nth b k) = bl (true), true = true]) (by kernel_rfl) ⟨(bdT (by omega)), (by exact decide_t (by omega)), (by exact flat_nth (sz := 1) (k := k) (fun _ => rfl) (by omega)), (by exact decide_t (by omega)), (by exact flat_nth (sz := 1) (k := k) (fun _ => rfl) (by omega)), (neF (by assumption)), rfl, trivial⟩ (by decide)
theorem rr_end (a b : List Int) : LoopT C1 rrB (rrS a b a.length) (.exit 0) (rrS a b a.length) := by
  exact LoopT.fin (hs := hint [((4,3), {val := some (bl (false))})]) (f := { ks := [0, 1, 5] }) (ps := [bl (decide ((↑a.length : Int) < (↑a.length : Int))) = bl (false), true = true]) (by kernel_rfl) ⟨(bdF (by omega)), rfl, trivial⟩ (by decide)
theorem rr_ne (a b : List Int) (h : ¬ a.length = b.length) : Pu 47 [slJ a, slJ b] (bl false) := by
  exact pure_of (hs := hint [((1,4), {val := some (bl (true))})]) (ps := [bl ((↑a.length : Int) != (↑b.length : Int)) = bl (true)]) (by kernel_rfl) ⟨(neF (by omega)), trivial⟩
theorem rr_f (a b : List Int) (h : a.length = b.length) (L : LoopT C1 rrB (rrS a b 0) .ret rrH) : Pu 47 [slJ a, slJ b] (bl false) := by
  exact pure_of (hs := hint [((1,4), {val := some (bl (false))}), ((4,1000), {loop := some ({ ks := [0, 1, 5] }, rrS a b (0 : Nat), Ex.ret, rrH)})]) (ps := [bl ((↑a.length : Int) != (↑b.length : Int)) = bl (false), rrS a b (0 : Nat) = rrS a b (0 : Nat), _, true = true]) (by kernel_rfl) ⟨(neT (by omega)), rfl, L, rfl, trivial⟩
theorem rr_t (a b : List Int) (h : a.length = b.length) (L : LoopT C1 rrB (rrS a b 0) (.exit 0) (rrS a b a.length)) : Pu 47 [slJ a, slJ b] (bl true) := by
  exact pure_of (hs := hint [((1,4), {val := some (bl (false))}), ((4,1000), {loop := some ({ ks := [0, 1, 5] }, rrS a b (0 : Nat), Ex.exit (0 : Nat), rrS a b a.length)})]) (ps := [bl ((↑a.length : Int) != (↑b.length : Int)) = bl (false), rrS a b (0 : Nat) = rrS a b (0 : Nat), _, true = true]) (by kernel_rfl) ⟨(neT (by omega)), rfl, L, rfl, trivial⟩
theorem rr_ok (a b : List Int) (hl : a.length ≤ 1000000) : Pu 47 [slJ a, slJ b] (bl (decide (a = b))) := by
  by_cases h : a.length = b.length
  · cases hi : idxD (fun i => !decide (nth a i = nth b i)) (List.range a.length) with
    | some i =>
      obtain ⟨h1, h2, h3⟩ := idx_some hi
      rw [List.length_range] at h1
      rw [nth_range _ _ h1] at h2
      have hne : ¬ nth a i = nth b i := by simpa using h2
      rw [decide_eq_false (fun e => hne (by rw [e]))]
      exact rr_f a b h (LoopT.count (rrS a b) i (fun k hk => rr_step a b k (by omega) h hl (by
        have := h3 k hk
        rw [nth_range _ _ (by omega)] at this
        simpa using this)) (rr_hit a b i h1 h hl hne) 0 (Nat.zero_le _))
    | none =>
      have hall : ∀ k, k < a.length → nth a k = nth b k := fun k hk => by
        have := idx_none hi k (by rw [List.length_range]; exact hk)
        rw [nth_range _ _ hk] at this
        simpa using this
      have e : a = b := List.ext_getElem h fun k h1 h2 => by
        have := hall k h1
        rwa [nth_eq h1, nth_eq h2] at this
      rw [decide_eq_true e]
      exact rr_t a b h (LoopT.count (rrS a b) a.length (fun k hk => rr_step a b k hk h hl (hall k hk)) (rr_end a b) 0 (Nat.zero_le _))
  · rw [decide_eq_false (fun e => h (by rw [e]))]
    exact rr_ne a b h
noncomputable def prB : Code := loopOf Tryd.prog 48 4
def prS (a b : List Int) (k : Nat) : St := ⟨mkT 26 [(0, slJ a), (1, slJ b), (12, i64 a.length), (13, i64 k)], []⟩
def prH : St := ⟨mkT 26 [(4, bl false)], []⟩
theorem pr_step (a b : List Int) (k : Nat) (hk : k < a.length) (hab : a.length = b.length) (hl : a.length ≤ 1000000) (h : nth a k = nth b k) : Tri C1 prB (prS a b k) .normal (prS a b (k + 1)) := by
  exact runF_ok (hs := hint [((4,0), {val := some (bl (true))}), ((6,2), {cells := some (eJ (nth a k) ++ List.flatMap eJ (List.drop (k + (1 : Nat)) a)), sym := true}), ((6,6), {cells := some (eJ (nth b k) ++ List.flatMap eJ (List.drop (k + (1 : Nat)) b)), sym := true}), ((6,8), {val := some (bl (false))}), ((8,0), {val := some (i64 ((↑k : Int) + (1 : Int)))})]) (f := { ks := [0, 1, 12, 13] }) (ps := [bl (decide ((↑k : Int) < (↑a.length : Int))) = bl (true), decide ((0 : Int) ≤ (↑k : Int) ∧ (↑k : Int) < (↑a.length : Int)) = true, ((List.drop ((↑k : Int).toNat * (1 : Nat)) (List.flatMap eJ a)) : List AV) = (eJ (nth a k) ++ List.flatMap eJ (List.drop (k + (1 : Nat)) a)), decide ((0 : Int) ≤ (↑k : Int) ∧ (↑k : Int) < (↑b.length : Int)) = true, ((List.drop ((↑k : Int).toNat * (1 : Nat)) (List.flatMap eJ b)) : List AV) = (eJ (nth b k) ++ List.flatMap eJ (List.drop (k + (1 : Nat)) b)), bl (nth a k != nth b k) = bl (false), i64 (IntKind.i64.wrap ((↑k : Int) + (1 : Int))) = i64 ((↑k : Int) + (1 : Int)), true = true]) (by kernel_rfl) ⟨(bdT (by omega)), (by exact decide_t (by omega)), (by exact flat_nth (sz := 1) (k := k) (fun _ => rfl) (by omega)), (by exact decide_t (by omega)), (by exact flat_nth (sz := 1) (k := k) (fun _ => rfl) (by omega)), (neT (by assumption)), (intE (by exact wrap_i64 (by omega) (by omega))), rfl, trivial⟩
theorem pr_hit (a b : List Int) (k : Nat) (hk : k < a.length) (hab : a.length = b.length) (hl : a.length ≤ 1000000) (h : ¬ nth a k = nth b k) : LoopT C1 prB (prS a b k) .ret prH := by
  exact LoopT.fin (hs := hint [((4,0), {val := some (bl (true))}), ((6,2), {cells := some (eJ (nth a k) ++ List.flatMap eJ (List.drop (k + (1 : Nat)) a)), sym := true}), ((6,6), {cells := some (eJ (nth b k) ++ List.flatMap eJ (List.drop (k + (1 : Nat)) b)), sym := true}), ((6,8), {val := some (bl (true))})]) (f := { ks := [4] }) (ps := [bl (decide ((↑k : Int) < (↑a.length : Int))) = bl (true), decide ((0 : Int) ≤ (↑k : Int) ∧ (↑k : Int) < (↑a.length : Int)) = true, ((List.drop ((↑k : Int).toNat * (1 : Nat)) (List.flatMap eJ a)) : List AV) = (eJ (nth a k) ++ List.flatMap eJ (List.drop (k + (1 : Nat)) a)), decide ((0 : Int) ≤ (↑k : Int) ∧ (↑k : Int) < (↑b.length : Int)) = true, ((List.drop ((↑k : Int).toNat * (1 : Nat)) (List.flatMap eJ b)) : List AV) = (eJ (nth b k) ++ List.flatMap eJ (List.drop (k + (1 : Nat)) b)), bl (nth a k != nth b k) = bl (true), true = true]) (by kernel_rfl) ⟨(bdT (by omega)), (by exact decide_t (by omega)), (by exact flat_nth (sz := 1) (k := k) (fun _ => rfl) (by omega)), (by exact decide_t (by omega)), (by exact flat_nth (sz := 1) (k := k) (fun _ => rfl) (by omega)), (neF (by assumption)), rfl, trivial⟩ (by decide)
theorem pr_end (a b : List Int) : LoopT C1 prB (prS a b a.length) (.exit 0) (prS a b a.length) := by
  exact LoopT.fin (hs := hint [((4,0), {val := some (bl (false))})]) (f := { ks := [0, 1, 12, 13] }) (ps := [bl (decide ((↑a.length : Int) < (↑a.length : Int))) = bl (false), true = true]) (by kernel_rfl) ⟨(bdF (by omega)), rfl, trivial⟩ (by decide)
theorem pr_ne (a b : List Int) (h : ¬ a.length = b.length) : Pu 48 [slJ a, slJ b] (bl false) := by
  exact pure_of (hs := hint [((1,4), {val := some (bl (true))})]) (ps := [bl ((↑a.length : Int) != (↑b.length : Int)) = bl (true)]) (by kernel_rfl) ⟨(neF (by omega)), trivial⟩
theorem pr_f (a b : List Int) (h : a.length = b.length) (L : LoopT C1 prB (prS a b 0) .ret prH) : Pu 48 [slJ a, slJ b] (bl false) := by
  exact pure_of (hs := hint [((1,4), {val := some (bl (false))}), ((4,1000), {loop := some ({ ks := [0, 1, 12, 13] }, prS a b (0 : Nat), Ex.ret, prH)})]) (ps := [bl ((↑a.length : Int) != (↑b.length : Int)) = bl (false), prS a b (0 : Nat) = prS a b (0 : Nat), _, true = true]) (by kernel_rfl) ⟨(neT (by omega)), rfl, L, rfl, trivial⟩
theorem pr_t (a b : List Int) (h : a.length = b.length) (L : LoopT C1 prB (prS a b 0) (.exit 0) (prS a b a.length)) : Pu 48 [slJ a, slJ b] (bl true) := by
  exact pure_of (hs := hint [((1,4), {val := some (bl (false))}), ((4,1000), {loop := some ({ ks := [0, 1, 12, 13] }, prS a b (0 : Nat), Ex.exit (0 : Nat), prS a b a.length)})]) (ps := [bl ((↑a.length : Int) != (↑b.length : Int)) = bl (false), prS a b (0 : Nat) = prS a b (0 : Nat), _, true = true]) (by kernel_rfl) ⟨(neT (by omega)), rfl, L, rfl, trivial⟩
theorem pr_ok (a b : List Int) (hl : a.length ≤ 1000000) : Pu 48 [slJ a, slJ b] (bl (decide (a = b))) := by
  by_cases h : a.length = b.length
  · cases hi : idxD (fun i => !decide (nth a i = nth b i)) (List.range a.length) with
    | some i =>
      obtain ⟨h1, h2, h3⟩ := idx_some hi
      rw [List.length_range] at h1
      rw [nth_range _ _ h1] at h2
      have hne : ¬ nth a i = nth b i := by simpa using h2
      rw [decide_eq_false (fun e => hne (by rw [e]))]
      exact pr_f a b h (LoopT.count (prS a b) i (fun k hk => pr_step a b k (by omega) h hl (by
        have := h3 k hk
        rw [nth_range _ _ (by omega)] at this
        simpa using this)) (pr_hit a b i h1 h hl hne) 0 (Nat.zero_le _))
    | none =>
      have hall : ∀ k, k < a.length → nth a k = nth b k := fun k hk => by
        have := idx_none hi k (by rw [List.length_range]; exact hk)
        rw [nth_range _ _ hk] at this
        simpa using this
      have e : a = b := List.ext_getElem h fun k h1 h2 => by
        have := hall k h1
        rwa [nth_eq h1, nth_eq h2] at this
      rw [decide_eq_true e]
      exact pr_t a b h (LoopT.count (prS a b) a.length (fun k hk => pr_step a b k hk h hl (hall k hk)) (pr_end a b) 0 (Nat.zero_le _))
  · rw [decide_eq_false (fun e => h (by rw [e]))]
    exact pr_ne a b h
def sameD (x y : Fl) : Bool := decide (x.N = y.N) && decide (x.B = y.B) && decide (x.L = y.L)
theorem rsame_a (x y : Fl) (h : Pu 47 [slJ x.N, slJ y.N] (bl false)) : Pu 20 [flA x, flA y] (bl false) := by
  exact pure_of (hs := hint [((1,4), {call := some ((bl false))})]) (ps := [_]) (by kernel_rfl) ⟨(h), trivial⟩
theorem rsame_b (x y : Fl) (h : Pu 47 [slJ x.N, slJ y.N] (bl true)) (hb : ¬ x.B = y.B) : Pu 20 [flA x, flA y] (bl false) := by
  exact pure_of (hs := hint [((1,4), {call := some ((bl true))}), ((1,12), {val := some (bl (false))})]) (ps := [_, bl (x.B.toList == y.B.toList) = bl (false)]) (by kernel_rfl) ⟨(h), (bsF (by assumption)), trivial⟩
theorem rsame_c (x y : Fl) (q : Bool) (h : Pu 47 [slJ x.N, slJ y.N] (bl true)) (hb : x.B = y.B) (h2 : Pu 47 [slJ x.L, slJ y.L] (bl q)) : Pu 20 [flA x, flA y] (bl q) := by
  exact pure_of (hs := hint [((1,4), {call := some ((bl true))}), ((1,12), {val := some (bl (true))}), ((1,17), {call := some ((bl q))})]) (ps := [_, bl (x.B.toList == y.B.toList) = bl (true), _]) (by kernel_rfl) ⟨(h), (bsT (by assumption)), (h2), trivial⟩
theorem rsame_ok (x y : Fl) (h1 : x.N.length ≤ 1000000) (h2 : x.L.length ≤ 1000000) : Pu 20 [flA x, flA y] (bl (sameD x y)) := by
  have a := rr_ok x.N y.N h1
  have c := rr_ok x.L y.L h2
  unfold sameD
  by_cases e1 : x.N = y.N
  · rw [decide_eq_true e1] at a ⊢
    by_cases e2 : x.B = y.B
    · rw [decide_eq_true e2]
      rw [Bool.and_self, Bool.true_and]
      exact rsame_c x y _ a e2 c
    · rw [decide_eq_false e2]
      exact rsame_b x y a e2
  · rw [decide_eq_false e1] at a ⊢
    exact rsame_a x y a
theorem same_a (x y : Fl) (h : Pu 48 [slJ x.N, slJ y.N] (bl false)) : Pu 21 [flA x, flA y] (bl false) := by
  exact pure_of (hs := hint [((1,4), {call := some ((bl false))})]) (ps := [_]) (by kernel_rfl) ⟨(h), trivial⟩
theorem same_b (x y : Fl) (h : Pu 48 [slJ x.N, slJ y.N] (bl true)) (hb : ¬ x.B = y.B) : Pu 21 [flA x, flA y] (bl false) := by
  exact pure_of (hs := hint [((1,4), {call := some ((bl true))}), ((1,12), {val := some (bl (false))})]) (ps := [_, bl (x.B.toList == y.B.toList) = bl (false)]) (by kernel_rfl) ⟨(h), (bsF (by assumption)), trivial⟩
theorem same_c (x y : Fl) (q : Bool) (h : Pu 48 [slJ x.N, slJ y.N] (bl true)) (hb : x.B = y.B) (h2 : Pu 48 [slJ x.L, slJ y.L] (bl q)) : Pu 21 [flA x, flA y] (bl q) := by
  exact pure_of (hs := hint [((1,4), {call := some ((bl true))}), ((1,12), {val := some (bl (true))}), ((1,17), {call := some ((bl q))})]) (ps := [_, bl (x.B.toList == y.B.toList) = bl (true), _]) (by kernel_rfl) ⟨(h), (bsT (by assumption)), (h2), trivial⟩
theorem same_ok (x y : Fl) (h1 : x.N.length ≤ 1000000) (h2 : x.L.length ≤ 1000000) : Pu 21 [flA x, flA y] (bl (sameD x y)) := by
  have a := pr_ok x.N y.N h1
  have c := pr_ok x.L y.L h2
  unfold sameD
  by_cases e1 : x.N = y.N
  · rw [decide_eq_true e1] at a ⊢
    by_cases e2 : x.B = y.B
    · rw [decide_eq_true e2]
      rw [Bool.and_self, Bool.true_and]
      exact same_c x y _ a e2 c
    · rw [decide_eq_false e2]
      exact same_b x y a e2
  · rw [decide_eq_false e1] at a ⊢
    exact same_a x y a
theorem of_ok (f : Fm) : Pu 13 [fmA f] (fmA f) := by
  exact pure_of (hs := hint []) (ps := []) (by kernel_rfl) trivial
theorem light_y (x : Fl) (h1 : x.N.length ≤ 30) (h2 : x.B.size ≤ 3000) (h3 : x.L.length ≤ 500) : Pu 10 [flA x] (bl true) := by
  exact pure_cast (pure_of (hs := hint [((1,4), {val := some (bl (true))}), ((1,10), {val := some (bl (true))})]) (r := bl (decide ((↑x.L.length : Int) ≤ (500 : Int)))) (ps := [bl (decide ((↑x.N.length : Int) ≤ (30 : Int))) = bl (true), bl (decide ((↑x.B.size : Int) ≤ (3000 : Int))) = bl (true)]) (by kernel_rfl) ⟨(bdT (by omega)), (bdT (by omega)), trivial⟩) (by (simp; omega))
theorem light_a (x : Fl) (h1 : ¬ x.N.length ≤ 30) : Pu 10 [flA x] (bl false) := by
  exact pure_of (hs := hint [((1,4), {val := some (bl (false))})]) (ps := [bl (decide ((↑x.N.length : Int) ≤ (30 : Int))) = bl (false)]) (by kernel_rfl) ⟨(bdF (by omega)), trivial⟩
theorem light_b (x : Fl) (h1 : x.N.length ≤ 30) (h2 : ¬ x.B.size ≤ 3000) : Pu 10 [flA x] (bl false) := by
  exact pure_of (hs := hint [((1,4), {val := some (bl (true))}), ((1,10), {val := some (bl (false))})]) (ps := [bl (decide ((↑x.N.length : Int) ≤ (30 : Int))) = bl (true), bl (decide ((↑x.B.size : Int) ≤ (3000 : Int))) = bl (false)]) (by kernel_rfl) ⟨(bdT (by omega)), (bdF (by omega)), trivial⟩
theorem light_c (x : Fl) (h1 : x.N.length ≤ 30) (h2 : x.B.size ≤ 3000) (h3 : ¬ x.L.length ≤ 500) : Pu 10 [flA x] (bl false) := by
  exact pure_cast (pure_of (hs := hint [((1,4), {val := some (bl (true))}), ((1,10), {val := some (bl (true))})]) (r := bl (decide ((↑x.L.length : Int) ≤ (500 : Int)))) (ps := [bl (decide ((↑x.N.length : Int) ≤ (30 : Int))) = bl (true), bl (decide ((↑x.B.size : Int) ≤ (3000 : Int))) = bl (true)]) (by kernel_rfl) ⟨(bdT (by omega)), (bdT (by omega)), trivial⟩) (by (simp; omega))
theorem light_or (x : Fl) : Pu 10 [flA x] (bl false) ∨ (Pu 10 [flA x] (bl true) ∧ x.N.length ≤ 30 ∧ x.B.size ≤ 3000 ∧ x.L.length ≤ 500) := by
  by_cases h1 : x.N.length ≤ 30
  · by_cases h2 : x.B.size ≤ 3000
    · by_cases h3 : x.L.length ≤ 500
      · exact .inr ⟨light_y x h1 h2 h3, h1, h2, h3⟩
      · exact .inl (light_c x h1 h2 h3)
    · exact .inl (light_b x h1 h2)
  · exact .inl (light_a x h1)
end Go.Proofs.YtjgjcpbkmeillaaDoor
