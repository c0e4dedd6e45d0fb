/- Drop's windows. By the prover of this seat. -/
import Derived.Test.YtfalaahbacdbjaaPs
set_option linter.unusedVariables false
set_option linter.unusedSimpArgs false
set_option maxRecDepth 100000
set_option maxHeartbeats 4000000
namespace Go.Proofs.Ytfalaahbacdbjaa
open Go.RowKit Go.Pm
theorem pureB_g (g : List Int) (fz : Bool) : pureB (.map (g.map rowG) fz) = true := pureB_row fun x hx => rfl
noncomputable def gnB : Code := loopOf Try.prog 21 3
def gnS (l : List Row) (c : Int) (ids g : List Int) (k : Nat) : St := ⟨mkT 34 [(3, .ptr 0 0), (4, .ptr 1 0), (6, .ptr 2 0), (7, .ptr 4 0), (14, slI ids), (15, i64 ids.length), (16, i64 k)], [boxA l, .arr 1 [i64 c] 0, .arr 2 [.mp [], .mp []] 0, .map (g.map rowG) false, .arr 1 [.omp 3] 0]⟩
theorem gn_step (l : List Row) (c : Int) (ids g g' : List Int) (k : Nat) (hk : k < ids.length) (hl : ids.length ≤ 1000000) (h2 : 0 ≤ nth ids k) (h3 : nth ids k ≤ 4294967295) (hg : allK Try.prog 33 (g.map rowG) = true) (hm : (mput (g.map rowG) (u32 (nth ids k)) (bl true)).Perm (g'.map rowG)) : Tri C0 gnB (gnS l c ids g k) .normal (gnS l c ids g' (k + 1)) := by
  have q1 := kwfS h2 h3
  exact runF_ok (hs := hint [((3,0), {val := some (bl (true))}), ((4,0), {cells := some (eI (nth ids k) ++ List.flatMap eI (List.drop (k + (1 : Nat)) ids)), sym := true}), ((5,2), { sym := true, ents := some (g'.map rowG) }), ((6,0), {val := some (i64 ((↑k : Int) + (1 : Int)))})]) (f := { ks := [3, 4, 6, 7, 14, 15, 16], l := [0, 1, 2, 3, 4], mx := [4] }) (ps := [bl (decide ((↑k : Int) < (↑ids.length : Int))) = bl (true), decide ((0 : Int) ≤ (↑k : Int) ∧ (↑k : Int) < (↑ids.length : Int)) = true, ((List.drop ((↑k : Int).toNat * (1 : Nat)) (List.flatMap eI ids)) : List AV) = (eI (nth ids k) ++ List.flatMap eI (List.drop (k + (1 : Nat)) ids)), true = true, true = true, kwf C0.P (33 : Nat) (AV.s (Value.int IntKind.u32 (nth ids k))) = true, allK C0.P (33 : Nat) (List.map rowG g) = true, (mput (List.map rowG g) (AV.s (Value.int IntKind.u32 (nth ids k))) (AV.s (Value.bool true))).Perm (List.map rowG g'), i64 (IntKind.i64.wrap ((↑k : Int) + (1 : Int))) = i64 ((↑k : Int) + (1 : Int)), true = true, true = true, true = true, true = true, pureB (Bk.map (List.map rowG g') false) = true]) (by kernel_rfl) ⟨(bdT (by omega)), (by exact decide_t (by omega)), (by exact flat_nth (sz := 1) (k := k) (fun _ => rfl) (by omega)), (by (first | assumption | exact hm | rfl)), (by (first | assumption | exact hm | rfl)), (by (first | assumption | exact hm | rfl)), (by (first | assumption | exact hm | rfl)), (by (first | assumption | exact hm | rfl)), (intE (by exact wrap_i64 (by omega) (by omega))), rfl, rfl, rfl, rfl, (by exact pureB_g _ _), trivial⟩
theorem gn_end (l : List Row) (c : Int) (ids g : List Int) : LoopT C0 gnB (gnS l c ids g ids.length) (.exit 0) (gnS l c ids g ids.length) := by
  exact LoopT.fin (hs := hint [((3,0), {val := some (bl (false))})]) (f := { ks := [3, 4, 6, 7, 14, 15, 16], l := [0, 1, 2, 3, 4], mx := [4] }) (ps := [bl (decide ((↑ids.length : Int) < (↑ids.length : Int))) = bl (false), true = true, true = true, true = true, true = true, pureB (Bk.map (List.map rowG g) false) = true]) (by kernel_rfl) ⟨(bdF (by omega)), rfl, rfl, rfl, rfl, (by exact pureB_g _ _), trivial⟩ (by decide)
end Go.Proofs.Ytfalaahbacdbjaa
