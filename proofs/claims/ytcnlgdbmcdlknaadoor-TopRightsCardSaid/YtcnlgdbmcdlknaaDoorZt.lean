/- Facts of a client and a window. By the prover of this seat. -/
import Derived.Test.YtcnlgdbmcdlknaaDoorZs
set_option linter.unusedVariables false
set_option linter.unusedSimpArgs false
set_option maxRecDepth 100000
set_option maxHeartbeats 4000000
namespace Go.Proofs.YtcnlgdbmcdlknaaDoor.Tr
open Go.RowKit Go.Pm Go.Proofs.YtcnlgdbmcdlknaaDoor.Ch
theorem of_a (K : List Kid) (U : List Up) (l : List Row) (c x u m w : Int) (b1 b2 : Bool) (hm1 : PT 26 [i64 c, u32 x] (bl b1)) (hc : PT 27 [noT, i64 c, u32 x] (bl false)) (hh : PT 28 [trA K U, u32 x] (bl true)) (hp : PT 29 [trA K U, u32 x] (.tup [u32 u, bl true])) (hm2 : PT 26 [i64 c, u32 u] (bl b2)) (hk : PT 30 [tabC l, i64 c, u32 u] (i64 m)) (hw : andI m 2048 = w) : PT 9 [trA K U, tabC l, noT, i64 c, u32 x] (faA ⟨b1, x == 1, w != 0, b2, false⟩) := by
  exact pure_of (hs := hint [((1,2), {call := some ((bl b1))}), ((1,8), {call := some ((bl false))}), ((2,2), {call := some ((bl true))}), ((4,2), {call := some (AV.tup [(u32 u), (bl true)])}), ((6,2), {call := some ((bl b2))}), ((8,3), {call := some ((i64 m))}), ((8,4), { val := some (i64 w) })]) (ps := [_, _, _, _, _, _, i64 (IntKind.i64.wrap (↑(BitVec.ofInt (64 : Nat) m &&& BitVec.ofInt (64 : Nat) (2048 : Int)).toNat : Int)) = i64 (w)]) (by kernel_rfl) ⟨(hm1), (hc), (hh), (hp), (hm2), (hk), (by exact intE hw), trivial⟩
theorem of_b (K : List Kid) (U : List Up) (l : List Row) (c m w y : Int) (b1 : Bool) (hm1 : PT 26 [i64 c, u32 1] (bl b1)) (hc : PT 27 [noT, i64 c, u32 1] (bl false)) (hh : PT 28 [trA K U, u32 1] (bl true)) (hp : PT 29 [trA K U, u32 1] (.tup [u32 y, bl false])) (hk : PT 30 [tabC l, i64 c, u32 1] (i64 m)) (hw : andI m 2048 = w) : PT 9 [trA K U, tabC l, noT, i64 c, u32 1] (faA ⟨b1, true, w != 0, false, false⟩) := by
  exact pure_of (hs := hint [((1,2), {call := some ((bl b1))}), ((1,8), {call := some ((bl false))}), ((2,2), {call := some ((bl true))}), ((4,2), {call := some (AV.tup [(u32 y), (bl false)])}), ((8,3), {call := some ((i64 m))}), ((8,4), { val := some (i64 w) })]) (ps := [_, _, _, _, _, i64 (IntKind.i64.wrap (↑(BitVec.ofInt (64 : Nat) m &&& BitVec.ofInt (64 : Nat) (2048 : Int)).toNat : Int)) = i64 (w)]) (by kernel_rfl) ⟨(hm1), (hc), (hh), (hp), (hk), (by exact intE hw), trivial⟩
theorem neN (n : Nat) : (((n : Nat) : Int) != 0) = decide (¬ n = 0) := by
  by_cases h : n = 0
  · subst h; rfl
  · rw [decide_t h, bne_iff_ne]; omega
theorem of_up (K : List Kid) (U : List Up) (hU : UOk U) (l : List Row) (h : LOk l) (c x : Int) (hc : 1 ≤ c) (hc2 : c ≤ 8) (hx : 0 ≤ x) (hx2 : x ≤ 4294967295) (y : Up) (hy : findM Up.id U x = some y) (hy1 : 0 ≤ y.up) (hy2 : y.up ≤ 4294967295) : PT 9 [trA K U, tabC l, noT, i64 c, u32 x] (faA ⟨mineD c x, decide (x = 1), decide (¬ maskR l c y.up &&& 2048 = 0), mineD c y.up, false⟩) := by
  have h1 := lift (mine_ok c x hx hx2)
  have h2 := lift (mine_ok c y.up hy1 hy2)
  have h3 := may0_ok c x
  have h4 := lift (has_ok K U hU x hx hx2 _ hy)
  have h5 := lift (parent_1 K U hU x hx hx2 y hy)
  have h6 := lift (pmask_ok l h c y.up (by omega) (by omega) (by omega) hy1 hy2)
  have hw := andI_nat (maskR l c y.up) 2048 (maskR_le (fun r hr => (h.row r hr).2.2.2.2) c y.up) (by omega)
  have := of_a K U l c x _ _ _ _ _ h1 h3 h4 h5 h2 h6 hw
  rwa [neN] at this
theorem of_root (K : List Kid) (U : List Up) (hU : UOk U) (l : List Row) (h : LOk l) (c : Int) (hc : 1 ≤ c) (hc2 : c ≤ 8) (hy : findM Up.id U 1 = none) : PT 9 [trA K U, tabC l, noT, i64 c, u32 1] (faA ⟨false, true, decide (¬ maskR l c 1 &&& 2048 = 0), false, false⟩) := by
  have h1 := lift (mine_ok c 1 (by omega) (by omega))
  have h3 := may0_ok c 1
  have h4 := lift (has_ok K U hU 1 (by omega) (by omega) _ hy)
  have h5 := lift (parent_0 K U hU 1 (by omega) (by omega) hy)
  have h6 := lift (pmask_ok l h c 1 (by omega) (by omega) (by omega) (by omega) (by omega))
  have hw := andI_nat (maskR l c 1) 2048 (maskR_le (fun r hr => (h.row r hr).2.2.2.2) c 1) (by omega)
  rw [show mineD c 1 = false by simp [mineD, clientD]] at h1
  have := of_b K U l c _ _ _ _ h1 h3 h4 h5 h6 hw
  rwa [neN] at this
end Go.Proofs.YtcnlgdbmcdlknaaDoor.Tr
