/- maps.DeleteFunc upon an own map, struct keys: the walk (after the shelf's proof, turned to this program). By the prover of this seat. -/
import Derived.Test.YtfalaahbacdbjaaPa
import Derived.Lib.SlMapFilter
import Derived.WalkKit
import Derived.Maps.Ext
import Derived.Maps.RangeWalk
import Derived.Laws.IdiomRangeMap
import Derived.Deep.LoopGhost
import Derived.Shelf.Abstract
set_option linter.unusedVariables false
set_option linter.unusedSimpArgs false
namespace Go.Proofs.Ytfalaahbacdbjaa
open Go.RowKit Go.Maps
abbrev mkK (x : Int × Int) : Value := .agg #[.int .i64 x.1, .int .u32 x.2]
set_option maxHeartbeats 4000000 in
set_option maxRecDepth 100000 in
theorem del31_any {H : Type} (invK : ∀ key kl, keyOf Try.prog 67 key = some kl → ∃ x, key = mkK x) (K : Keyed Try.prog 67) (R : Value → Option (DataW H × List MemPlace)) (pd : Lit → DataW H → Bool) (g : Nat) (cb : Array Value) (b n : Nat) (D : DataW H) (w : World)
    (eg : ∀ args w, (callFunc g args).run Try.prog w = .ok (.enter g args) w) (hown : w.ownsMap Try.prog 67 R b n D)
    (hdel : ∀ (W : World) (key val : Value) (kl : Lit) (yd : DataW H) (yp : List MemPlace), w.grownBy W (some b) → keyOf Try.prog 67 key = some kl → R val = some (yd, yp) →
      Calls Try.prog g (#[key, val] ++ cb) W fun e w' => e = .returned (.bool (pd kl yd)) ∧ W.grownBy w' none) :
    Calls Try.prog 31 #[.map (some b), .func (.func g) #[] cb] w fun e w' => e = .returned (.tuple #[]) ∧ w'.ownsMap Try.prog 67 R b n (Lib.deleteFuncD pd D) ∧ w.grownBy w' (some b) := by
  obtain ⟨es0, rfl, hap, hkeys⟩ := hown.entries K
  have HD : Go.Aside _ := hdel
  clear hdel
  go_enter Try.func31, Try.ntmps31
  go_wp2_with (first
    | (at_range; refine wpList_range_own _ rfl _ 25 rfl 67 3 K Try.underlying25 R b n _ rfl hown ?_; intro w0 hrg0 hg0 hs0)
    | go_in)
  go_frame
  go_loopw [8] (fun _ wr => ∃ (left : Lit → Bool) (cnt : Nat), wr.ranges Try.prog 67 R b w.heap.size n (Fk pd es0 left) left cnt ∧ w.grownBy wr (some b))
    (fun _ wr => wr.rangeLeft b w.heap.size)
  case atStart => exact ⟨_, _, by rw [Fk_start hkeys]; exact hrg0, hg0.but _⟩
  case round =>
    obtain ⟨left, cnt, hrg, hgw⟩ := hrel
    go_wp2_with (first
      | (at_next; refine wpList_next_ranges _ rfl _ rfl 67 K R mkK id invK (fun v _ _ => ⟨v, rfl⟩) b w.heap.size n _ _ _ rfl hrg ?_ ?_)
      | go_in)
    · intro _ hl0
      go_wp2
      go_end0
      exact ⟨rfl, by rw [← Fk_end hl0]; exact hrg.owns, hgw⟩
    · intro xa xb c kl yd yp w1 cnt1 hkey hlx hv hat hrg1 hlt hg1 hs1 hen
      have hgw1 := hgw.andThen hg1 (fun j hj => by cases hj; exact Or.inl (Nat.le_refl _))
      have hgw2 := hgw1.andThen (World.grownBy_alloc w1 (.cells #[.int .i64 xa, .int .u32 xb] 67) none) (fun j hj => by cases hj)
      have hrg2 := hrg1.alloc (.cells #[.int .i64 xa, .int .u32 xb] 67)
      have hc := HD.out _ (mkK (xa, xb)) c kl yd yp hgw2 hkey hv
      have hz : (w1.alloc (.cells #[.int .i64 xa, .int .u32 xb] 67)).heap.size = w1.heap.size + 1 := Array.size_push _
      have hbl := hrg1.owns.lt
      have hrl := hrg1.lt
      have hcell : ∀ (w2 : World), (w1.alloc (.cells #[.int .i64 xa, .int .u32 xb] 67)).grownBy w2 none → w2.heap[wr.heap.size]? = some (.cells #[.int .i64 xa, .int .u32 xb] 67) := fun w2 hg => by
        rw [hg.block _ (by omega) (by simp), ← hs1]
        exact heap_alloc_new _ _
      cases hp : pd kl yd <;> rw [hp] at hc
      · go_wp2_with (first
          | (go_at_fn g; refine hc.mono ?_; rintro e w2 ⟨rfl, hg2⟩)
          | go_in)
        have hrg3 := hrg2.kept hg2 (by simp) (by simp)
        go_roundw
        case rel => exact ⟨_, cnt1, by rw [← Fk_stays hap (K.key hkey) hlx hp hat]; exact hrg3, hgw2.andThen hg2 (fun j hj => by cases hj)⟩
        case measure => rw [hrg3.left_eq, hrg.left_eq]; exact hlt
      · go_wp2_with (first
          | (go_at_fn g; refine hc.mono ?_; rintro e w2 ⟨rfl, hg2⟩; have hrg3 := hrg2.kept hg2 (by simp) (by simp); have hcl := hcell w2 hg2; have hc0 : w2.cell? ⟨wr.heap.size, 0, none⟩ = some (.int .i64 xa) := by simp [World.cell?, hcl]
             have hc1 : w2.cell? ⟨wr.heap.size, 1, none⟩ = some (.int .u32 xb) := by simp [World.cell?, hcl])
          | (at_delete; refine wpList_delete_ranges _ rfl _ _ 25 67 rfl 3 K Try.underlying25 R b w.heap.size n _ _ _ rfl hrg3 _ _ rfl hkey ?_; intro w3 cnt3 hrg4 hle hturn; go_frame)
          | go_in)
        rw [strike_twice] at hrg4
        go_roundw
        case rel => exact ⟨_, cnt3, by rw [← Fk_struck hap (K.key hkey) hlx hp hat]; exact hrg4, (hgw2.andThen hg2 (fun j hj => by cases hj)).andThen hturn.grown (fun j hj => by cases hj; exact Or.inr rfl)⟩
        case measure => rw [hrg4.left_eq, hrg.left_eq]; omega
end Go.Proofs.Ytfalaahbacdbjaa
