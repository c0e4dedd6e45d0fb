/- maps.DeleteFunc upon an own map: the walk (after the shelf's proof, turned to this program). By the prover of this seat. -/
import Derived.Test.YtfalaahbacdbjaaRows
import Derived.Lib.SlMapFilter
import Derived.WalkKit
import Derived.Maps.Ext
import Derived.Maps.RangeWalk
import Derived.Laws.IdiomRangeMap
import Derived.Deep.LoopGhost
import Derived.Shelf.Abstract
set_option linter.unusedVariables false
set_option linter.unusedSimpArgs false
namespace Go.Proofs.Ytfalaahbacdbjaa
open Go.RowKit Go.Maps
set_option maxHeartbeats 4000000 in
set_option maxRecDepth 100000 in
theorem del33_any {H : Type} (K : Keyed Try.prog 33) (R : Value → Option (DataW H × List MemPlace)) (pd : Lit → DataW H → Bool) (g : Nat) (cb : Array Value) (b n : Nat) (D : DataW H) (w : World)
    (eg : ∀ args w, (callFunc g args).run Try.prog w = .ok (.enter g args) w) (hown : w.ownsMap Try.prog 33 R b n D)
    (hdel : ∀ (W : World) (key val : Value) (kl : Lit) (yd : DataW H) (yp : List MemPlace), w.grownBy W (some b) → keyOf Try.prog 33 key = some kl → R val = some (yd, yp) →
      Calls Try.prog g (#[key, val] ++ cb) W fun e w' => e = .returned (.bool (pd kl yd)) ∧ W.grownBy w' none) :
    Calls Try.prog 33 #[.map (some b), .func (.func g) #[] cb] w fun e w' => e = .returned (.tuple #[]) ∧ w'.ownsMap Try.prog 33 R b n (Lib.deleteFuncD pd D) ∧ w.grownBy w' (some b) := by
  obtain ⟨es0, rfl, hap, hkeys⟩ := hown.entries K
  have HD : Go.Aside _ := hdel
  clear hdel
  go_enter Try.func33, Try.ntmps33
  go_wp2_with (first
    | (at_range; refine wpList_range_own _ rfl _ 26 rfl 33 3 K Try.underlying26 R b n _ rfl hown ?_; intro w0 hrg0 hg0 hs0)
    | go_in)
  go_frame
  go_loopw [8] (fun _ wr => ∃ (left : Lit → Bool) (cnt : Nat), wr.ranges Try.prog 33 R b w.heap.size n (Fk pd es0 left) left cnt ∧ w.grownBy wr (some b))
    (fun _ wr => wr.rangeLeft b w.heap.size)
  case atStart => exact ⟨_, _, by rw [Fk_start hkeys]; exact hrg0, hg0.but _⟩
  case round =>
    obtain ⟨left, cnt, hrg, hgw⟩ := hrel
    go_wp2_with (first
      | (at_next; refine wpList_next_ranges _ rfl _ rfl 33 K R id id (fun key _ _ => ⟨key, rfl⟩) (fun v _ _ => ⟨v, rfl⟩) b w.heap.size n _ _ _ rfl hrg ?_ ?_)
      | go_in)
    · intro _ hl0
      go_wp2
      go_end0
      exact ⟨rfl, by rw [← Fk_end hl0]; exact hrg.owns, hgw⟩
    · intro x c kl yd yp w1 cnt1 hkey hlx hv hat hrg1 hlt hg1 hs1 hen
      have hgw1 := hgw.andThen hg1 (fun j hj => by cases hj; exact Or.inl (Nat.le_refl _))
      have hc := HD.out w1 x c kl yd yp hgw1 hkey hv
      have hbl := hrg1.owns.lt
      have hrl := hrg1.lt
      cases hp : pd kl yd <;> rw [hp] at hc
      · go_wp2_with (first
          | (go_at_fn g; refine hc.mono ?_; rintro e w2 ⟨rfl, hg2⟩)
          | go_in)
        have hrg2 := hrg1.kept hg2 (by simp) (by simp)
        go_roundw
        case rel => exact ⟨_, cnt1, by rw [← Fk_stays hap (K.key hkey) hlx hp hat]; exact hrg2, hgw1.andThen hg2 (fun j hj => by cases hj)⟩
        case measure => rw [hrg2.left_eq, hrg.left_eq]; exact hlt
      · go_wp2_with (first
          | (go_at_fn g; refine hc.mono ?_; rintro e w2 ⟨rfl, hg2⟩; have hrg2 := hrg1.kept hg2 (by simp) (by simp))
          | (at_delete; refine wpList_delete_ranges _ rfl _ _ 26 33 rfl 3 K Try.underlying26 R b w.heap.size n _ _ _ rfl hrg2 _ _ rfl hkey ?_; intro w3 cnt3 hrg3 hle hturn; go_frame)
          | go_in)
        rw [strike_twice] at hrg3
        go_roundw
        case rel => exact ⟨_, cnt3, by rw [← Fk_struck hap (K.key hkey) hlx hp hat]; exact hrg3, (hgw1.andThen hg2 (fun j hj => by cases hj)).andThen hturn.grown (fun j hj => by cases hj; exact Or.inr rfl)⟩
        case measure => rw [hrg3.left_eq, hrg.left_eq]; omega
end Go.Proofs.Ytfalaahbacdbjaa
