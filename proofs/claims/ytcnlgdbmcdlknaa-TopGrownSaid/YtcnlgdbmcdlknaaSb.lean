/- The library's sorts, upon own rows. By the prover of this seat. -/
import Derived.Test.YtcnlgdbmcdlknaaSa
import Derived.StillTailTactics
set_option linter.unusedVariables false
set_option linter.unusedSimpArgs false
set_option maxRecDepth 100000
namespace Go.Proofs.Ytcnlgdbmcdlknaa.Bn
open Go Go.RowKit Go.Pm
open Go.Sort (putRow grow Holds HoldsK flatK SWO grow_grow alloc_eq_grow)
open Go.Shelf Go.Lib
structure Hid0 (p : Prop) : Prop where
  out : p
set_option maxHeartbeats 1000000 in
theorem clX (x y : Rc) (W : World) : Calls Try.prog 25 #[.agg #[.int .i64 x.x, .int .i64 x.y, .int .i64 x.w, .int .i64 x.h], .agg #[.int .i64 y.x, .int .i64 y.y, .int .i64 y.w, .int .i64 y.h]] W fun e w' => e = .returned (.int .i64 (Lib.compareInt x.x y.x)) ∧ ∃ q os', w' = grow (W.drewN q) os' := by
  have hcon := fun W' => Try.cmp_Compare_int x.x y.x W'
  generalize Lib.compareInt x.x y.x = r at hcon ⊢
  go_enter Try.func25, Try.ntmps25
  go_wp2_with (go_at_call 21; refine (hcon _).mono ?_; rintro e w' ⟨rfl, rfl⟩)
  go_ret
  exact ⟨rfl, 0, _, by rw [alloc_eq_grow, alloc_eq_grow, grow_grow]; rfl⟩
set_option maxHeartbeats 1000000 in
theorem or2 (x y : Int) (b cap : Nat) (W : World) (h0 : W.cell? ⟨b, 0, none⟩ = some (.int .i64 x)) (h1 : W.cell? ⟨b, 0 + 1, none⟩ = some (.int .i64 y)) : Calls Try.prog 20 #[.slice (some ⟨b, 0, none⟩) 2 cap] W fun e w' => e = .returned (.int .i64 (if x = 0 then y else x)) ∧ w' = W := by
  go_enter Try.func20, Try.ntmps20
  go_wp2
  go_loopw [8, 5] (fun i _ wr => ∃ k : Nat, k ≤ 2 ∧ i = .int .i64 k ∧ wr = W ∧ (1 ≤ k → x = 0) ∧ (2 ≤ k → y = 0)) (fun i _ _ => 2 - (intOf i).toNat)
  case atStart => exact ⟨0, by omega, rfl, rfl, by omega, by omega⟩
  case round =>
    obtain ⟨k, hk, rfl, rfl, p1, p2⟩ := hrel
    have hc : k = 0 ∨ k = 1 ∨ k = 2 := by omega
    rcases hc with rfl | rfl | rfl
    · by_cases hx : x = 0
      · subst hx
        go_wp2
        exact ⟨⟨1, by omega, by go_num, trivial, fun _ => trivial, fun h => by omega⟩, by simp [intOf]⟩
      · go_wp2
        go_ret
        exact ⟨by simp [hx], rfl⟩
    · obtain rfl := p1 (by omega)
      by_cases hy : y = 0
      · subst hy
        go_wp2
        exact ⟨⟨2, by omega, by go_num, trivial, fun _ => trivial, fun h => trivial⟩, by simp [intOf]⟩
      · go_wp2
        go_ret
        exact ⟨by simp, rfl⟩
    · obtain rfl := p1 (by omega)
      obtain rfl := p2 (by omega)
      go_wp2
      go_ret
      exact ⟨by simp, rfl⟩
theorem cell_new1 (W : World) (cs : Array Value) (T : TypeId) (i : Nat) (v : Value) (h : cs[i]? = some v) : (W.alloc (.cells cs T)).cell? ⟨W.heap.size, i, none⟩ = some v := by
  have := World.alloc_heap_new W (.cells cs T)
  simp only [World.cell?]
  rw [this]
  simpa using h
theorem grown3 (W : World) (o1 o2 o3 : Obj) : ∃ q os', (((W.alloc o1).alloc o2).drew).alloc o3 = grow (W.drewN q) os' := by
  refine ⟨1, #[o1] ++ #[o2] ++ #[o3], ?_⟩
  rw [alloc_eq_grow, alloc_eq_grow, alloc_eq_grow]
  rw [show (grow (grow W #[o1]) #[o2]).drew = grow (grow (W.drewN 1) #[o1]) #[o2] from rfl, grow_grow, grow_grow, Array.append_assoc]
set_option maxHeartbeats 4000000 in
theorem clY (x y : Rc) (W : World) : Calls Try.prog 19 #[.agg #[.int .i64 x.x, .int .i64 x.y, .int .i64 x.w, .int .i64 x.h], .agg #[.int .i64 y.x, .int .i64 y.y, .int .i64 y.w, .int .i64 y.h]] W fun e w' => e = .returned (.int .i64 (if Lib.compareInt x.y y.y = 0 then Lib.compareInt x.x y.x else Lib.compareInt x.y y.y)) ∧ ∃ q os', w' = grow (W.drewN q) os' := by
  have hcon := fun W' => Try.cmp_Compare_int x.x y.x W'
  have hcon2 := fun W' => Try.cmp_Compare_int x.y y.y W'
  have hor := fun b W' h0 h1 => or2 (Lib.compareInt x.y y.y) (Lib.compareInt x.x y.x) b 2 W' h0 h1
  generalize Lib.compareInt x.x y.x = r at hcon hor ⊢
  generalize Lib.compareInt x.y y.y = s at hcon2 hor ⊢
  generalize (if s = 0 then r else s) = t at hor ⊢
  go_enter Try.func19, Try.ntmps19
  go_wp2_with fail
  refine wp_region_still_tail 10 (by kernel_rfl) (by kernel_rfl) ?_
  change wpStill _ _ ((W.alloc _).alloc _).drew _ _ _
  generalize hWd : ((W.alloc (.cells #[.int .i64 x.x, .int .i64 x.y, .int .i64 x.w, .int .i64 x.h] 44)).alloc (.cells #[.int .i64 y.x, .int .i64 y.y, .int .i64 y.w, .int .i64 y.h] 44)).drew = Wd
  have a0 : Wd.cell? ⟨W.heap.size, 0, none⟩ = some (.int .i64 x.x) := by rw [← hWd]; simp
  have a1 : Wd.cell? ⟨W.heap.size, 1, none⟩ = some (.int .i64 x.y) := by rw [← hWd]; simp
  have b0 : Wd.cell? ⟨W.heap.size + 1, 0, none⟩ = some (.int .i64 y.x) := by rw [← hWd]; simp
  have b1 : Wd.cell? ⟨W.heap.size + 1, 1, none⟩ = some (.int .i64 y.y) := by rw [← hWd]; simp
  have hd : Hid0 _ := ⟨hWd⟩
  clear hWd
  simp only [List.take_succ_cons, List.take_zero, List.drop_succ_cons, List.drop_zero]
  still_step
  still_step
  still_step
  still_step
  still_call (hcon2 _)
  still_step
  still_step
  still_step
  still_step
  still_call (hcon _)
  refine wpStill_nil ?_
  change wpList _ _ _ _ _ ((W.alloc (.cells #[.int .i64 x.x, .int .i64 x.y, .int .i64 x.w, .int .i64 x.h] 44)).alloc (.cells #[.int .i64 y.x, .int .i64 y.y, .int .i64 y.w, .int .i64 y.h] 44)).drew
  rw [hd.out]
  go_wp2_with (go_at_call 20; refine (hor _ _ (cell_new1 _ _ _ 0 _ rfl) (cell_new1 _ _ _ (0 + 1) _ rfl)).mono ?_; rintro e w' ⟨rfl, rfl⟩)
  go_ret
  have e := hd.out
  subst e
  exact ⟨rfl, grown3 _ _ _ _⟩
/-! the orders -/
def encV (r : Rc) : List Value := [.int .i64 r.x, .int .i64 r.y, .int .i64 r.w, .int .i64 r.h]
def cfX (x y : Rc) : Int := Lib.compareInt x.x y.x
def cfY (x y : Rc) : Int := if Lib.compareInt x.y y.y = 0 then Lib.compareInt x.x y.x else Lib.compareInt x.y y.y
theorem ltX (x y : Rc) : ltOf cfX x y = decide (x.x < y.x) := by
  unfold ltOf cfX Lib.compareInt
  by_cases h1 : x.x < y.x
  · simp [h1]
  · by_cases h2 : y.x < x.x <;> simp [h1, h2]
theorem ltY (x y : Rc) : ltOf cfY x y = decide (x.y < y.y ∨ (x.y = y.y ∧ x.x < y.x)) := by
  unfold ltOf cfY Lib.compareInt
  by_cases h1 : x.y < y.y
  · simp [h1]
  · by_cases h2 : y.y < x.y
    · have : ¬ x.y = y.y := by omega
      simp [h1, h2, this]
    · have : x.y = y.y := by omega
      by_cases h3 : x.x < y.x
      · simp [h1, h2, h3, this]
      · by_cases h4 : y.x < x.x <;> simp [h1, h2, h3, h4, this]
theorem swoX : SWO (ltOf cfX) where
  irrefl x := by rw [ltX]; simp
  trans x y z h1 h2 := by rw [ltX] at *; simp at *; omega
  ntrans x y z h1 h2 := by rw [ltX] at *; simp at *; omega
theorem swoY : SWO (ltOf cfY) where
  irrefl x := by rw [ltY]; simp
  trans x y z h1 h2 := by rw [ltY] at *; simp at *; omega
  ntrans x y z h1 h2 := by rw [ltY] at *; simp at *; omega
end Go.Proofs.Ytcnlgdbmcdlknaa.Bn
