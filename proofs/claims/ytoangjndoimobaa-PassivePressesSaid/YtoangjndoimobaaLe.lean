/- The table's Find; the law's own wakefulness; the law Meets. By the prover of this seat. -/
import Derived.Test.YtoangjndoimobaaLd
set_option linter.unusedVariables false
set_option linter.unusedSimpArgs false
set_option maxRecDepth 100000
set_option maxHeartbeats 4000000
namespace Go.Proofs.Ytoangjndoimobaa
open Go.RowKit Go.Pm
def findL (l : List Grab) (b : Bool) (c m : Int) : List Int → Grab × Bool
  | [] => (g0, false)
  | id :: r => match idxD (pathD id b c m) l with
    | some k => (nth l k, true)
    | none => findL l b c m r
def findP (l : List Grab) (path : List Int) (b : Bool) (c m : Int) : Grab × Bool := if pressedD b c = true then findL l b c m path else (g0, false)
def foundR (r : Grab × Bool) : AV := .tup [A (grabL r.1), bl r.2]
noncomputable def fiBody : Code := loopOf Try.prog 19 4
def fiSt (l : List Grab) (path : List Int) (b : Bool) (c m : Int) (k : Nat) : St := ⟨mkT 39 [(5, .ptr 0 0), (7, .fptr [bl b]), (8, .fptr [i64 c]), (9, .fptr [i64 m]), (10, .ptr 1 0), (20, slU path), (21, i64 path.length), (22, i64 k)], [.arr 1 [slG l] 0, .arr 9 (grabL g0) 0]⟩
def fiHit (g : Grab) : St := ⟨mkT 39 [(10, .ptr 0 0), (11, bl true)], [.arr 9 (grabL g) 0]⟩
theorem fi_step (l : List Grab) (path : List Int) (b : Bool) (c m : Int) (k : Nat) (hk : k < path.length) (hp : path.length ≤ 1000000) (hl : l.length ≤ 1000000) (h : idxD (pathD (nth path k) b c m) l = none) : Tri C0 fiBody (fiSt l path b c m k) .normal (fiSt l path b c m (k + 1)) := by
  have hx := ix_p (nth path k) b c m l (by omega)
  rw [h] at hx
  simp only [idxI] at hx
  exact runF_ok (hs := hint [((4,0), {val := some (bl (true))}), ((5,0), {cells := some (eU (nth path k) ++ List.flatMap eU (List.drop (k + (1 : Nat)) path)), sym := true}), ((6,2000), { frz := [2] }), ((6,3), {call := some (i64 (-1 : Int))}), ((9,0), {val := some (i64 ((↑k : Int) + (1 : Int)))})]) (f := { ks := [5, 7, 8, 9, 10, 20, 21, 22], l := [0, 1] }) (ps := [bl (decide ((↑k : Int) < (↑path.length : Int))) = bl (true), decide ((0 : Int) ≤ (↑k : Int) ∧ (↑k : Int) < (↑path.length : Int)) = true, ((List.drop ((↑k : Int).toNat * (1 : Nat)) (List.flatMap eU path)) : List AV) = (eU (nth path k) ++ List.flatMap eU (List.drop (k + (1 : Nat)) path)), true = true, _, i64 (IntKind.i64.wrap ((↑k : Int) + (1 : Int))) = i64 ((↑k : Int) + (1 : Int)), true = true, true = true, true = true]) (by kernel_rfl) ⟨(bdT (by omega)), (by exact decide_t (by omega)), (by exact flat_nth (sz := 1) (k := k) (fun _ => rfl) (by omega)), rfl, (hx), (intE (by exact wrap_i64 (by omega) (by omega))), rfl, rfl, rfl, trivial⟩
theorem fi_hit (l : List Grab) (path : List Int) (b : Bool) (c m : Int) (k j : Nat) (hk : k < path.length) (hp : path.length ≤ 1000000) (hl : l.length ≤ 1000000) (h : idxD (pathD (nth path k) b c m) l = some j) : LoopT C0 fiBody (fiSt l path b c m k) .ret (fiHit (nth l j)) := by
  have hx := ix_p (nth path k) b c m l (by omega)
  obtain ⟨hj, _, _⟩ := idx_some h
  rw [h] at hx
  simp only [idxI] at hx
  exact LoopT.fin (hs := hint [((4,0), {val := some (bl (true))}), ((5,0), {cells := some (eU (nth path k) ++ List.flatMap eU (List.drop (k + (1 : Nat)) path)), sym := true}), ((6,2000), { frz := [2] }), ((6,3), {call := some (i64 (↑j : Int))}), ((8,3), {cells := some (grabL (nth l j) ++ List.flatMap grabL (List.drop (j + (1 : Nat)) l)), sym := true})]) (f := { ks := [10, 11], l := [1] }) (ps := [bl (decide ((↑k : Int) < (↑path.length : Int))) = bl (true), decide ((0 : Int) ≤ (↑k : Int) ∧ (↑k : Int) < (↑path.length : Int)) = true, ((List.drop ((↑k : Int).toNat * (1 : Nat)) (List.flatMap eU path)) : List AV) = (eU (nth path k) ++ List.flatMap eU (List.drop (k + (1 : Nat)) path)), true = true, _, decide ((0 : Int) ≤ (↑j : Int) ∧ (↑j : Int) < (↑l.length : Int)) = true, ((List.drop ((↑j : Int).toNat * (9 : Nat)) (List.flatMap grabL l)) : List AV) = (grabL (nth l j) ++ List.flatMap grabL (List.drop (j + (1 : Nat)) l)), true = true, true = true]) (by kernel_rfl) ⟨(bdT (by omega)), (by exact decide_t (by omega)), (by exact flat_nth (sz := 1) (k := k) (fun _ => rfl) (by omega)), rfl, (hx), (by exact decide_t (by omega)), (by exact flat_nth (sz := 9) (k := j) (fun _ => rfl) (by omega)), rfl, rfl, trivial⟩ (by decide)
theorem fi_end (l : List Grab) (path : List Int) (b : Bool) (c m : Int) : LoopT C0 fiBody (fiSt l path b c m path.length) (.exit 0) (fiSt l path b c m path.length) := by
  exact LoopT.fin (hs := hint [((4,0), {val := some (bl (false))})]) (f := { ks := [5, 7, 8, 9, 10, 20, 21, 22], l := [0, 1] }) (ps := [bl (decide ((↑path.length : Int) < (↑path.length : Int))) = bl (false), true = true, true = true, true = true]) (by kernel_rfl) ⟨(bdF (by omega)), rfl, rfl, rfl, trivial⟩ (by decide)
theorem find_cases (l : List Grab) (b : Bool) (c m : Int) : ∀ path : List Int, (∃ k j, k < path.length ∧ (∀ i, i < k → idxD (pathD (nth path i) b c m) l = none) ∧ idxD (pathD (nth path k) b c m) l = some j ∧ findL l b c m path = (nth l j, true)) ∨ ((∀ i, i < path.length → idxD (pathD (nth path i) b c m) l = none) ∧ findL l b c m path = (g0, false)) := by
  intro path
  induction path with
  | nil => exact .inr ⟨fun i h => by simp at h, rfl⟩
  | cons x r ih =>
    cases hx : idxD (pathD x b c m) l with
    | some j => exact .inl ⟨0, j, by simp, fun i h => by omega, hx, by simp only [findL, hx]⟩
    | none =>
      rcases ih with ⟨k, j, h1, h2, h3, h4⟩ | ⟨h1, h2⟩
      · refine .inl ⟨k + 1, j, by simp; omega, fun i hi => ?_, h3, by simp only [findL, hx]; exact h4⟩
        cases i with
        | zero => exact hx
        | succ i => exact h2 i (by omega)
      · refine .inr ⟨fun i hi => ?_, by simp only [findL, hx]; exact h2⟩
        cases i with
        | zero => exact hx
        | succ i => exact h1 i (by simpa using hi)
theorem find_ok (l : List Grab) (path : List Int) (b : Bool) (c m : Int) (hp : path.length ≤ 1000000) (hl : l.length ≤ 1000000) : Pu 19 [tab l, slU path, bl b, i64 c, i64 m] (foundR (findP l path b c m)) := by
  unfold findP
  by_cases hq : pressedD b c = true
  · rw [if_pos hq]
    rcases find_cases l b c m path with ⟨k, j, h1, h2, h3, h4⟩ | ⟨h1, h2⟩
    · have L := LoopT.count (fiSt l path b c m) k (fun i hi => fi_step l path b c m i (by omega) hp hl (h2 i hi)) (fi_hit l path b c m k j h1 hp hl h3) 0 (by omega)
      rw [h4]
      exact pure_of (hs := hint [((1,2), {call := some (bl (pressedD b c))}), ((1,3), {val := some (bl (false))}), ((3,2000), { frz := [1, 2, 3] }), ((4,1000), {loop := some ({ ks := [5, 7, 8, 9, 10, 20, 21, 22], l := [0, 4] }, fiSt l path b c m (0 : Nat), Ex.ret, fiHit (nth l j))})]) (ps := [_, bl (!pressedD b c) = bl (false), true = true, true = true, true = true, fiSt l path b c m (0 : Nat) = fiSt l path b c m (0 : Nat), _, true = true, true = true, true = true]) (by kernel_rfl) ⟨(pressed_ok (b) (c)), (bnT (bvT (by assumption))), rfl, rfl, rfl, rfl, L, rfl, rfl, rfl, trivial⟩
    · have L := LoopT.count (fiSt l path b c m) path.length (fun i hi => fi_step l path b c m i hi hp hl (h1 i hi)) (fi_end l path b c m) 0 (by omega)
      rw [h2]
      exact pure_of (hs := hint [((1,2), {call := some (bl (pressedD b c))}), ((1,3), {val := some (bl (false))}), ((3,2000), { frz := [1, 2, 3] }), ((4,1000), {loop := some ({ ks := [5, 7, 8, 9, 10, 20, 21, 22], l := [0, 4] }, fiSt l path b c m (0 : Nat), Ex.exit (0 : Nat), fiSt l path b c m path.length)})]) (ps := [_, bl (!pressedD b c) = bl (false), true = true, true = true, true = true, fiSt l path b c m (0 : Nat) = fiSt l path b c m (0 : Nat), _, true = true, true = true, true = true]) (by kernel_rfl) ⟨(pressed_ok (b) (c)), (bnT (bvT (by assumption))), rfl, rfl, rfl, rfl, L, rfl, rfl, rfl, trivial⟩
  · rw [if_neg hq]
    exact pure_of (hs := hint [((1,2), {call := some (bl (pressedD b c))}), ((1,3), {val := some (bl (true))})]) (ps := [_, bl (!pressedD b c) = bl (true)]) (by kernel_rfl) ⟨(pressed_ok (b) (c)), (bnF (bvF (by assumption))), trivial⟩
theorem awake_ok : Pu 13 [] (bl true) := by
  have h1 := add_ok [] ⟨1, 7, true, 1, 4, false, 0, 0, 0⟩ (by decide)
  rw [show addP [] ⟨1, 7, true, 1, 4, false, 0, 0, 0⟩ = ([⟨1, 7, true, 1, 4, false, 0, 0, 0⟩], 0) by decide] at h1
  have h2 := add_ok [⟨1, 7, true, 1, 4, false, 0, 0, 0⟩] ⟨2, 7, true, 0, 4, false, 0, 0, 0⟩ (by decide)
  rw [show addP [⟨1, 7, true, 1, 4, false, 0, 0, 0⟩] ⟨2, 7, true, 0, 4, false, 0, 0, 0⟩ = ([⟨1, 7, true, 1, 4, false, 0, 0, 0⟩], 15) by decide] at h2
  have h3 := add_ok [⟨1, 7, true, 1, 4, false, 0, 0, 0⟩] ⟨2, 7, true, 0, 5, false, 0, 0, 0⟩ (by decide)
  rw [show addP [⟨1, 7, true, 1, 4, false, 0, 0, 0⟩] ⟨2, 7, true, 0, 5, false, 0, 0, 0⟩ = ([⟨1, 7, true, 1, 4, false, 0, 0, 0⟩, ⟨2, 7, true, 0, 5, false, 0, 0, 0⟩], 0) by decide] at h3
  have h4 := find_ok [⟨1, 7, true, 1, 4, false, 0, 0, 0⟩, ⟨2, 7, true, 0, 5, false, 0, 0, 0⟩] [7] true 1 5 (by decide) (by decide)
  rw [show findP [⟨1, 7, true, 1, 4, false, 0, 0, 0⟩, ⟨2, 7, true, 0, 5, false, 0, 0, 0⟩] [7] true 1 5 = (⟨2, 7, true, 0, 5, false, 0, 0, 0⟩, true) by decide] at h4
  exact pure_of (hs := hint [((2,2), {call := some (tabR ([{ client := (1 : Int), window := (7 : Int), button := true, code := (1 : Int), mods := (4 : Int), owner := false, mask := (0 : Int), pointer := (0 : Int), keyboard := (0 : Int) : Grab }], (0 : Int)))}), ((3,2), {call := some (tabR ([{ client := (1 : Int), window := (7 : Int), button := true, code := (1 : Int), mods := (4 : Int), owner := false, mask := (0 : Int), pointer := (0 : Int), keyboard := (0 : Int) : Grab }], (15 : Int)))}), ((4,2), {call := some (tabR ([{ client := (1 : Int), window := (7 : Int), button := true, code := (1 : Int), mods := (4 : Int), owner := false, mask := (0 : Int), pointer := (0 : Int), keyboard := (0 : Int) : Grab }, { client := (2 : Int), window := (7 : Int), button := true, code := (0 : Int), mods := (5 : Int), owner := false, mask := (0 : Int), pointer := (0 : Int), keyboard := (0 : Int) : Grab }], (0 : Int)))}), ((5,2), {call := some (foundR ({ client := (2 : Int), window := (7 : Int), button := true, code := (0 : Int), mods := (5 : Int), owner := false, mask := (0 : Int), pointer := (0 : Int), keyboard := (0 : Int) : Grab }, true))})]) (ps := [_, _, _, _]) (by kernel_rfl) ⟨(h1), (h2), (h3), (h4), trivial⟩
theorem meet_comm (a b : Grab) : meetD a b = meetD b a := by
  unfold meetD
  apply decide_eq_decide.2
  constructor <;> (rintro ⟨h1, h2, h3, h4⟩; exact ⟨h1.symm, h2.symm, by omega, by omega⟩)
theorem meet_self (a : Grab) : meetD a a = true := by simp [meetD]
theorem meets_ok (a b : Grab) : Pu 3 [A (grabL a), A (grabL b)] (bl true) := by
  have h1 := meet_comm b a
  have h2 := meet_self a
  exact pure_of (hs := hint [((1,1), {call := some (A (grabL { client := a.client, window := a.window, button := a.button, code := a.code, mods := a.mods, owner := a.owner, mask := a.mask, pointer := a.pointer, keyboard := a.keyboard : Grab }))}), ((1,3), {call := some (A (grabL { client := b.client, window := b.window, button := b.button, code := b.code, mods := b.mods, owner := b.owner, mask := b.mask, pointer := b.pointer, keyboard := b.keyboard : Grab }))}), ((1,4), {call := some (bl (meetD { client := a.client, window := a.window, button := a.button, code := a.code, mods := a.mods, owner := a.owner, mask := a.mask, pointer := a.pointer, keyboard := a.keyboard : Grab } { client := b.client, window := b.window, button := b.button, code := b.code, mods := b.mods, owner := b.owner, mask := b.mask, pointer := b.pointer, keyboard := b.keyboard : Grab }))}), ((2,2), {call := some (bl (meetD { client := a.client, window := a.window, button := a.button, code := a.code, mods := a.mods, owner := a.owner, mask := a.mask, pointer := a.pointer, keyboard := a.keyboard : Grab } { client := b.client, window := b.window, button := b.button, code := b.code, mods := b.mods, owner := b.owner, mask := b.mask, pointer := b.pointer, keyboard := b.keyboard : Grab }))}), ((2,5), {val := some (bl (true))}), ((2,8), {call := some (bl (meetD { client := b.client, window := b.window, button := b.button, code := b.code, mods := b.mods, owner := b.owner, mask := b.mask, pointer := b.pointer, keyboard := b.keyboard : Grab } { client := a.client, window := a.window, button := a.button, code := a.code, mods := a.mods, owner := a.owner, mask := a.mask, pointer := a.pointer, keyboard := a.keyboard : Grab }))}), ((2,12), {val := some (bl (true))}), ((2,15), {call := some (bl (meetD { client := a.client, window := a.window, button := a.button, code := a.code, mods := a.mods, owner := a.owner, mask := a.mask, pointer := a.pointer, keyboard := a.keyboard : Grab } { client := a.client, window := a.window, button := a.button, code := a.code, mods := a.mods, owner := a.owner, mask := a.mask, pointer := a.pointer, keyboard := a.keyboard : Grab }))}), ((2,17), {val := some (bl (true))}), ((2,18), {call := some (bl true)})]) (ps := [_, _, _, _, bl (meetD { client := a.client, window := a.window, button := a.button, code := a.code, mods := a.mods, owner := a.owner, mask := a.mask, pointer := a.pointer, keyboard := a.keyboard : Grab } { client := b.client, window := b.window, button := b.button, code := b.code, mods := b.mods, owner := b.owner, mask := b.mask, pointer := b.pointer, keyboard := b.keyboard : Grab } == meetD { client := a.client, window := a.window, button := a.button, code := a.code, mods := a.mods, owner := a.owner, mask := a.mask, pointer := a.pointer, keyboard := a.keyboard : Grab } { client := b.client, window := b.window, button := b.button, code := b.code, mods := b.mods, owner := b.owner, mask := b.mask, pointer := b.pointer, keyboard := b.keyboard : Grab }) = bl (true), _, bl (meetD { client := b.client, window := b.window, button := b.button, code := b.code, mods := b.mods, owner := b.owner, mask := b.mask, pointer := b.pointer, keyboard := b.keyboard : Grab } { client := a.client, window := a.window, button := a.button, code := a.code, mods := a.mods, owner := a.owner, mask := a.mask, pointer := a.pointer, keyboard := a.keyboard : Grab } == meetD { client := a.client, window := a.window, button := a.button, code := a.code, mods := a.mods, owner := a.owner, mask := a.mask, pointer := a.pointer, keyboard := a.keyboard : Grab } { client := b.client, window := b.window, button := b.button, code := b.code, mods := b.mods, owner := b.owner, mask := b.mask, pointer := b.pointer, keyboard := b.keyboard : Grab }) = bl (true), _, bl (meetD { client := a.client, window := a.window, button := a.button, code := a.code, mods := a.mods, owner := a.owner, mask := a.mask, pointer := a.pointer, keyboard := a.keyboard : Grab } { client := a.client, window := a.window, button := a.button, code := a.code, mods := a.mods, owner := a.owner, mask := a.mask, pointer := a.pointer, keyboard := a.keyboard : Grab }) = bl (true), _]) (by kernel_rfl) ⟨(of_ok (a)), (of_ok (b)), (rmeet_ok (a) (b)), (meet_ok (a) (b)), (beT (by (simp; done))), (meet_ok (b) (a)), (beT (by assumption)), (meet_ok (a) (a)), (bvT (by assumption)), (awake_ok), trivial⟩
end Go.Proofs.Ytoangjndoimobaa
