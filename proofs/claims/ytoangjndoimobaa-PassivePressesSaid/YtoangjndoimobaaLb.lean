/- The closures of the table; the first of a row for which one is true. By the prover of this seat. -/
import Derived.Test.YtoangjndoimobaaLa
set_option linter.unusedVariables false
set_option linter.unusedSimpArgs false
set_option maxRecDepth 100000
set_option maxHeartbeats 4000000
namespace Go.Proofs.Ytoangjndoimobaa
open Go.RowKit Go.Pm
def otherD (g o : Grab) : Bool := decide (¬ o.client = g.client) && meetD o g
def pathD (id : Int) (button : Bool) (code mods : Int) (g : Grab) : Bool := decide (g.window = id ∧ g.button = button ∧ (g.code = code ∨ g.code = 0) ∧ (g.mods = mods ∨ g.mods = 32768))
def idxD {α : Type} (p : α → Bool) : List α → Option Nat
  | [] => none
  | x :: l => if p x = true then some 0 else (idxD p l).map (· + 1)
def idxI (r : Option Nat) : Int := match r with
  | some k => k
  | none => -1
theorem idx_some {α : Type} [Inhabited α] {p : α → Bool} : ∀ {l : List α} {k : Nat}, idxD p l = some k → k < l.length ∧ p (nth l k) = true ∧ ∀ j, j < k → ¬ p (nth l j) = true := by
  intro l
  induction l with
  | nil => intro k h; cases h
  | cons x l ih =>
    intro k h
    unfold idxD at h
    split at h
    · rename_i hx
      cases h
      exact ⟨by simp, hx, fun j hj => by omega⟩
    · rename_i hx
      simp only [Option.map_eq_some_iff] at h
      obtain ⟨m, hm, rfl⟩ := h
      obtain ⟨h1, h2, h3⟩ := ih hm
      refine ⟨by simp; omega, h2, fun j hj => ?_⟩
      cases j with
      | zero => exact hx
      | succ j => exact h3 j (by omega)
theorem idx_none {α : Type} [Inhabited α] {p : α → Bool} : ∀ {l : List α}, idxD p l = none → ∀ j, j < l.length → ¬ p (nth l j) = true := by
  intro l
  induction l with
  | nil => intro h j hj; simp at hj
  | cons x l ih =>
    intro h j hj
    unfold idxD at h
    split at h
    · cases h
    · rename_i hx
      simp only [Option.map_eq_none_iff] at h
      cases j with
      | zero => exact hx
      | succ j => exact ih h j (by simpa using hj)
theorem idx_isSome {α : Type} (p : α → Bool) (l : List α) : (idxD p l).isSome = l.any p := by
  induction l with
  | nil => rfl
  | cons x l ih =>
    unfold idxD
    by_cases hx : p x = true
    · simp [hx]
    · simp [hx, ← ih]
theorem mark_eq (o g : Grab) : bl ((o.client == g.client) && ((o.window == g.window) && ((o.button == g.button) && ((o.code == g.code) && ((o.mods == g.mods) && true))))) = bl (alikeD o g) := by
  congr 2
  rw [Bool.eq_iff_iff]
  simp [alikeD]
theorem cl26_ok (g o : Grab) : Pu 26 [A (grabL o), .fptr (grabL g)] (bl (otherD g o)) := by
  by_cases h1 : o.client = g.client
  · exact pure_cast (pure_of (hs := hint [((1,5), {val := some (bl (false))})]) (r := bl (false)) (ps := [bl (o.client != g.client) = bl (false)]) (by kernel_rfl) ⟨(neT h1), trivial⟩) (by (simp [otherD, *]; done))
  · exact pure_cast (pure_of (hs := hint [((1,5), {val := some (bl (true))}), ((1,8), {call := some (bl (meetD { client := o.client, window := o.window, button := o.button, code := o.code, mods := o.mods, owner := o.owner, mask := o.mask, pointer := o.pointer, keyboard := o.keyboard : Grab } { client := g.client, window := g.window, button := g.button, code := g.code, mods := g.mods, owner := g.owner, mask := g.mask, pointer := g.pointer, keyboard := g.keyboard : Grab }))})]) (r := bl (meetD { client := o.client, window := o.window, button := o.button, code := o.code, mods := o.mods, owner := o.owner, mask := o.mask, pointer := o.pointer, keyboard := o.keyboard : Grab } { client := g.client, window := g.window, button := g.button, code := g.code, mods := g.mods, owner := g.owner, mask := g.mask, pointer := g.pointer, keyboard := g.keyboard : Grab })) (ps := [bl (o.client != g.client) = bl (true), _]) (by kernel_rfl) ⟨(neF h1), (meet_ok (o) (g)), trivial⟩) (by (simp [otherD, *]; done))
theorem cl28_ok (g o : Grab) : Pu 28 [A (grabL o), .fptr (grabL g)] (bl (alikeD o g)) := by
  exact pure_cast (pure_of (hs := hint [((1,1), {call := some (A [i64 { client := o.client, window := o.window, button := o.button, code := o.code, mods := o.mods, owner := o.owner, mask := o.mask, pointer := o.pointer, keyboard := o.keyboard : Grab }.client, u32 { client := o.client, window := o.window, button := o.button, code := o.code, mods := o.mods, owner := o.owner, mask := o.mask, pointer := o.pointer, keyboard := o.keyboard : Grab }.window, bl { client := o.client, window := o.window, button := o.button, code := o.code, mods := o.mods, owner := o.owner, mask := o.mask, pointer := o.pointer, keyboard := o.keyboard : Grab }.button, i64 { client := o.client, window := o.window, button := o.button, code := o.code, mods := o.mods, owner := o.owner, mask := o.mask, pointer := o.pointer, keyboard := o.keyboard : Grab }.code, i64 { client := o.client, window := o.window, button := o.button, code := o.code, mods := o.mods, owner := o.owner, mask := o.mask, pointer := o.pointer, keyboard := o.keyboard : Grab }.mods])}), ((1,3), {call := some (A [i64 { client := g.client, window := g.window, button := g.button, code := g.code, mods := g.mods, owner := g.owner, mask := g.mask, pointer := g.pointer, keyboard := g.keyboard : Grab }.client, u32 { client := g.client, window := g.window, button := g.button, code := g.code, mods := g.mods, owner := g.owner, mask := g.mask, pointer := g.pointer, keyboard := g.keyboard : Grab }.window, bl { client := g.client, window := g.window, button := g.button, code := g.code, mods := g.mods, owner := g.owner, mask := g.mask, pointer := g.pointer, keyboard := g.keyboard : Grab }.button, i64 { client := g.client, window := g.window, button := g.button, code := g.code, mods := g.mods, owner := g.owner, mask := g.mask, pointer := g.pointer, keyboard := g.keyboard : Grab }.code, i64 { client := g.client, window := g.window, button := g.button, code := g.code, mods := g.mods, owner := g.owner, mask := g.mask, pointer := g.pointer, keyboard := g.keyboard : Grab }.mods])})]) (r := bl (o.client == g.client && (o.window == g.window && (o.button == g.button && (o.code == g.code && (o.mods == g.mods && true)))))) (ps := [_, _]) (by kernel_rfl) ⟨(mark_ok (o)), (mark_ok (g)), trivial⟩) (by exact mark_eq _ _)
theorem cl32_ok (id : Int) (button : Bool) (code mods : Int) (g : Grab) : Pu 32 [A (grabL g), .fptr [u32 id], .fptr [bl button], .fptr [i64 code], .fptr [i64 mods]] (bl (pathD id button code mods g)) := by
  by_cases h1 : g.window = id
  · by_cases h2 : g.button = button
    · by_cases h3 : g.code = (0 : Int)
      · by_cases h4 : g.mods = (32768 : Int)
        · exact pure_cast (pure_of (hs := hint [((1,4), {val := some (bl (true))}), ((1,10), {val := some (bl (true))}), ((1,14), {val := some (bl (true))}), ((1,25), {val := some (bl (true))})]) (r := bl (true)) (ps := [bl (g.window == id) = bl (true), bl (g.button == button) = bl (true), bl (g.code == (0 : Int)) = bl (true), bl (g.mods == (32768 : Int)) = bl (true)]) (by kernel_rfl) ⟨(beT h1), (beT h2), (beT h3), (beT h4), trivial⟩) (by exact bl_dec (by simp_all))
        · exact pure_cast (pure_of (hs := hint [((1,4), {val := some (bl (true))}), ((1,10), {val := some (bl (true))}), ((1,14), {val := some (bl (true))}), ((1,25), {val := some (bl (false))})]) (r := bl (g.mods == mods)) (ps := [bl (g.window == id) = bl (true), bl (g.button == button) = bl (true), bl (g.code == (0 : Int)) = bl (true), bl (g.mods == (32768 : Int)) = bl (false)]) (by kernel_rfl) ⟨(beT h1), (beT h2), (beT h3), (beF h4), trivial⟩) (by exact beq_blI (by simp_all))
      · by_cases h4 : g.code = code
        · by_cases h5 : g.mods = (32768 : Int)
          · exact pure_cast (pure_of (hs := hint [((1,4), {val := some (bl (true))}), ((1,10), {val := some (bl (true))}), ((1,14), {val := some (bl (false))}), ((1,21), {val := some (bl (true))}), ((1,25), {val := some (bl (true))})]) (r := bl (true)) (ps := [bl (g.window == id) = bl (true), bl (g.button == button) = bl (true), bl (g.code == (0 : Int)) = bl (false), bl (g.code == code) = bl (true), bl (g.mods == (32768 : Int)) = bl (true)]) (by kernel_rfl) ⟨(beT h1), (beT h2), (beF h3), (beT h4), (beT h5), trivial⟩) (by exact bl_dec (by simp_all))
          · exact pure_cast (pure_of (hs := hint [((1,4), {val := some (bl (true))}), ((1,10), {val := some (bl (true))}), ((1,14), {val := some (bl (false))}), ((1,21), {val := some (bl (true))}), ((1,25), {val := some (bl (false))})]) (r := bl (g.mods == mods)) (ps := [bl (g.window == id) = bl (true), bl (g.button == button) = bl (true), bl (g.code == (0 : Int)) = bl (false), bl (g.code == code) = bl (true), bl (g.mods == (32768 : Int)) = bl (false)]) (by kernel_rfl) ⟨(beT h1), (beT h2), (beF h3), (beT h4), (beF h5), trivial⟩) (by exact beq_blI (by simp_all))
        · exact pure_cast (pure_of (hs := hint [((1,4), {val := some (bl (true))}), ((1,10), {val := some (bl (true))}), ((1,14), {val := some (bl (false))}), ((1,21), {val := some (bl (false))})]) (r := bl (false)) (ps := [bl (g.window == id) = bl (true), bl (g.button == button) = bl (true), bl (g.code == (0 : Int)) = bl (false), bl (g.code == code) = bl (false)]) (by kernel_rfl) ⟨(beT h1), (beT h2), (beF h3), (beF h4), trivial⟩) (by exact bl_ndec (by simp_all))
    · exact pure_cast (pure_of (hs := hint [((1,4), {val := some (bl (true))}), ((1,10), {val := some (bl (false))})]) (r := bl (false)) (ps := [bl (g.window == id) = bl (true), bl (g.button == button) = bl (false)]) (by kernel_rfl) ⟨(beT h1), (beF h2), trivial⟩) (by exact bl_ndec (by simp_all))
  · exact pure_cast (pure_of (hs := hint [((1,4), {val := some (bl (false))})]) (r := bl (false)) (ps := [bl (g.window == id) = bl (false)]) (by kernel_rfl) ⟨(beF h1), trivial⟩) (by exact bl_ndec (by simp_all))
noncomputable def ixBody : Code := loopOf Try.prog 27 2
def ixSt (f : AV) (l : List Grab) (k : Nat) : St := ⟨mkT 19 [(0, slG l), (1, f), (7, i64 l.length), (8, i64 k)], []⟩
def ixHit (k : Nat) : St := ⟨mkT 19 [(4, i64 k)], []⟩
def fn_o (g : Grab) : AV := .fn (.func 26) [] [.fptr (grabL g)]
theorem ix_step_o (g : Grab) (l : List Grab) (k : Nat) (hk : k < l.length) (hl : l.length ≤ 1000000000) (hp : ¬ otherD g (nth l k) = true) : Tri C0 ixBody (ixSt (fn_o g) l k) .normal (ixSt (fn_o g) l (k + 1)) := by
  exact runF_ok (hs := hint [((2,0), {val := some (bl (true))}), ((4,3), {cells := some (grabL (nth l k) ++ List.flatMap grabL (List.drop (k + (1 : Nat)) l)), sym := true}), ((4,5), {val := some (bl (false)), call := some (bl (otherD { client := g.client, window := g.window, button := g.button, code := g.code, mods := g.mods, owner := g.owner, mask := g.mask, pointer := g.pointer, keyboard := g.keyboard : Grab } { client := (nth l k).client, window := (nth l k).window, button := (nth l k).button, code := (nth l k).code, mods := (nth l k).mods, owner := (nth l k).owner, mask := (nth l k).mask, pointer := (nth l k).pointer, keyboard := (nth l k).keyboard : Grab }))}), ((6,0), {val := some (i64 ((↑k : Int) + (1 : Int)))})]) (f := { ks := [0, 1, 7, 8] }) (ps := [bl (decide ((↑k : Int) < (↑l.length : Int))) = bl (true), decide ((0 : Int) ≤ (↑k : Int) ∧ (↑k : Int) < (↑l.length : Int)) = true, ((List.drop ((↑k : Int).toNat * (9 : Nat)) (List.flatMap grabL l)) : List AV) = (grabL (nth l k) ++ List.flatMap grabL (List.drop (k + (1 : Nat)) l)), _, bl (otherD { client := g.client, window := g.window, button := g.button, code := g.code, mods := g.mods, owner := g.owner, mask := g.mask, pointer := g.pointer, keyboard := g.keyboard : Grab } { client := (nth l k).client, window := (nth l k).window, button := (nth l k).button, code := (nth l k).code, mods := (nth l k).mods, owner := (nth l k).owner, mask := (nth l k).mask, pointer := (nth l k).pointer, keyboard := (nth l k).keyboard : Grab }) = bl (false), i64 (IntKind.i64.wrap ((↑k : Int) + (1 : Int))) = i64 ((↑k : Int) + (1 : Int)), true = true]) (by kernel_rfl) ⟨(bdT (by omega)), (by exact decide_t (by omega)), (by exact flat_nth (sz := 9) (k := k) (fun _ => rfl) (by omega)), (cl26_ok (g) (nth l k)), (bvF (by assumption)), (intE (by exact wrap_i64 (by omega) (by omega))), rfl, trivial⟩
theorem ix_hit_o (g : Grab) (l : List Grab) (k : Nat) (hk : k < l.length) (hl : l.length ≤ 1000000000) (hp : otherD g (nth l k) = true) : LoopT C0 ixBody (ixSt (fn_o g) l k) .ret (ixHit k) := by
  exact LoopT.fin (hs := hint [((2,0), {val := some (bl (true))}), ((4,3), {cells := some (grabL (nth l k) ++ List.flatMap grabL (List.drop (k + (1 : Nat)) l)), sym := true}), ((4,5), {val := some (bl (true)), call := some (bl (otherD { client := g.client, window := g.window, button := g.button, code := g.code, mods := g.mods, owner := g.owner, mask := g.mask, pointer := g.pointer, keyboard := g.keyboard : Grab } { client := (nth l k).client, window := (nth l k).window, button := (nth l k).button, code := (nth l k).code, mods := (nth l k).mods, owner := (nth l k).owner, mask := (nth l k).mask, pointer := (nth l k).pointer, keyboard := (nth l k).keyboard : Grab }))})]) (f := { ks := [4] }) (ps := [bl (decide ((↑k : Int) < (↑l.length : Int))) = bl (true), decide ((0 : Int) ≤ (↑k : Int) ∧ (↑k : Int) < (↑l.length : Int)) = true, ((List.drop ((↑k : Int).toNat * (9 : Nat)) (List.flatMap grabL l)) : List AV) = (grabL (nth l k) ++ List.flatMap grabL (List.drop (k + (1 : Nat)) l)), _, bl (otherD { client := g.client, window := g.window, button := g.button, code := g.code, mods := g.mods, owner := g.owner, mask := g.mask, pointer := g.pointer, keyboard := g.keyboard : Grab } { client := (nth l k).client, window := (nth l k).window, button := (nth l k).button, code := (nth l k).code, mods := (nth l k).mods, owner := (nth l k).owner, mask := (nth l k).mask, pointer := (nth l k).pointer, keyboard := (nth l k).keyboard : Grab }) = bl (true), true = true]) (by kernel_rfl) ⟨(bdT (by omega)), (by exact decide_t (by omega)), (by exact flat_nth (sz := 9) (k := k) (fun _ => rfl) (by omega)), (cl26_ok (g) (nth l k)), (bvT (by assumption)), rfl, trivial⟩ (by decide)
theorem ix_end_o (g : Grab) (l : List Grab) : LoopT C0 ixBody (ixSt (fn_o g) l l.length) (.exit 0) (ixSt (fn_o g) l l.length) := by
  exact LoopT.fin (hs := hint [((2,0), {val := some (bl (false))})]) (f := { ks := [0, 1, 7, 8] }) (ps := [bl (decide ((↑l.length : Int) < (↑l.length : Int))) = bl (false), true = true]) (by kernel_rfl) ⟨(bdF (by omega)), rfl, trivial⟩ (by decide)
theorem ix_o (g : Grab) (l : List Grab) (hl : l.length ≤ 1000000000) : Pu 27 [slG l, fn_o g] (i64 (idxI (idxD (otherD g) l))) := by
  cases h : idxD (otherD g) l with
  | some m =>
    obtain ⟨h1, h2, h3⟩ := idx_some h
    have L := LoopT.count (ixSt (fn_o g) l) m (fun k hk => ix_step_o g l k (by omega) hl (h3 k hk)) (ix_hit_o g l m h1 hl h2) 0 (by omega)
    exact pure_of (hs := hint [((2,1000), {loop := some ({ ks := [0, 1, 7, 8] }, ixSt (fn_o g) l (0 : Nat), Ex.ret, ixHit m)})]) (ps := [ixSt (fn_o g) l (0 : Nat) = ixSt (fn_o g) l (0 : Nat), _, true = true]) (by kernel_rfl) ⟨rfl, L, rfl, trivial⟩
  | none =>
    have L := LoopT.count (ixSt (fn_o g) l) l.length (fun k hk => ix_step_o g l k hk hl (idx_none h k hk)) (ix_end_o g l) 0 (by omega)
    exact pure_of (hs := hint [((2,1000), {loop := some ({ ks := [0, 1, 7, 8] }, ixSt (fn_o g) l (0 : Nat), Ex.exit (0 : Nat), ixSt (fn_o g) l l.length)})]) (ps := [ixSt (fn_o g) l (0 : Nat) = ixSt (fn_o g) l (0 : Nat), _, true = true]) (by kernel_rfl) ⟨rfl, L, rfl, trivial⟩
def fn_a (g : Grab) : AV := .fn (.func 28) [] [.fptr (grabL g)]
theorem ix_step_a (g : Grab) (l : List Grab) (k : Nat) (hk : k < l.length) (hl : l.length ≤ 1000000000) (hp : ¬ (fun x => alikeD x g) (nth l k) = true) : Tri C0 ixBody (ixSt (fn_a g) l k) .normal (ixSt (fn_a g) l (k + 1)) := by
  exact runF_ok (hs := hint [((2,0), {val := some (bl (true))}), ((4,3), {cells := some (grabL (nth l k) ++ List.flatMap grabL (List.drop (k + (1 : Nat)) l)), sym := true}), ((4,5), {val := some (bl (false)), call := some (bl (alikeD { client := (nth l k).client, window := (nth l k).window, button := (nth l k).button, code := (nth l k).code, mods := (nth l k).mods, owner := (nth l k).owner, mask := (nth l k).mask, pointer := (nth l k).pointer, keyboard := (nth l k).keyboard : Grab } { client := g.client, window := g.window, button := g.button, code := g.code, mods := g.mods, owner := g.owner, mask := g.mask, pointer := g.pointer, keyboard := g.keyboard : Grab }))}), ((6,0), {val := some (i64 ((↑k : Int) + (1 : Int)))})]) (f := { ks := [0, 1, 7, 8] }) (ps := [bl (decide ((↑k : Int) < (↑l.length : Int))) = bl (true), decide ((0 : Int) ≤ (↑k : Int) ∧ (↑k : Int) < (↑l.length : Int)) = true, ((List.drop ((↑k : Int).toNat * (9 : Nat)) (List.flatMap grabL l)) : List AV) = (grabL (nth l k) ++ List.flatMap grabL (List.drop (k + (1 : Nat)) l)), _, bl (alikeD { client := (nth l k).client, window := (nth l k).window, button := (nth l k).button, code := (nth l k).code, mods := (nth l k).mods, owner := (nth l k).owner, mask := (nth l k).mask, pointer := (nth l k).pointer, keyboard := (nth l k).keyboard : Grab } { client := g.client, window := g.window, button := g.button, code := g.code, mods := g.mods, owner := g.owner, mask := g.mask, pointer := g.pointer, keyboard := g.keyboard : Grab }) = bl (false), i64 (IntKind.i64.wrap ((↑k : Int) + (1 : Int))) = i64 ((↑k : Int) + (1 : Int)), true = true]) (by kernel_rfl) ⟨(bdT (by omega)), (by exact decide_t (by omega)), (by exact flat_nth (sz := 9) (k := k) (fun _ => rfl) (by omega)), (cl28_ok (g) (nth l k)), (bvF (by assumption)), (intE (by exact wrap_i64 (by omega) (by omega))), rfl, trivial⟩
theorem ix_hit_a (g : Grab) (l : List Grab) (k : Nat) (hk : k < l.length) (hl : l.length ≤ 1000000000) (hp : (fun x => alikeD x g) (nth l k) = true) : LoopT C0 ixBody (ixSt (fn_a g) l k) .ret (ixHit k) := by
  exact LoopT.fin (hs := hint [((2,0), {val := some (bl (true))}), ((4,3), {cells := some (grabL (nth l k) ++ List.flatMap grabL (List.drop (k + (1 : Nat)) l)), sym := true}), ((4,5), {val := some (bl (true)), call := some (bl (alikeD { client := (nth l k).client, window := (nth l k).window, button := (nth l k).button, code := (nth l k).code, mods := (nth l k).mods, owner := (nth l k).owner, mask := (nth l k).mask, pointer := (nth l k).pointer, keyboard := (nth l k).keyboard : Grab } { client := g.client, window := g.window, button := g.button, code := g.code, mods := g.mods, owner := g.owner, mask := g.mask, pointer := g.pointer, keyboard := g.keyboard : Grab }))})]) (f := { ks := [4] }) (ps := [bl (decide ((↑k : Int) < (↑l.length : Int))) = bl (true), decide ((0 : Int) ≤ (↑k : Int) ∧ (↑k : Int) < (↑l.length : Int)) = true, ((List.drop ((↑k : Int).toNat * (9 : Nat)) (List.flatMap grabL l)) : List AV) = (grabL (nth l k) ++ List.flatMap grabL (List.drop (k + (1 : Nat)) l)), _, bl (alikeD { client := (nth l k).client, window := (nth l k).window, button := (nth l k).button, code := (nth l k).code, mods := (nth l k).mods, owner := (nth l k).owner, mask := (nth l k).mask, pointer := (nth l k).pointer, keyboard := (nth l k).keyboard : Grab } { client := g.client, window := g.window, button := g.button, code := g.code, mods := g.mods, owner := g.owner, mask := g.mask, pointer := g.pointer, keyboard := g.keyboard : Grab }) = bl (true), true = true]) (by kernel_rfl) ⟨(bdT (by omega)), (by exact decide_t (by omega)), (by exact flat_nth (sz := 9) (k := k) (fun _ => rfl) (by omega)), (cl28_ok (g) (nth l k)), (bvT (by assumption)), rfl, trivial⟩ (by decide)
theorem ix_end_a (g : Grab) (l : List Grab) : LoopT C0 ixBody (ixSt (fn_a g) l l.length) (.exit 0) (ixSt (fn_a g) l l.length) := by
  exact LoopT.fin (hs := hint [((2,0), {val := some (bl (false))})]) (f := { ks := [0, 1, 7, 8] }) (ps := [bl (decide ((↑l.length : Int) < (↑l.length : Int))) = bl (false), true = true]) (by kernel_rfl) ⟨(bdF (by omega)), rfl, trivial⟩ (by decide)
theorem ix_a (g : Grab) (l : List Grab) (hl : l.length ≤ 1000000000) : Pu 27 [slG l, fn_a g] (i64 (idxI (idxD ((fun x => alikeD x g)) l))) := by
  cases h : idxD ((fun x => alikeD x g)) l with
  | some m =>
    obtain ⟨h1, h2, h3⟩ := idx_some h
    have L := LoopT.count (ixSt (fn_a g) l) m (fun k hk => ix_step_a g l k (by omega) hl (h3 k hk)) (ix_hit_a g l m h1 hl h2) 0 (by omega)
    exact pure_of (hs := hint [((2,1000), {loop := some ({ ks := [0, 1, 7, 8] }, ixSt (fn_a g) l (0 : Nat), Ex.ret, ixHit m)})]) (ps := [ixSt (fn_a g) l (0 : Nat) = ixSt (fn_a g) l (0 : Nat), _, true = true]) (by kernel_rfl) ⟨rfl, L, rfl, trivial⟩
  | none =>
    have L := LoopT.count (ixSt (fn_a g) l) l.length (fun k hk => ix_step_a g l k hk hl (idx_none h k hk)) (ix_end_a g l) 0 (by omega)
    exact pure_of (hs := hint [((2,1000), {loop := some ({ ks := [0, 1, 7, 8] }, ixSt (fn_a g) l (0 : Nat), Ex.exit (0 : Nat), ixSt (fn_a g) l l.length)})]) (ps := [ixSt (fn_a g) l (0 : Nat) = ixSt (fn_a g) l (0 : Nat), _, true = true]) (by kernel_rfl) ⟨rfl, L, rfl, trivial⟩
def fn_p (id : Int) (button : Bool) (code mods : Int) : AV := .fn (.func 32) [] [.fptr [u32 id], .fptr [bl button], .fptr [i64 code], .fptr [i64 mods]]
theorem ix_step_p (id : Int) (button : Bool) (code mods : Int) (l : List Grab) (k : Nat) (hk : k < l.length) (hl : l.length ≤ 1000000000) (hp : ¬ pathD id button code mods (nth l k) = true) : Tri C0 ixBody (ixSt (fn_p id button code mods) l k) .normal (ixSt (fn_p id button code mods) l (k + 1)) := by
  exact runF_ok (hs := hint [((2,0), {val := some (bl (true))}), ((4,3), {cells := some (grabL (nth l k) ++ List.flatMap grabL (List.drop (k + (1 : Nat)) l)), sym := true}), ((4,5), {val := some (bl (false)), call := some (bl (pathD id button code mods { client := (nth l k).client, window := (nth l k).window, button := (nth l k).button, code := (nth l k).code, mods := (nth l k).mods, owner := (nth l k).owner, mask := (nth l k).mask, pointer := (nth l k).pointer, keyboard := (nth l k).keyboard : Grab }))}), ((6,0), {val := some (i64 ((↑k : Int) + (1 : Int)))})]) (f := { ks := [0, 1, 7, 8] }) (ps := [bl (decide ((↑k : Int) < (↑l.length : Int))) = bl (true), decide ((0 : Int) ≤ (↑k : Int) ∧ (↑k : Int) < (↑l.length : Int)) = true, ((List.drop ((↑k : Int).toNat * (9 : Nat)) (List.flatMap grabL l)) : List AV) = (grabL (nth l k) ++ List.flatMap grabL (List.drop (k + (1 : Nat)) l)), _, bl (pathD id button code mods { client := (nth l k).client, window := (nth l k).window, button := (nth l k).button, code := (nth l k).code, mods := (nth l k).mods, owner := (nth l k).owner, mask := (nth l k).mask, pointer := (nth l k).pointer, keyboard := (nth l k).keyboard : Grab }) = bl (false), i64 (IntKind.i64.wrap ((↑k : Int) + (1 : Int))) = i64 ((↑k : Int) + (1 : Int)), true = true]) (by kernel_rfl) ⟨(bdT (by omega)), (by exact decide_t (by omega)), (by exact flat_nth (sz := 9) (k := k) (fun _ => rfl) (by omega)), (cl32_ok (id) (button) (code) (mods) (nth l k)), (bvF (by assumption)), (intE (by exact wrap_i64 (by omega) (by omega))), rfl, trivial⟩
theorem ix_hit_p (id : Int) (button : Bool) (code mods : Int) (l : List Grab) (k : Nat) (hk : k < l.length) (hl : l.length ≤ 1000000000) (hp : pathD id button code mods (nth l k) = true) : LoopT C0 ixBody (ixSt (fn_p id button code mods) l k) .ret (ixHit k) := by
  exact LoopT.fin (hs := hint [((2,0), {val := some (bl (true))}), ((4,3), {cells := some (grabL (nth l k) ++ List.flatMap grabL (List.drop (k + (1 : Nat)) l)), sym := true}), ((4,5), {val := some (bl (true)), call := some (bl (pathD id button code mods { client := (nth l k).client, window := (nth l k).window, button := (nth l k).button, code := (nth l k).code, mods := (nth l k).mods, owner := (nth l k).owner, mask := (nth l k).mask, pointer := (nth l k).pointer, keyboard := (nth l k).keyboard : Grab }))})]) (f := { ks := [4] }) (ps := [bl (decide ((↑k : Int) < (↑l.length : Int))) = bl (true), decide ((0 : Int) ≤ (↑k : Int) ∧ (↑k : Int) < (↑l.length : Int)) = true, ((List.drop ((↑k : Int).toNat * (9 : Nat)) (List.flatMap grabL l)) : List AV) = (grabL (nth l k) ++ List.flatMap grabL (List.drop (k + (1 : Nat)) l)), _, bl (pathD id button code mods { client := (nth l k).client, window := (nth l k).window, button := (nth l k).button, code := (nth l k).code, mods := (nth l k).mods, owner := (nth l k).owner, mask := (nth l k).mask, pointer := (nth l k).pointer, keyboard := (nth l k).keyboard : Grab }) = bl (true), true = true]) (by kernel_rfl) ⟨(bdT (by omega)), (by exact decide_t (by omega)), (by exact flat_nth (sz := 9) (k := k) (fun _ => rfl) (by omega)), (cl32_ok (id) (button) (code) (mods) (nth l k)), (bvT (by assumption)), rfl, trivial⟩ (by decide)
theorem ix_end_p (id : Int) (button : Bool) (code mods : Int) (l : List Grab) : LoopT C0 ixBody (ixSt (fn_p id button code mods) l l.length) (.exit 0) (ixSt (fn_p id button code mods) l l.length) := by
  exact LoopT.fin (hs := hint [((2,0), {val := some (bl (false))})]) (f := { ks := [0, 1, 7, 8] }) (ps := [bl (decide ((↑l.length : Int) < (↑l.length : Int))) = bl (false), true = true]) (by kernel_rfl) ⟨(bdF (by omega)), rfl, trivial⟩ (by decide)
theorem ix_p (id : Int) (button : Bool) (code mods : Int) (l : List Grab) (hl : l.length ≤ 1000000000) : Pu 27 [slG l, fn_p id button code mods] (i64 (idxI (idxD (pathD id button code mods) l))) := by
  cases h : idxD (pathD id button code mods) l with
  | some m =>
    obtain ⟨h1, h2, h3⟩ := idx_some h
    have L := LoopT.count (ixSt (fn_p id button code mods) l) m (fun k hk => ix_step_p id button code mods l k (by omega) hl (h3 k hk)) (ix_hit_p id button code mods l m h1 hl h2) 0 (by omega)
    exact pure_of (hs := hint [((2,1000), {loop := some ({ ks := [0, 1, 7, 8] }, ixSt (fn_p id button code mods) l (0 : Nat), Ex.ret, ixHit m)})]) (ps := [ixSt (fn_p id button code mods) l (0 : Nat) = ixSt (fn_p id button code mods) l (0 : Nat), _, true = true]) (by kernel_rfl) ⟨rfl, L, rfl, trivial⟩
  | none =>
    have L := LoopT.count (ixSt (fn_p id button code mods) l) l.length (fun k hk => ix_step_p id button code mods l k hk hl (idx_none h k hk)) (ix_end_p id button code mods l) 0 (by omega)
    exact pure_of (hs := hint [((2,1000), {loop := some ({ ks := [0, 1, 7, 8] }, ixSt (fn_p id button code mods) l (0 : Nat), Ex.exit (0 : Nat), ixSt (fn_p id button code mods) l l.length)})]) (ps := [ixSt (fn_p id button code mods) l (0 : Nat) = ixSt (fn_p id button code mods) l (0 : Nat), _, true = true]) (by kernel_rfl) ⟨rfl, L, rfl, trivial⟩
end Go.Proofs.Ytoangjndoimobaa
