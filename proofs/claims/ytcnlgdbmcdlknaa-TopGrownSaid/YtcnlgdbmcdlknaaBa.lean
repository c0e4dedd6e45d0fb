/- Rectangles as plain values; the small functions. By the prover of this seat. -/
import Derived.Test.YtcnlgdbmcdlknaaRows
import Derived.Test.YtcnlgdbmcdlknaaPmF
import Derived.Test.YtcnlgdbmcdlknaaAc
import Derived.Lib.SliceRun
set_option linter.unusedVariables false
set_option linter.unusedSimpArgs false
set_option maxRecDepth 100000
set_option maxHeartbeats 4000000
namespace Go.Proofs.Ytcnlgdbmcdlknaa.Bn
open Go.RowKit Go.Pm
def G0 : Nat → Option (List AV) := fun _ => none
abbrev PT (f : FuncId) (args : List AV) (r : AV) : Prop := Pure Try.prog G0 f args r []
noncomputable def C0 : Cx := ⟨Try.prog, G0, 0⟩
def eR (r : Rc) : List AV := [i64 r.x, i64 r.y, i64 r.w, i64 r.h]
theorem eR_len (r : Rc) : (eR r).length = 4 := rfl
abbrev slR (l : List Rc) : AV := slE eR l
def eI (n : Int) : List AV := [i64 n]
abbrev slI (l : List Int) : AV := slE eI l
def rgA (l : List Rc) : AV := A [slR l]
theorem fits_ok (a n : Int) (h0 : -2000 ≤ a) (h1 : a ≤ 2000) (h2 : -2000 ≤ n) (h3 : n ≤ 2000) : PT 42 [i64 a, i64 n] (bl (decide (0 < n))) := by
  by_cases h : 0 < n
  · rw [decide_t h]
    exact pure_cast (pure_of (hs := hint [((1,2), {val := some (bl (true))}), ((1,6), {val := some (bl (true))}), ((1,9), {val := some (i64 ((1048576 : Int) - a))})]) (r := bl (decide (n ≤ (1048576 : Int) - a))) (ps := [bl (decide (a ≥ (-1048576 : Int))) = bl (true), bl (decide (n > (0 : Int))) = bl (true), i64 (IntKind.i64.wrap ((1048576 : Int) - a)) = i64 ((1048576 : Int) - a)]) (by kernel_rfl) ⟨(bdT (by omega)), (bdT (by assumption)), (intE (by exact wrap_i64 (by omega) (by omega))), trivial⟩) (by (simp; omega))
  · rw [decide_eq_false h]
    exact pure_of (hs := hint [((1,2), {val := some (bl (true))}), ((1,6), {val := some (bl (false))})]) (ps := [bl (decide (a ≥ (-1048576 : Int))) = bl (true), bl (decide (n > (0 : Int))) = bl (false)]) (by kernel_rfl) ⟨(bdT (by omega)), (bdF (by assumption)), trivial⟩
theorem moved_ok (a n d : Int) (h0 : -2000 ≤ a) (h1 : a ≤ 2000) (h2 : -2000 ≤ n) (h3 : n ≤ 2000) (h4 : -2000 ≤ d) (h5 : d ≤ 2000) : PT 35 [i64 a, i64 n, i64 d] (.tup [i64 (a + d), i64 n]) := by
  exact pure_cast (pure_of (hs := hint [((1,2), {val := some (i64 (a + d))}), ((2,2), {val := some (i64 (a + d))}), ((2,4), {val := some (i64 (a + d + n))}), ((3,3), {val := some (i64 ((if (1048576 : Int) < a + d + n then (1048576 : Int) else a + d + n) - if (-1048576 : Int) > a + d then (-1048576 : Int) else a + d))})]) (r := AV.tup [i64 (if (-1048576 : Int) > a + d then (-1048576 : Int) else a + d), i64 ((if (1048576 : Int) < a + d + n then (1048576 : Int) else a + d + n) - if (-1048576 : Int) > a + d then (-1048576 : Int) else a + d)]) (ps := [i64 (IntKind.i64.wrap (a + d)) = i64 (a + d), i64 (IntKind.i64.wrap (a + d)) = i64 (a + d), i64 (IntKind.i64.wrap (a + d + n)) = i64 (a + d + n), i64 (IntKind.i64.wrap ((if (1048576 : Int) < a + d + n then (1048576 : Int) else a + d + n) - if (-1048576 : Int) > a + d then (-1048576 : Int) else a + d)) = i64 ((if (1048576 : Int) < a + d + n then (1048576 : Int) else a + d + n) - if (-1048576 : Int) > a + d then (-1048576 : Int) else a + d)]) (by kernel_rfl) ⟨(intE (by exact wrap_i64 (by omega) (by omega))), (intE (by exact wrap_i64 (by omega) (by omega))), (intE (by exact wrap_i64 (by omega) (by omega))), (intE (by exact wrap_i64 (by omega) (by omega))), trivial⟩) (by (simp; omega))
theorem wider_ok (r : Rc) (h0 : -2000 ≤ r.x) (h1 : r.x ≤ 2000) (h2 : -2000 ≤ r.w) (h3 : r.w ≤ 2000) (h4 : -2000 ≤ r.y) (h5 : r.y ≤ 2000) (h6 : -2000 ≤ r.h) (h7 : r.h ≤ 2000) : PT 31 [A (eR r), i64 1] (A (eR (wideR r))) := by
  exact pure_of (hs := hint [((1,3), {val := some (i64 (r.x - (1 : Int)))}), ((1,7), {val := some (i64 (r.y - (1 : Int)))}), ((1,12), {val := some (i64 (r.w + (2 : Int)))}), ((1,17), {val := some (i64 (r.h + (2 : Int)))})]) (ps := [i64 (IntKind.i64.wrap (r.x - (1 : Int))) = i64 (r.x - (1 : Int)), i64 (IntKind.i64.wrap (r.y - (1 : Int))) = i64 (r.y - (1 : Int)), i64 (IntKind.i64.wrap (r.w + (2 : Int))) = i64 (r.w + (2 : Int)), i64 (IntKind.i64.wrap (r.h + (2 : Int))) = i64 (r.h + (2 : Int))]) (by kernel_rfl) ⟨(intE (by exact wrap_i64 (by omega) (by omega))), (intE (by exact wrap_i64 (by omega) (by omega))), (intE (by exact wrap_i64 (by omega) (by omega))), (intE (by exact wrap_i64 (by omega) (by omega))), trivial⟩
theorem empty_ok (l : List Rc) : PT 33 [rgA l] (bl (decide (l.length = 0))) := by
  by_cases h : l.length = 0
  · rw [decide_t h]
    exact pure_cast (pure_of (hs := hint []) (r := bl ((↑l.length : Int) == (0 : Int))) (ps := []) (by kernel_rfl) trivial) (by (simp [*]; done))
  · rw [decide_eq_false h]
    exact pure_cast (pure_of (hs := hint []) (r := bl ((↑l.length : Int) == (0 : Int))) (ps := []) (by kernel_rfl) trivial) (by (simp [*]; done))
theorem counts_ok (r : Rc) (h0 : -2000 ≤ r.x) (h1 : r.x ≤ 2000) (h2 : -2000 ≤ r.w) (h3 : r.w ≤ 2000) (h4 : -2000 ≤ r.y) (h5 : r.y ≤ 2000) (h6 : -2000 ≤ r.h) (h7 : r.h ≤ 2000) : PT 17 [A (eR r)] (bl (decide (0 < r.w) && decide (0 < r.h))) := by
  have f1 := fits_ok r.x r.w h0 h1 h2 h3
  have f2 := fits_ok r.y r.h h4 h5 h6 h7
  by_cases h : 0 < r.w
  · rw [decide_t h] at f1 ⊢
    rw [Bool.true_and]
    exact pure_of (hs := hint [((1,4), {call := some ((bl true))}), ((1,10), {call := some ((bl (decide ((0 : Int) < r.h))))})]) (ps := [_, _]) (by kernel_rfl) ⟨(f1), (f2), trivial⟩
  · rw [decide_eq_false h] at f1 ⊢
    rw [Bool.false_and]
    exact pure_of (hs := hint [((1,4), {call := some ((bl false))})]) (ps := [_]) (by kernel_rfl) ⟨(f1), trivial⟩
theorem clo_x (l : List Rc) (hl : l.length ≤ 1000000) : Pure Try.prog G0 53 [.sx l.length (l.flatMap eR)] (.osl 1 0 (0 + l.length) 4) [.dead, .arr ((0 + l.length) * 4) (l.flatMap eR) 0] := by
  have e := row_take (sz := 4) (enc := eR) (fun _ => rfl) l (l.length * 4) (by omega)
  have e2 : (0 + l.length) = l.length := Nat.zero_add _
  exact (fnRun_ok (hs := hint [((3,2), { sym := true, cells := some (l.flatMap eR) })]) (ps := [true = true, decide (((0 : Nat) + l.length) * (32 : Nat) ≤ (140737488355328 : Nat)) = true, decide ((List.take (l.length * (4 : Nat)) (List.flatMap eR l)).length = l.length * (4 : Nat)) = true, ((List.take (l.length * (4 : Nat)) (List.flatMap eR l)) : List AV) = (List.flatMap eR l)]) (by kernel_rfl) ⟨(by (first | exact decide_t (by omega) | (rw [e]; rfl) | exact decide_t (by rw [e, row_len (sz := 4) (fun _ => rfl)]) | exact decide_t ⟨rfl, Nat.le_refl _, rfl⟩ | rfl)), (by (first | exact decide_t (by omega) | (rw [e]; rfl) | exact decide_t (by rw [e, row_len (sz := 4) (fun _ => rfl)]) | exact decide_t ⟨rfl, Nat.le_refl _, rfl⟩ | rfl)), (by (first | exact decide_t (by omega) | (rw [e]; rfl) | exact decide_t (by rw [e, row_len (sz := 4) (fun _ => rfl)]) | exact decide_t ⟨rfl, Nat.le_refl _, rfl⟩ | rfl)), (by assumption), trivial⟩).1
theorem clo_nil (W : World) : Calls Try.prog 53 #[.slice none 0 0] W fun e w' => e = .returned (.slice none 0 0) ∧ w' = W := by
  have q25 : ∀ (w : World) (a : Option Addr) (n c n' c' : Nat), (binOp .eql 25 (.slice a n c) (.slice none n' c')).run Try.prog w = .ok (.bool a.isNone) w := fun w a n c n' c' => Lib.run_eql_slice_nil w _ _ a n c n' c' Try.underlying25
  go_enter Try.func53, Try.ntmps53
  go_wp2
  go_ret
  exact ⟨rfl, rfl⟩
theorem wr_nil {w0 W : World} {ρ : Nm} {M : Mem} (h : WR w0 ρ M [] W) (H : List Bk) : WR w0 ρ M H W := by
  have hn : ∀ i x, ρ i = some x → False := fun i x e => by have := h.dom i x e; simp at this
  exact ⟨h.bel, h.fro, fun i x e => (hn i x e).elim, fun i j b s t B B' e => (hn i _ e).elim, fun i b s B e => (hn i _ e).elim, fun i b s B e => (hn i _ e).elim, fun i b s B e => (hn i _ e).elim⟩
theorem clo_ok (l : List Rc) (hl : l.length ≤ 1000000) : Pure Try.prog G0 53 [slR l] (.osl 0 0 l.length 4) [.arr (l.length * 4) (l.flatMap eR) 0] := by
  have h := clo_x l hl
  rw [Nat.zero_add] at h
  have h1 : Pure Try.prog G0 53 [.sx l.length (l.flatMap eR)] (.osl 0 0 l.length 4) [.arr (l.length * 4) (l.flatMap eR) 0] := h.lay [some 1] [true] (by kernel_rfl) (by kernel_rfl) ⟨row_pureB (fun _ => rfl) _ _ _, trivial⟩
  refine ⟨h1.1, fun w0 ρ M W vals hw hg ha => ?_⟩
  obtain ⟨v, us, rfl, q1, q2⟩ := ha.inv_cons
  obtain rfl : us = [] := by have := q2.len; cases us <;> simp at this; rfl
  rcases q1.split with q | ⟨rfl, hn, hc⟩
  · exact h1.2 w0 ρ M W _ hw hg (.cons q .nil)
  · obtain rfl := List.eq_nil_of_length_eq_zero hn
    refine (clo_nil W).mono ?_
    rintro e w' ⟨rfl, rfl⟩
    exact ⟨_, ρ, M, rfl, Mem.le.refl _, Nm.le.refl _, wr_nil hw _, .osl_e, Fresh.refl _ _⟩
end Go.Proofs.Ytcnlgdbmcdlknaa.Bn
