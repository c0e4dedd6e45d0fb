/- Forms: are they right? By the prover of this seat. -/
import Derived.Test.YtcnlgdbmcdlknaaDoorFn
set_option linter.unusedVariables false
set_option linter.unusedSimpArgs false
set_option maxRecDepth 100000
set_option maxHeartbeats 4000000
namespace Go.Proofs.YtcnlgdbmcdlknaaDoor.Fo
open Go.RowKit Go.Pm
structure Fl where
  N : List Int
  B : ByteArray
  L : List Int
def flC (x : Fl) : List AV := [slJ x.N, st x.B, slJ x.L]
def flA (x : Fl) : AV := A (flC x)
def noSz (s : Int) : Bool := !szB s
def checkD (f : Fm) : Int := if f.fixed.length > 16 then 5 else match idxD noSz f.fixed with
  | some _ => 10
  | none => if f.list ≠ 0 ∧ szB f.list = false then 10 else 0
theorem noSz_t {s : Int} (h : noSz s = true) : szB s = false := by unfold noSz at h; simpa using h
theorem noSz_f {s : Int} (h : ¬ noSz s = true) : szB s = true := by unfold noSz at h; simpa using h
noncomputable def fcB : Code := loopOf Tryd.prog 68 4
def fcS (f : Fm) (k : Nat) : St := ⟨mkT 29 [(1, .ptr 0 0), (10, slJ f.fixed), (11, i64 f.fixed.length), (12, i64 k)], [.arr 3 [slJ f.fixed, bl f.bytes, i64 f.list] 0]⟩
def fcH : St := ⟨mkT 29 [(2, i64 10)], []⟩
theorem fc_step (f : Fm) (k : Nat) (hk : k < f.fixed.length) (hl : f.fixed.length ≤ 16) (hs : Pu 74 [i64 (nth f.fixed k)] (bl true)) : Tri C1 fcB (fcS f k) .normal (fcS f (k + 1)) := by
  exact runF_ok (hs := hint [((4,0), {val := some (bl (true))}), ((5,0), {cells := some (eJ (nth f.fixed k) ++ List.flatMap eJ (List.drop (k + (1 : Nat)) f.fixed)), sym := true}), ((6,1), {call := some ((bl true))}), ((8,0), {val := some (i64 ((↑k : Int) + (1 : Int)))})]) (f := { ks := [1, 10, 11, 12], l := [0] }) (ps := [bl (decide ((↑k : Int) < (↑f.fixed.length : Int))) = bl (true), decide ((0 : Int) ≤ (↑k : Int) ∧ (↑k : Int) < (↑f.fixed.length : Int)) = true, ((List.drop ((↑k : Int).toNat * (1 : Nat)) (List.flatMap eJ f.fixed)) : List AV) = (eJ (nth f.fixed k) ++ List.flatMap eJ (List.drop (k + (1 : Nat)) f.fixed)), _, i64 (IntKind.i64.wrap ((↑k : Int) + (1 : Int))) = i64 ((↑k : Int) + (1 : Int)), true = true, true = true]) (by kernel_rfl) ⟨(bdT (by omega)), (by exact decide_t (by omega)), (by exact flat_nth (sz := 1) (k := k) (fun _ => rfl) (by omega)), (hs), (intE (by exact wrap_i64 (by omega) (by omega))), rfl, rfl, trivial⟩
theorem fc_hit (f : Fm) (k : Nat) (hk : k < f.fixed.length) (hl : f.fixed.length ≤ 16) (hs : Pu 74 [i64 (nth f.fixed k)] (bl false)) : LoopT C1 fcB (fcS f k) .ret fcH := by
  exact LoopT.fin (hs := hint [((4,0), {val := some (bl (true))}), ((5,0), {cells := some (eJ (nth f.fixed k) ++ List.flatMap eJ (List.drop (k + (1 : Nat)) f.fixed)), sym := true}), ((6,1), {call := some ((bl false))})]) (f := { ks := [2] }) (ps := [bl (decide ((↑k : Int) < (↑f.fixed.length : Int))) = bl (true), decide ((0 : Int) ≤ (↑k : Int) ∧ (↑k : Int) < (↑f.fixed.length : Int)) = true, ((List.drop ((↑k : Int).toNat * (1 : Nat)) (List.flatMap eJ f.fixed)) : List AV) = (eJ (nth f.fixed k) ++ List.flatMap eJ (List.drop (k + (1 : Nat)) f.fixed)), _, true = true]) (by kernel_rfl) ⟨(bdT (by omega)), (by exact decide_t (by omega)), (by exact flat_nth (sz := 1) (k := k) (fun _ => rfl) (by omega)), (hs), rfl, trivial⟩ (by decide)
theorem fc_end (f : Fm) : LoopT C1 fcB (fcS f f.fixed.length) (.exit 0) (fcS f f.fixed.length) := by
  exact LoopT.fin (hs := hint [((4,0), {val := some (bl (false))})]) (f := { ks := [1, 10, 11, 12], l := [0] }) (ps := [bl (decide ((↑f.fixed.length : Int) < (↑f.fixed.length : Int))) = bl (false), true = true, true = true]) (by kernel_rfl) ⟨(bdF (by omega)), rfl, rfl, trivial⟩ (by decide)
theorem fc_a (f : Fm) (h : f.fixed.length > 16) : Pu 68 [fmA f] (i64 5) := by
  exact pure_of (hs := hint [((1,3), {val := some (bl (true))})]) (ps := [bl (decide ((↑f.fixed.length : Int) > (16 : Int))) = bl (true)]) (by kernel_rfl) ⟨(bdT (by omega)), trivial⟩
theorem fc_b (f : Fm) (h : ¬ f.fixed.length > 16) (L : LoopT C1 fcB (fcS f 0) .ret fcH) : Pu 68 [fmA f] (i64 10) := by
  exact pure_of (hs := hint [((1,3), {val := some (bl (false))}), ((4,1000), {loop := some ({ ks := [1, 10, 11, 12], l := [0] }, fcS f (0 : Nat), Ex.ret, fcH)})]) (ps := [bl (decide ((↑f.fixed.length : Int) > (16 : Int))) = bl (false), fcS f (0 : Nat) = fcS f (0 : Nat), _, true = true, true = true]) (by kernel_rfl) ⟨(bdF (by omega)), rfl, L, rfl, rfl, trivial⟩
theorem fc_c (f : Fm) (h : ¬ f.fixed.length > 16) (h0 : f.list = 0) (L : LoopT C1 fcB (fcS f 0) (.exit 0) (fcS f f.fixed.length)) : Pu 68 [fmA f] (i64 0) := by
  exact pure_of (hs := hint [((1,3), {val := some (bl (false))}), ((4,1000), {loop := some ({ ks := [1, 10, 11, 12], l := [0] }, fcS f (0 : Nat), Ex.exit (0 : Nat), fcS f f.fixed.length)}), ((9,3), {val := some (bl (false))})]) (ps := [bl (decide ((↑f.fixed.length : Int) > (16 : Int))) = bl (false), fcS f (0 : Nat) = fcS f (0 : Nat), _, true = true, true = true, bl (f.list != (0 : Int)) = bl (false)]) (by kernel_rfl) ⟨(bdF (by omega)), rfl, L, rfl, rfl, (neT (by assumption)), trivial⟩
theorem fc_d (f : Fm) (h : ¬ f.fixed.length > 16) (h0 : ¬ f.list = 0) (hs : Pu 74 [i64 f.list] (bl true)) (L : LoopT C1 fcB (fcS f 0) (.exit 0) (fcS f f.fixed.length)) : Pu 68 [fmA f] (i64 0) := by
  exact pure_of (hs := hint [((1,3), {val := some (bl (false))}), ((4,1000), {loop := some ({ ks := [1, 10, 11, 12], l := [0] }, fcS f (0 : Nat), Ex.exit (0 : Nat), fcS f f.fixed.length)}), ((9,3), {val := some (bl (true))}), ((9,6), {call := some ((bl true))})]) (ps := [bl (decide ((↑f.fixed.length : Int) > (16 : Int))) = bl (false), fcS f (0 : Nat) = fcS f (0 : Nat), _, true = true, true = true, bl (f.list != (0 : Int)) = bl (true), _]) (by kernel_rfl) ⟨(bdF (by omega)), rfl, L, rfl, rfl, (neF (by assumption)), (hs), trivial⟩
theorem fc_e (f : Fm) (h : ¬ f.fixed.length > 16) (h0 : ¬ f.list = 0) (hs : Pu 74 [i64 f.list] (bl false)) (L : LoopT C1 fcB (fcS f 0) (.exit 0) (fcS f f.fixed.length)) : Pu 68 [fmA f] (i64 10) := by
  exact pure_of (hs := hint [((1,3), {val := some (bl (false))}), ((4,1000), {loop := some ({ ks := [1, 10, 11, 12], l := [0] }, fcS f (0 : Nat), Ex.exit (0 : Nat), fcS f f.fixed.length)}), ((9,3), {val := some (bl (true))}), ((9,6), {call := some ((bl false))})]) (ps := [bl (decide ((↑f.fixed.length : Int) > (16 : Int))) = bl (false), fcS f (0 : Nat) = fcS f (0 : Nat), _, true = true, true = true, bl (f.list != (0 : Int)) = bl (true), _]) (by kernel_rfl) ⟨(bdF (by omega)), rfl, L, rfl, rfl, (neF (by assumption)), (hs), trivial⟩
theorem fc_ok (f : Fm) : Pu 68 [fmA f] (i64 (checkD f)) := by
  unfold checkD
  by_cases h : f.fixed.length > 16
  · rw [if_pos h]; exact fc_a f h
  rw [if_neg h]
  have step : ∀ k, k < f.fixed.length → ¬ noSz (nth f.fixed k) = true → Tri C1 fcB (fcS f k) .normal (fcS f (k + 1)) := fun k hk hp => by
    have hs := sized_ok (nth f.fixed k)
    rw [noSz_f hp] at hs
    exact fc_step f k hk (by omega) hs
  cases hi : idxD noSz f.fixed with
  | some m =>
    obtain ⟨h1, h2, h3⟩ := idx_some hi
    have hs := sized_ok (nth f.fixed m)
    rw [noSz_t h2] at hs
    exact fc_b f h (LoopT.count (fcS f) m (fun k hk => step k (by omega) (h3 k hk)) (fc_hit f m h1 (by omega) hs) 0 (by omega))
  | none =>
    have L := LoopT.count (fcS f) f.fixed.length (fun k hk => step k hk (idx_none hi k hk)) (fc_end f) 0 (by omega)
    show Pu 68 [fmA f] (i64 (if f.list ≠ 0 ∧ szB f.list = false then 10 else 0))
    by_cases h0 : f.list = 0
    · rw [if_neg (fun q => q.1 h0)]; exact fc_c f h h0 L
    · have hs := sized_ok f.list
      cases hz : szB f.list with
      | true => rw [hz] at hs; rw [if_neg (by simp)]; exact fc_d f h h0 hs L
      | false => rw [hz] at hs; rw [if_pos ⟨h0, rfl⟩]; exact fc_e f h h0 hs L
def rcS (f : Fm) (k : Nat) : St := ⟨mkT 31 [(1, .ptr 0 0), (3, i64 k)], [.arr 3 [slJ f.fixed, bl f.bytes, i64 f.list] 0]⟩
def rcH : St := ⟨mkT 31 [(2, i64 10)], []⟩
end Go.Proofs.YtcnlgdbmcdlknaaDoor.Fo
