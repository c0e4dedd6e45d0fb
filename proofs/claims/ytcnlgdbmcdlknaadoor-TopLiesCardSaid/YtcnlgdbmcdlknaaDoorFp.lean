/- What is wrong with fields, by the program. By the prover of this seat. -/
import Derived.Test.YtcnlgdbmcdlknaaDoorFo
set_option linter.unusedVariables false
set_option linter.unusedSimpArgs false
set_option maxRecDepth 100000
set_option maxHeartbeats 4000000
namespace Go.Proofs.YtcnlgdbmcdlknaaDoor.Fo
open Go.RowKit Go.Pm
def errN (o : Int) (f : Fm) (x : Fl) (i : Nat) : Bool := !decide ((putD o (nth f.fixed i) (nth x.N i)).2 = 0)
def errL (o z : Int) (v : Int) : Bool := !decide ((putD o z v).2 = 0)
def fitsD (o : Int) (f : Fm) (x : Fl) : Int := if ¬ x.N.length = f.fixed.length then 14 else match idxD (errN o f x) (List.range x.N.length) with
  | some i => (putD o (nth f.fixed i) (nth x.N i)).2
  | none => if ¬ x.B.size = 0 ∧ f.bytes = false then 14 else if x.B.size > 65536 then 4 else if 0 < x.L.length ∧ f.list = 0 then 14 else if x.L.length > 65536 then 4 else match idxD (errL o f.list) x.L with
    | some i => (putD o f.list (nth x.L i)).2
    | none => 0
theorem errL_t {o z v : Int} (h : errL o z v = true) : ¬ (putD o z v).2 = 0 := by unfold errL at h; simpa using h
theorem errL_f {o z v : Int} (h : ¬ errL o z v = true) : (putD o z v).2 = 0 := by unfold errL at h; simpa using h
theorem kno_odd (o : Int) (f : Fm) (h0 : ¬ o = 0) (h1 : ¬ o = 1) : Pu 53 [i64 o, fmA f] (i64 10) := by
  exact pure_of (hs := hint [((1,2), {val := some (bl (true))}), ((1,5), {val := some (bl (true))})]) (ps := [bl (o != (0 : Int)) = bl (true), bl (o != (1 : Int)) = bl (true)]) (by kernel_rfl) ⟨(neF (by assumption)), (neF (by assumption)), trivial⟩
theorem kno_0 (f : Fm) (e : Int) (h : Pu 68 [fmA f] (i64 e)) : Pu 53 [i64 0, fmA f] (i64 e) := by
  exact pure_of (hs := hint [((3,1), {call := some ((i64 e))})]) (ps := [_]) (by kernel_rfl) ⟨(h), trivial⟩
theorem kno_1 (f : Fm) (e : Int) (h : Pu 68 [fmA f] (i64 e)) : Pu 53 [i64 1, fmA f] (i64 e) := by
  exact pure_of (hs := hint [((3,1), {call := some ((i64 e))})]) (ps := [_]) (by kernel_rfl) ⟨(h), trivial⟩
def knoD (o : Int) (f : Fm) : Int := if o = 0 ∨ o = 1 then checkD f else 10
theorem kno_ok (o : Int) (f : Fm) : Pu 53 [i64 o, fmA f] (i64 (knoD o f)) := by
  unfold knoD
  have h := fc_ok f
  by_cases h0 : o = 0
  · subst h0; rw [if_pos (.inl rfl)]; exact kno_0 f _ h
  by_cases h1 : o = 1
  · subst h1; rw [if_pos (.inr rfl)]; exact kno_1 f _ h
  · rw [if_neg (by omega)]; exact kno_odd o f h0 h1
def fbk (f : Fm) (x : Fl) : List Bk := [.arr 3 [slJ f.fixed, bl f.bytes, i64 f.list] 0, .arr 3 [slJ x.N, st x.B, slJ x.L] 0]
def fnS (o : Int) (f : Fm) (x : Fl) (k : Nat) : St := ⟨mkT 89 [(0, i64 o), (4, .ptr 0 0), (5, .ptr 1 0), (23, slJ x.N), (24, i64 x.N.length), (25, i64 k)], fbk f x⟩
def fnH (e : Int) : St := ⟨mkT 89 [(6, i64 e)], []⟩
def flS (o : Int) (f : Fm) (x : Fl) (k : Nat) : St := ⟨mkT 89 [(0, i64 o), (4, .ptr 0 0), (71, slJ x.L), (72, i64 x.L.length), (73, i64 k)], [.arr 3 [slJ f.fixed, bl f.bytes, i64 f.list] 0]⟩
theorem ba_ne {b : ByteArray} (h : ¬ b.size = 0) : ¬ b = ⟨#[]⟩ := fun e => h (by rw [e]; rfl)
theorem ba_nil {b : ByteArray} (h : b.size = 0) : b = ⟨#[]⟩ := by
  apply ByteArray.ext
  exact Array.eq_empty_of_size_eq_zero h
end Go.Proofs.YtcnlgdbmcdlknaaDoor.Fo
