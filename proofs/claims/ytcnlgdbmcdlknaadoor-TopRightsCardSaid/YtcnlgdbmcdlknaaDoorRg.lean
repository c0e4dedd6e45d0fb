/- The windows' tree, whole. By the prover of this seat. -/
import Derived.Test.YtcnlgdbmcdlknaaDoorRf
set_option linter.unusedVariables false
set_option linter.unusedSimpArgs false
set_option maxRecDepth 100000
set_option maxHeartbeats 4000000
namespace Go.Proofs.YtcnlgdbmcdlknaaDoor.Tr
open Go.RowKit Go.Pm
theorem made_t (l : List Wn) (hl : l.length ≤ 9223372036854775807) (K : List Kid) (U : List Up) (ids : List Int) (L : LoopT CG0 mdB (mdS l [] [] 1 [1] 0) (.exit 0) (mdS l K U ids.length ids l.length)) : Pure Tryd.prog GS 6 [slW l] (.tup [trA K U, .osl 2 0 ids.length 1, .omp 3, bl true]) [.arr 2 [.mp (K.map rowD), .mp (U.map rowU)] 0, .arr 2 [.mp (K.map rowD), .mp (U.map rowU)] 0, .arr (ids.length * 1) (ids.flatMap eU) 0, .map (U.map rowU) false] := by
  have hn := new_ok
  exact (fnRun_ok (hs := hint [((1,0), {call := some ((trA [] []))}), ((4,1000), {loop := some ({ ks := [2, 6, 7, 8, 18, 19, 20], l := [0, 1, 2, 3] }, mdS l [] [] (1 : Nat) [(1 : Int)] (0 : Nat), Ex.exit (0 : Nat), mdS l K U ids.length ids l.length)})]) (ps := [_, mdS l [] [] (1 : Nat) [(1 : Int)] (0 : Nat) = mdS l [] [] (1 : Nat) [(1 : Int)] (0 : Nat), _, true = true, true = true, true = true, true = true, true = true]) (by kernel_rfl) ⟨(hn), rfl, L, rfl, rfl, rfl, rfl, rfl, trivial⟩).1
theorem made_f (l : List Wn) (hl : l.length ≤ 9223372036854775807) (K : List Kid) (U : List Up) (ids : List Int) (L : LoopT CG0 mdB (mdS l [] [] 1 [1] 0) .ret (mdE K U ids)) : Pure Tryd.prog GS 6 [slW l] (.tup [trA K U, .osl 1 0 ids.length 1, .omp 2, bl false]) [.arr 2 [.mp (K.map rowD), .mp (U.map rowU)] 0, .arr (ids.length * 1) (ids.flatMap eU) 0, .map (U.map rowU) false] := by
  have hn := new_ok
  exact (fnRun_ok (hs := hint [((1,0), {call := some ((trA [] []))}), ((4,1000), {loop := some ({ ks := [2, 6, 7, 8, 18, 19, 20], l := [0, 1, 2, 3] }, mdS l [] [] (1 : Nat) [(1 : Int)] (0 : Nat), Ex.ret, mdE K U ids)})]) (ps := [_, mdS l [] [] (1 : Nat) [(1 : Int)] (0 : Nat) = mdS l [] [] (1 : Nat) [(1 : Int)] (0 : Nat), _, true = true, true = true, true = true, true = true, true = true]) (by kernel_rfl) ⟨(hn), rfl, L, rfl, rfl, rfl, rfl, rfl, trivial⟩).1
/-- what comes of it -/
def mdR (K : List Kid) (U : List Up) (ids : List Int) (b : Bool) : AV := .tup [trA K U, .osl 0 0 ids.length 1, .omp 1, bl b]
def mdH (U : List Up) (ids : List Int) : List Bk := [.arr (ids.length * 1) (ids.flatMap eU) 0, .map (U.map rowU) false]
theorem made_ok (l : List Wn) (hw : WOk l) (hl : l.length ≤ 9223372036854775807) : ∃ K U ids b k, madeD l 0 [] [] [1] = ((K, U, ids), b) ∧ MI k K U ids ∧ (b = true → k = l.length) ∧ Pure Tryd.prog GS 6 [slW l] (mdR K U ids b) (mdH U ids) := by
  have hI : MI 0 [] [] [1] := ⟨TOk.nil, rfl, rfl, by omega, (fun x hx => by cases hx), fun x hx => by cases hx⟩
  obtain ⟨K, U, ids, b, k, h1, h2, h3, h4⟩ := md_all l hw hl l.length 0 [] [] [1] (by omega) (by omega) hI
  rw [List.drop_zero] at h1
  refine ⟨K, U, ids, b, k, h1, h2, fun hb => (h3 hb).1, ?_⟩
  cases b with
  | true => exact (made_t l hl K U ids (h3 rfl).2).lay [some 2, some 3] [true, true] (by kernel_rfl) (by kernel_rfl) ⟨pure_row _ _ _, pureB_U _ _, trivial⟩
  | false => exact (made_f l hl K U ids (h4 rfl)).lay [some 1, some 2] [true, true] (by kernel_rfl) (by kernel_rfl) ⟨pure_row _ _ _, pureB_U _ _, trivial⟩
end Go.Proofs.YtcnlgdbmcdlknaaDoor.Tr
