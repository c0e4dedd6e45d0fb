/- The bytes of a number, upon plain values. By the prover of this seat. -/
import Derived.Test.YtdcoomeagbjhlaaDoorAb
set_option linter.unusedVariables false
set_option linter.unusedSimpArgs false
set_option maxRecDepth 100000
set_option maxHeartbeats 4000000
namespace Go.Proofs.YtdcoomeagbjhlaaDoor.Or
open Go.RowKit Go.Pm
theorem ad_0_1 (v : Int) : LoopT C1 adBody (adSt 0 v 1 0 []) (.exit 0) (adSt 0 v 1 1 [byteV v 0]) := by
  refine LoopT.go (hs := hint []) (f := adFg) (st2 := adSt 0 v 1 1 [byteV v 0]) (ps := [true = true, true = true]) (by kernel_rfl) ⟨rfl, rfl, trivial⟩ ?_
  exact LoopT.fin (hs := hint []) (f := adFe) (ps := [true = true, true = true]) (by kernel_rfl) ⟨rfl, rfl, trivial⟩ (by decide)
theorem add_0_1 (s : Span) (v : Int) (h : s.wide 1) : Pu 32 [A (spL s), .nsl, i64 0, i64 v] (.sl 1 [byteV v 0]) :=
  pure_of (hs := hint [((1,1), {call := some (i64 1)}), ((4,1000), {loop := some (adF0, adSt 0 v 1 0 [], .exit 0, adSt 0 v 1 1 [byteV v 0])})]) (ps := [Pu 38 [A (spL s)] (i64 (1 : Nat)), adSt 0 v 1 0 [] = adSt 0 v 1 0 [], LoopT C1 adBody (adSt 0 v 1 0 []) (.exit 0) (adSt 0 v 1 1 [byteV v 0]), true = true])
    (by kernel_rfl) ⟨width_ok s 1 (by simp) h, rfl, ad_0_1 v, rfl, trivial⟩
theorem ad_0_2 (v : Int) : LoopT C1 adBody (adSt 0 v 2 0 []) (.exit 0) (adSt 0 v 2 2 [byteV v 0, byteV v 1]) := by
  refine LoopT.go (hs := hint []) (f := adFg) (st2 := adSt 0 v 2 1 [byteV v 0]) (ps := [true = true, true = true]) (by kernel_rfl) ⟨rfl, rfl, trivial⟩ ?_
  refine LoopT.go (hs := hint []) (f := adFg) (st2 := adSt 0 v 2 2 [byteV v 0, byteV v 1]) (ps := [true = true, true = true]) (by kernel_rfl) ⟨rfl, rfl, trivial⟩ ?_
  exact LoopT.fin (hs := hint []) (f := adFe) (ps := [true = true, true = true]) (by kernel_rfl) ⟨rfl, rfl, trivial⟩ (by decide)
theorem add_0_2 (s : Span) (v : Int) (h : s.wide 2) : Pu 32 [A (spL s), .nsl, i64 0, i64 v] (.sl 2 [byteV v 0, byteV v 1]) :=
  pure_of (hs := hint [((1,1), {call := some (i64 2)}), ((4,1000), {loop := some (adF0, adSt 0 v 2 0 [], .exit 0, adSt 0 v 2 2 [byteV v 0, byteV v 1])})]) (ps := [Pu 38 [A (spL s)] (i64 (2 : Nat)), adSt 0 v 2 0 [] = adSt 0 v 2 0 [], LoopT C1 adBody (adSt 0 v 2 0 []) (.exit 0) (adSt 0 v 2 2 [byteV v 0, byteV v 1]), true = true])
    (by kernel_rfl) ⟨width_ok s 2 (by simp) h, rfl, ad_0_2 v, rfl, trivial⟩
theorem ad_0_4 (v : Int) : LoopT C1 adBody (adSt 0 v 4 0 []) (.exit 0) (adSt 0 v 4 4 [byteV v 0, byteV v 1, byteV v 2, byteV v 3]) := by
  refine LoopT.go (hs := hint []) (f := adFg) (st2 := adSt 0 v 4 1 [byteV v 0]) (ps := [true = true, true = true]) (by kernel_rfl) ⟨rfl, rfl, trivial⟩ ?_
  refine LoopT.go (hs := hint []) (f := adFg) (st2 := adSt 0 v 4 2 [byteV v 0, byteV v 1]) (ps := [true = true, true = true]) (by kernel_rfl) ⟨rfl, rfl, trivial⟩ ?_
  refine LoopT.go (hs := hint []) (f := adFg) (st2 := adSt 0 v 4 3 [byteV v 0, byteV v 1, byteV v 2]) (ps := [true = true, true = true]) (by kernel_rfl) ⟨rfl, rfl, trivial⟩ ?_
  refine LoopT.go (hs := hint []) (f := adFg) (st2 := adSt 0 v 4 4 [byteV v 0, byteV v 1, byteV v 2, byteV v 3]) (ps := [true = true, true = true]) (by kernel_rfl) ⟨rfl, rfl, trivial⟩ ?_
  exact LoopT.fin (hs := hint []) (f := adFe) (ps := [true = true, true = true]) (by kernel_rfl) ⟨rfl, rfl, trivial⟩ (by decide)
theorem add_0_4 (s : Span) (v : Int) (h : s.wide 4) : Pu 32 [A (spL s), .nsl, i64 0, i64 v] (.sl 4 [byteV v 0, byteV v 1, byteV v 2, byteV v 3]) :=
  pure_of (hs := hint [((1,1), {call := some (i64 4)}), ((4,1000), {loop := some (adF0, adSt 0 v 4 0 [], .exit 0, adSt 0 v 4 4 [byteV v 0, byteV v 1, byteV v 2, byteV v 3])})]) (ps := [Pu 38 [A (spL s)] (i64 (4 : Nat)), adSt 0 v 4 0 [] = adSt 0 v 4 0 [], LoopT C1 adBody (adSt 0 v 4 0 []) (.exit 0) (adSt 0 v 4 4 [byteV v 0, byteV v 1, byteV v 2, byteV v 3]), true = true])
    (by kernel_rfl) ⟨width_ok s 4 (by simp) h, rfl, ad_0_4 v, rfl, trivial⟩
theorem ad_1_1 (v : Int) : LoopT C1 adBody (adSt 1 v 1 0 []) (.exit 0) (adSt 1 v 1 1 [byteV v 0]) := by
  refine LoopT.go (hs := hint []) (f := adFg) (st2 := adSt 1 v 1 1 [byteV v 0]) (ps := [true = true, true = true]) (by kernel_rfl) ⟨rfl, rfl, trivial⟩ ?_
  exact LoopT.fin (hs := hint []) (f := adFe) (ps := [true = true, true = true]) (by kernel_rfl) ⟨rfl, rfl, trivial⟩ (by decide)
theorem add_1_1 (s : Span) (v : Int) (h : s.wide 1) : Pu 32 [A (spL s), .nsl, i64 1, i64 v] (.sl 1 [byteV v 0]) :=
  pure_of (hs := hint [((1,1), {call := some (i64 1)}), ((4,1000), {loop := some (adF0, adSt 1 v 1 0 [], .exit 0, adSt 1 v 1 1 [byteV v 0])})]) (ps := [Pu 38 [A (spL s)] (i64 (1 : Nat)), adSt 1 v 1 0 [] = adSt 1 v 1 0 [], LoopT C1 adBody (adSt 1 v 1 0 []) (.exit 0) (adSt 1 v 1 1 [byteV v 0]), true = true])
    (by kernel_rfl) ⟨width_ok s 1 (by simp) h, rfl, ad_1_1 v, rfl, trivial⟩
theorem ad_1_2 (v : Int) : LoopT C1 adBody (adSt 1 v 2 0 []) (.exit 0) (adSt 1 v 2 2 [byteV v 1, byteV v 0]) := by
  refine LoopT.go (hs := hint []) (f := adFg) (st2 := adSt 1 v 2 1 [byteV v 1]) (ps := [true = true, true = true]) (by kernel_rfl) ⟨rfl, rfl, trivial⟩ ?_
  refine LoopT.go (hs := hint []) (f := adFg) (st2 := adSt 1 v 2 2 [byteV v 1, byteV v 0]) (ps := [true = true, true = true]) (by kernel_rfl) ⟨rfl, rfl, trivial⟩ ?_
  exact LoopT.fin (hs := hint []) (f := adFe) (ps := [true = true, true = true]) (by kernel_rfl) ⟨rfl, rfl, trivial⟩ (by decide)
theorem add_1_2 (s : Span) (v : Int) (h : s.wide 2) : Pu 32 [A (spL s), .nsl, i64 1, i64 v] (.sl 2 [byteV v 1, byteV v 0]) :=
  pure_of (hs := hint [((1,1), {call := some (i64 2)}), ((4,1000), {loop := some (adF0, adSt 1 v 2 0 [], .exit 0, adSt 1 v 2 2 [byteV v 1, byteV v 0])})]) (ps := [Pu 38 [A (spL s)] (i64 (2 : Nat)), adSt 1 v 2 0 [] = adSt 1 v 2 0 [], LoopT C1 adBody (adSt 1 v 2 0 []) (.exit 0) (adSt 1 v 2 2 [byteV v 1, byteV v 0]), true = true])
    (by kernel_rfl) ⟨width_ok s 2 (by simp) h, rfl, ad_1_2 v, rfl, trivial⟩
theorem ad_1_4 (v : Int) : LoopT C1 adBody (adSt 1 v 4 0 []) (.exit 0) (adSt 1 v 4 4 [byteV v 3, byteV v 2, byteV v 1, byteV v 0]) := by
  refine LoopT.go (hs := hint []) (f := adFg) (st2 := adSt 1 v 4 1 [byteV v 3]) (ps := [true = true, true = true]) (by kernel_rfl) ⟨rfl, rfl, trivial⟩ ?_
  refine LoopT.go (hs := hint []) (f := adFg) (st2 := adSt 1 v 4 2 [byteV v 3, byteV v 2]) (ps := [true = true, true = true]) (by kernel_rfl) ⟨rfl, rfl, trivial⟩ ?_
  refine LoopT.go (hs := hint []) (f := adFg) (st2 := adSt 1 v 4 3 [byteV v 3, byteV v 2, byteV v 1]) (ps := [true = true, true = true]) (by kernel_rfl) ⟨rfl, rfl, trivial⟩ ?_
  refine LoopT.go (hs := hint []) (f := adFg) (st2 := adSt 1 v 4 4 [byteV v 3, byteV v 2, byteV v 1, byteV v 0]) (ps := [true = true, true = true]) (by kernel_rfl) ⟨rfl, rfl, trivial⟩ ?_
  exact LoopT.fin (hs := hint []) (f := adFe) (ps := [true = true, true = true]) (by kernel_rfl) ⟨rfl, rfl, trivial⟩ (by decide)
theorem add_1_4 (s : Span) (v : Int) (h : s.wide 4) : Pu 32 [A (spL s), .nsl, i64 1, i64 v] (.sl 4 [byteV v 3, byteV v 2, byteV v 1, byteV v 0]) :=
  pure_of (hs := hint [((1,1), {call := some (i64 4)}), ((4,1000), {loop := some (adF0, adSt 1 v 4 0 [], .exit 0, adSt 1 v 4 4 [byteV v 3, byteV v 2, byteV v 1, byteV v 0])})]) (ps := [Pu 38 [A (spL s)] (i64 (4 : Nat)), adSt 1 v 4 0 [] = adSt 1 v 4 0 [], LoopT C1 adBody (adSt 1 v 4 0 []) (.exit 0) (adSt 1 v 4 4 [byteV v 3, byteV v 2, byteV v 1, byteV v 0]), true = true])
    (by kernel_rfl) ⟨width_ok s 4 (by simp) h, rfl, ad_1_4 v, rfl, trivial⟩
def bytesOf (o : Int) (w : Nat) (v : Int) : List AV := (List.range w).map fun k => byteV v (if o = 1 then w - 1 - k else k)
theorem add_ok (s : Span) (v o : Int) (w : Nat) (ho : o = 0 ∨ o = 1) (hw : w = 1 ∨ w = 2 ∨ w = 4) (h : s.wide w) : Pu 32 [A (spL s), .nsl, i64 o, i64 v] (.sl w (bytesOf o w v)) := by
  rcases ho with rfl | rfl <;> rcases hw with rfl | rfl | rfl
  · exact add_0_1 s v h
  · exact add_0_2 s v h
  · exact add_0_4 s v h
  · exact add_1_1 s v h
  · exact add_1_2 s v h
  · exact add_1_4 s v h
end Go.Proofs.YtdcoomeagbjhlaaDoor.Or
