/- The law's own wakefulness; sizes of the reference. By the prover of this seat. -/
import Derived.Test.YtjjmidhpilmnbaaDoorKd
set_option linter.unusedVariables false
set_option maxRecDepth 100000
namespace Go.Proofs.YtjjmidhpilmnbaaDoor
open Go.RowKit Go.Pm
def a1 : AV := st ⟨#[2, 1]⟩
def a2 : AV := st ⟨#[255, 254]⟩
theorem ap1 : Pu 10 [i64 0, i64 2, i64 258] (.tup [a1, i64 0]) := put_ok 0 2 258 ⟨2, 0, 65535⟩ 2 (.inl rfl) rfl (by simp) (.inl rfl) rfl
theorem ap2 : Pu 10 [i64 1, i64 (-2), i64 (-2)] (.tup [a2, i64 0]) := put_ok 1 (-2) (-2) ⟨-2, -32768, 32767⟩ 2 (.inr rfl) rfl (by simp) (.inr rfl) rfl
theorem awake_ok : Pu 12 [] (bl true) :=
  pure_of (hs := hint [((1,0), {call := some (.tup [a1, i64 0])}), ((2,0), {call := some (.tup [a2, i64 0])}), ((3,15), {call := some (i64 3)})])
    (ps := [Pu 10 [i64 0, i64 2, i64 258] (.tup [a1, i64 0]), Pu 10 [i64 1, i64 (-2), i64 (-2)] (.tup [a2, i64 0]), Pu 21 [i64 5] (i64 3)]) (by kernel_rfl) ⟨ap1, ap2, pad_ok 5, trivial⟩
end Go.Proofs.YtjjmidhpilmnbaaDoor
