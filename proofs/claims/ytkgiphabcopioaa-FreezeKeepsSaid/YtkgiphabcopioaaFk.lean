/- The law of steps upon plain values. By the prover of this seat. -/
import Derived.Test.YtkgiphabcopioaaFj
set_option linter.unusedVariables false
set_option maxRecDepth 100000
namespace Go.Proofs.Ytkgiphabcopioaa
open Go.RowKit Go.Pm
theorem steps_ok (n : Int) (h0 : 0 ≤ n) (h1 : n < 256) (ins : List Inp) : Pu 3 [slI ins, u8 n] (bl true) := by
  by_cases hw : ins.length ≤ 60
  · obtain ⟨m, rfl⟩ : ∃ m : Nat, n = m := ⟨n.toNat, by omega⟩
    have hm : m % 3 < 3 := Nat.mod_lt _ (by decide)
    have e : i64 (IntKind.i64.wrap ((ins.length : Int) + IntKind.i64.wrap ((m : Int).tmod 3))) = i64 ((ins.length + m % 3 : Nat) : Int) := by
      have : ((m : Int).tmod 3) = ((m % 3 : Nat) : Int) := by
        rw [Int.tmod_eq_emod_of_nonneg (by omega)]
        omega
      rw [this, show IntKind.i64.wrap ((m % 3 : Nat) : Int) = ((m % 3 : Nat) : Int) from wrap_small (by omega) (by omega), i64_wrap (by omega) (by omega)]
      rfl
    obtain ⟨fr, hl⟩ := s2Loop (m : Int) ins (ins.length + m % 3) (by omega) hw (ins.length + m % 3) 0 ins [] true rfl (by omega) (by omega)
    exact pure_of (hs := hint [((1,2), {val := some (bl false)}), ((3,2), {call := some (A (devL (aDev [])))}), ((5,1000), {loop := some (s1Fg, s1St m ins 0 [], .exit 0, s1St m ins ins.length ins)}), ((13,5), {val := some (i64 ((ins.length + m % 3 : Nat) : Int))}),
        ((14,1000), {loop := some (s2Fg, s2St m ins (ins.length + m % 3 : Nat) (0 : Nat) 0 true ins, .exit 2, s2St m ins (ins.length + m % 3 : Nat) (ins.length + m % 3 : Nat) ins.length fr [])}),
        ((26,3), {val := some (bl true)}), ((26,6), {call := some (slI [])}), ((26,11), {call := some (bl true)})])
      (ps := [bl (decide ((ins.length : Int) > 60)) = bl false, Pu 9 [A (devL Dev.zero), A (actL { Grab.zero with client := 1 }), bl true] (A (devL (aDev []))), s1St m ins 0 [] = s1St m ins 0 [], LoopT C0 s1Body (s1St m ins 0 []) (.exit 0) (s1St m ins ins.length ins), true = true, true = true,
        i64 (IntKind.i64.wrap ((ins.length : Int) + IntKind.i64.wrap ((m : Int).tmod 3))) = i64 ((ins.length + m % 3 : Nat) : Int),
        s2St m ins (ins.length + m % 3 : Nat) (0 : Nat) 0 true ins = s2St m ins (ins.length + m % 3 : Nat) (0 : Nat) 0 true ins, LoopT C0 s2Body (s2St m ins (ins.length + m % 3 : Nat) (0 : Nat) 0 true ins) (.exit 2) (s2St m ins (ins.length + m % 3 : Nat) (ins.length + m % 3 : Nat) ins.length fr []), true = true, true = true,
        bl ((ins.length : Int) == (ins.length : Int)) = bl true, Pu 14 [A (devL (sDev fr []))] (slI []), Pu 8 [] (bl true)])
      (by kernel_rfl) ⟨by rw [decide_eq_false (by omega)], begin_ok _ _ _, rfl, s1Loop m ins hw ins [] rfl, rfl, rfl, e, rfl, hl, rfl, rfl, by rw [beq_self_eq_true], waiting_ok (sDev fr []) (by show 0 ≤ 2000000; omega), awake_ok, trivial⟩
  · exact pure_of (hs := hint [((1,2), {val := some (bl true)}), ((2,0), {call := some (bl true)})]) (ps := [bl (decide ((ins.length : Int) > 60)) = bl true, Pu 8 [] (bl true)]) (by kernel_rfl) ⟨by rw [decide_t (by omega)], awake_ok, trivial⟩
theorem fits_u8 {a : AV} (h : Fits (.int .u8) [a]) : ∃ n : Int, a = u8 n ∧ 0 ≤ n ∧ n < 256 := by
  obtain ⟨n, he, hw⟩ := h
  simp only [List.cons.injEq, and_true] at he
  subst he
  simp [Lit.wf, IntKind.min, IntKind.max, IntKind.signed, IntKind.bits] at hw
  exact ⟨n, rfl, by omega, by omega⟩
end Go.Proofs.Ytkgiphabcopioaa
