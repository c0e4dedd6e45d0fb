/- Allowing, beginning, ending, upon plain values. By the prover of this seat. -/
import Derived.Test.YtkgiphabcopioaaFd
set_option linter.unusedVariables false
set_option maxRecDepth 100000
namespace Go.Proofs.Ytkgiphabcopioaa
open Go.RowKit Go.Pm
theorem allow_ok (d : Dev) (m : Int) : Pu 11 [A (devL d), i64 m] (res3 (d.allowD m)) := by
  obtain ⟨a, g, fr, st, he, ho, ws⟩ := d
  cases fr with
  | false => exact pure_of (hs := hint []) (ps := []) (by kernel_rfl) trivial
  | true =>
    by_cases h0 : m = 0
    · subst h0
      exact pure_of (hs := hint [((4, 3), {call := some (res3 ((⟨a, g, true, st, he, ho, ws⟩ : Dev).thawD, Inp.zero, false))})]) (ps := [Pu 23 [A (devL ⟨a, g, true, st, he, ho, ws⟩)] (res3 ((⟨a, g, true, st, he, ho, ws⟩ : Dev).thawD, Inp.zero, false))]) (by kernel_rfl) ⟨thaw_ok _, trivial⟩
    · by_cases h1 : m = 1
      · subst h1
        exact pure_of (hs := hint [((4, 3), {call := some (res3 ((⟨a, g, true, st, he, ho, ws⟩ : Dev).stepD, Inp.zero, false))})]) (ps := [Pu 24 [A (devL ⟨a, g, true, st, he, ho, ws⟩)] (res3 ((⟨a, g, true, st, he, ho, ws⟩ : Dev).stepD, Inp.zero, false))]) (by kernel_rfl) ⟨step_ok _, trivial⟩
      · by_cases h2 : m = 2
        · subst h2
          exact pure_of (hs := hint [((4, 3), {call := some (res3 (⟨a, g, true, st, he, ho, ws⟩ : Dev).replayD)})]) (ps := [Pu 25 [A (devL ⟨a, g, true, st, he, ho, ws⟩)] (res3 (⟨a, g, true, st, he, ho, ws⟩ : Dev).replayD)]) (by kernel_rfl) ⟨replay_ok _, trivial⟩
        · have e : Dev.allowD ⟨a, g, true, st, he, ho, ws⟩ m = (⟨a, g, true, st, he, ho, ws⟩, Inp.zero, false) := by simp [Dev.allowD, h0, h1, h2]
          rw [e]
          by_cases hn : m < 0
          · exact pure_of (hs := hint [((1,5), {val := some (bl true)})]) (ps := [bl (decide (m < 0)) = bl true]) (by kernel_rfl) ⟨by rw [decide_t hn], trivial⟩
          · exact pure_of (hs := hint [((1,5), {val := some (bl false)}), ((1,9), {val := some (bl true)})]) (ps := [bl (decide (m < 0)) = bl false, bl (decide (m > 2)) = bl true]) (by kernel_rfl) ⟨by rw [decide_eq_false hn], by rw [decide_t (by omega)], trivial⟩
theorem rend_ok (d : Dev) : Pu 28 [A (devL d)] (A (devL d.endD)) := pure_of (hs := hint []) (ps := []) (by kernel_rfl) trivial
def Dev.beginD (d : Dev) (a : Grab) (fr : Bool) : Dev := { Dev.zero with act := a, grabbed := true, frozen := fr, waits := d.waits }
theorem rbegin_ok (d : Dev) (a : Grab) (fr : Bool) : Pu 27 [A (devL d), A (actL a), bl fr] (A (devL (d.beginD a fr))) := pure_of (hs := hint []) (ps := []) (by kernel_rfl) trivial
theorem rallow_ok (d : Dev) (m : Int) : Pu 30 [A (devL d), i64 m] (res3 (d.allowD m)) := by
  obtain ⟨a, g, fr, st, he, ho, ws⟩ := d
  cases fr with
  | false => exact pure_of (hs := hint []) (ps := []) (by kernel_rfl) trivial
  | true =>
    by_cases h0 : m = 0
    · subst h0
      exact pure_of (hs := hint []) (ps := []) (by kernel_rfl) trivial
    · by_cases h1 : m = 1
      · subst h1
        exact pure_of (hs := hint []) (ps := []) (by kernel_rfl) trivial
      · by_cases h2 : m = 2
        · subst h2
          cases ho <;> cases g
          · exact pure_of (hs := hint []) (ps := []) (by kernel_rfl) trivial
          · exact pure_of (hs := hint []) (ps := []) (by kernel_rfl) trivial
          · exact pure_of (hs := hint []) (ps := []) (by kernel_rfl) trivial
          · exact pure_of (hs := hint [((4, 1), {call := some (A (devL (Dev.endD ⟨a, true, true, st, he, true, ws⟩)))})]) (ps := [Pu 28 [A (devL ⟨a, true, true, st, he, true, ws⟩)] (A (devL (Dev.endD ⟨a, true, true, st, he, true, ws⟩)))]) (by kernel_rfl) ⟨rend_ok _, trivial⟩
        · have e : Dev.allowD ⟨a, g, true, st, he, ho, ws⟩ m = (⟨a, g, true, st, he, ho, ws⟩, Inp.zero, false) := by simp [Dev.allowD, h0, h1, h2]
          rw [e]
          by_cases hn : m < 0
          · exact pure_of (hs := hint [((1,5), {val := some (bl true)})]) (ps := [bl (decide (m < 0)) = bl true]) (by kernel_rfl) ⟨by rw [decide_t hn], trivial⟩
          · exact pure_of (hs := hint [((1,5), {val := some (bl false)}), ((1,9), {val := some (bl true)})]) (ps := [bl (decide (m < 0)) = bl false, bl (decide (m > 2)) = bl true]) (by kernel_rfl) ⟨by rw [decide_eq_false hn], by rw [decide_t (by omega)], trivial⟩
end Go.Proofs.Ytkgiphabcopioaa
