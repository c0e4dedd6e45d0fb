/- A stranger's rights; the tree's facts kept. By the prover of this seat. -/
import Derived.Test.YtcnlgdbmcdlknaaDoorZz
set_option linter.unusedVariables false
set_option linter.unusedSimpArgs false
set_option maxRecDepth 100000
set_option maxHeartbeats 4000000
namespace Go.Proofs.YtcnlgdbmcdlknaaDoor.Tr
open Go.RowKit Go.Pm Go.Proofs.YtcnlgdbmcdlknaaDoor.Ch
theorem TOk.nil : TOk [] [] := ⟨⟨List.Pairwise.nil, fun x hx => by cases hx⟩, ⟨List.Pairwise.nil, fun x hx => by cases hx⟩, fun x hx => by cases hx⟩
theorem lok_nil : LOk [] := ⟨List.Pairwise.nil, (fun x hx => absurd hx (by simp)), by simp⟩
theorem may_own (n : Int) (h : PT 31 [i64 n] (i64 2)) : PT 11 [i64 n, faA ⟨true, false, false, false, false⟩] (bl true) := by
  exact pure_of (hs := hint [((1,1), {call := some ((i64 (2 : Int)))})]) (ps := [_]) (by kernel_rfl) ⟨(h), trivial⟩
abbrev K1 : List Kid := [⟨1, [1048577]⟩]
abbrev U1 : List Up := [⟨1048577, 1⟩]
theorem uok1 : UOk U1 := ⟨List.pairwise_singleton .., fun x hx => by rw [List.mem_singleton] at hx; subst hx; decide⟩
theorem awake_ok : PT 5 [] (bl true) := by
  have h0 := lift new_ok
  have h1 := lift (add_ok [] [] TOk.nil 1048577 1 (by omega) (by omega) (by omega) (by omega) (by simp))
  rw [show addD [] [] 1048577 1 = (K1, U1, 0) by decide] at h1
  have h2 := of_up K1 U1 uok1 [] lok_nil 2 1048577 (by omega) (by omega) (by omega) (by omega) ⟨1048577, 1⟩ (by decide) (by decide) (by decide)
  have h3 := of_up K1 U1 uok1 [] lok_nil 1 1048577 (by omega) (by omega) (by omega) (by omega) ⟨1048577, 1⟩ (by decide) (by decide) (by decide)
  have h4 := may_none 9 1 rule_9
  have h5 := may_none 2 2 rule_2
  have h6 := may_own 2 rule_2
  rw [show (⟨mineD 2 1048577, decide ((1048577 : Int) = 1), decide (¬ maskR [] 2 (⟨1048577, 1⟩ : Up).up &&& 2048 = 0), mineD 2 (⟨1048577, 1⟩ : Up).up, false⟩ : Fa) = noneF by decide] at h2
  rw [show (⟨mineD 1 1048577, decide ((1048577 : Int) = 1), decide (¬ maskR [] 1 (⟨1048577, 1⟩ : Up).up &&& 2048 = 0), mineD 1 (⟨1048577, 1⟩ : Up).up, false⟩ : Fa) = ⟨true, false, false, false, false⟩ by decide] at h3
  simp only at h1 h2 h3
  exact pure_of (hs := hint [((1,0), {call := some ((trA [] []))}), ((1,1), {call := some (AV.tup [(trA K1 U1), (i64 (0 : Int))])}), ((2,3), {call := some ((faA noneF))}), ((3,4), {call := some ((bl (decide ((1 : Int) = (1 : Int)))))}), ((3,8), {call := some ((bl (decide ((2 : Int) = (1 : Int)))))}), ((3,15), {call := some ((faA { own := true, root := false, mgr := false, fra := false, cla := false : Fa }))}), ((3,16), {call := some ((bl true))})]) (ps := [_, _, _, _, _, _, _]) (by kernel_rfl) ⟨(h0), (h1), (h2), (h4), (h5), (h3), (h6), trivial⟩
end Go.Proofs.YtcnlgdbmcdlknaaDoor.Tr
