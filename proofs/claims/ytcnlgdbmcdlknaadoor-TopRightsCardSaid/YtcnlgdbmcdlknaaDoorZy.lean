/- A tree's rows put. By the prover of this seat. -/
import Derived.Test.YtcnlgdbmcdlknaaDoorZx
set_option linter.unusedVariables false
set_option linter.unusedSimpArgs false
set_option maxRecDepth 100000
set_option maxHeartbeats 4000000
namespace Go.Proofs.YtcnlgdbmcdlknaaDoor.Tr
open Go.RowKit Go.Pm
theorem mem_putM {K : List Kid} {x z : Kid} (h : z ∈ putM Kid.p K x) : z = x ∨ (z ∈ K ∧ z.p ≠ x.p) := by
  unfold putM at h
  rcases List.mem_append.1 h with h | h
  · exact .inr (mem_dropM.1 h)
  · exact .inl (by simpa using h)
theorem mput_own {K : List Kid} {x : Kid} {p : Int} (j j' : Nat) (ha : keysApart Kid.p K) (hx : x.p = p) (hxK : x ∉ K) : (mput (K.map (rowOwn j p)) (u32 p) (evOwn j' p x)).Perm ((putM Kid.p K x).map (rowOwn j' p)) := by
  subst hx
  have e1 : K.map (rowOwn j x.p) = K.map (rowM Kid.p ekU (fun z => if z = x then evOwn j' x.p x else evOwn j x.p z)) := by
    apply List.map_congr_left
    intro z hz
    simp only [rowM]
    rw [if_neg (show ¬ z = x from fun e => hxK (by rw [← e]; exact hz))]
  have h := mput_row (ev := fun z => if z = x then evOwn j' x.p x else evOwn j x.p z) ke_U ha x
  simp only [if_true] at h
  have e2 : (putM Kid.p K x).map (rowM Kid.p ekU (fun z => if z = x then evOwn j' x.p x else evOwn j x.p z)) = (putM Kid.p K x).map (rowOwn j' x.p) := by
    apply List.map_congr_left
    intro z hz
    simp only [rowM]
    rcases mem_putM hz with rfl | ⟨h1, h2⟩
    · simp
    · rw [if_neg (fun e => h2 (by rw [e]))]
      simp only [evOwn, if_neg h2]
  rw [e1, ← e2]
  exact h
theorem frz_own {K : List Kid} {x : Kid} {p : Int} (j : Nat) (cs : List AV) (L : Nat) (fz : Fz) (hx : x.p = p) (hcs : cs = x.l.flatMap eU) : ((putM Kid.p K x).map (rowOwn j p)).map (fun q => (q.1, thF j (.arr L cs fz) q.2)) = (putM Kid.p K x).map rowD := by
  subst hx
  subst hcs
  have e : List.take x.l.length (x.l.flatMap eU) = x.l.flatMap eU := by
    have := row_take (sz := 1) (enc := eU) (fun _ => rfl) x.l (x.l.length * 1) (by omega)
    simpa using this
  rw [List.map_map]
  apply List.map_congr_left
  intro z hz
  simp only [Function.comp, rowM]
  rcases mem_putM hz with rfl | ⟨h1, h2⟩
  · simp [evOwn, evD, thF, thC, thC0, e]
  · simp [evOwn, if_neg h2, evD, thF, thC, thC0]
end Go.Proofs.YtcnlgdbmcdlknaaDoor.Tr
