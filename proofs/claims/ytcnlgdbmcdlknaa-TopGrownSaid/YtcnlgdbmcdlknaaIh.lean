/- The stretches of a row, as an iterator. By the prover of this seat. -/
import Derived.Test.YtcnlgdbmcdlknaaIg
set_option linter.unusedVariables false
set_option linter.unusedSimpArgs false
set_option maxRecDepth 100000
set_option maxHeartbeats 400000
namespace Go.Proofs.Ytcnlgdbmcdlknaa.Bn
open Go Go.RowKit Go.Pm
theorem spC_eq : spC = .seq spZ (.block 0 (.loop (.seq spH (.block 1 (.seq spA (.seq spM spY)))))) := by kernel_rfl
theorem spF_body : Try.f49.body = some spC := by kernel_rfl
/-- the blocks ahead, behind a round -/
def FrR (X : List Bk) : Prop := ∀ w0 ρ M yv q a b j act W, Rel (CX X.length) w0 ρ M (kX X yv q a b j) act W → ∃ ρ', (∀ i, i < X.length → ∀ x, ρ i = some x → ρ' i = some x) ∧ WR w0 ρ' M X W
theorem front_a (o : List Rc) (m : Nat) (y z : Int) (row : List Rc) : FrR (spaH o m y z row) := fun w0 ρ M yv q a b j act W h => by
  obtain ⟨ρ', h1, h2⟩ := forget_ok (f := { ks := [0, 1, 3], l := [0, 1, 2, 3, 4, 5, 6], mx := [6, 1] }) h ⟨by kernel_rfl, rfl, pr _ _ _, pr _ _ _, rfl, rfl, trivial⟩
  exact ⟨ρ', h1, h2.wr⟩
theorem front_b (o : List Rc) (m : Nat) (y z : Int) (row : List Rc) : FrR (spbH o m y z row) := fun w0 ρ M yv q a b j act W h => by
  obtain ⟨ρ', h1, h2⟩ := forget_ok (f := { ks := [0, 1, 3], l := [0, 1, 2, 3, 4, 5, 6, 7], mx := [6, 1] }) h ⟨by kernel_rfl, rfl, pr _ _ _, rfl, rfl, pr _ _ _, trivial⟩
  exact ⟨ρ', h1, h2.wr⟩
theorem mk3_at (c0 c1 c3 : AV) (i : Nat) (hi : i < 63) (h0 : i ≠ 0) (h1 : i ≠ 1) (h3 : i ≠ 3) : (mkT 63 [(0, c0), (1, c1), (3, c3)])[i]? = some .any := by
  unfold mkT
  rw [List.getElem?_map, List.getElem?_range hi]
  simp [Ne.symm h0, Ne.symm h1, Ne.symm h3]
theorem slots3 {M : Mem} {ρ : Nm} {t : Array Value} (hs : t.size = 63) {c0 c1 c3 : AV} {v0 v1 v3 : Value} (h0 : t[0]? = some v0) (h1 : t[1]? = some v1) (h3 : t[3]? = some v3) (r0 : VR M ρ c0 v0) (r1 : VR M ρ c1 v1) (r3 : VR M ρ c3 v3) : L2 (VR M ρ) (mkT 63 [(0, c0), (1, c1), (3, c3)]) t.toList := by
  refine ⟨?_, fun i c v hc hv => ?_⟩
  · show (mkT 63 [(0, c0), (1, c1), (3, c3)]).length = t.toList.length
    have e : t.toList.length = 63 := by rw [Array.length_toList]; exact hs
    rw [e]; rfl
  · have hv' : t[i]? = some v := by simpa using hv
    have hi : i < 63 := by have := (Array.getElem?_eq_some_iff.1 hv').1; omega
    by_cases e0 : i = 0
    · subst e0
      rw [h0] at hv'
      cases hv'; cases hc
      exact r0
    · by_cases e1 : i = 1
      · subst e1
        rw [h1] at hv'
        cases hv'; cases hc
        exact r1
      · by_cases e3 : i = 3
        · subst e3
          rw [h3] at hv'
          cases hv'; cases hc
          exact r3
        · rw [mk3_at c0 c1 c3 i hi e0 e1 e3] at hc
          cases hc
          exact .any _ _
def muT (a : Act) : Nat := 2000000 - (match a.tmps.getD 3 undef with | .int _ i => i.toNat | _ => 0)
theorem mu_at {a : Act} {j : Nat} (h : a.tmps[3]? = some (.int .i64 (j : Int))) : muT a = 2000000 - j := by
  unfold muT
  rw [Array.getD_eq_getD_getElem?, h]
  simp
theorem rel_slot {C : Cx} {w0 : World} {ρ : Nm} {M : Mem} {t : List AV} {H : List Bk} {a : Act} {W : World} (h : Rel C w0 ρ M ⟨t, H⟩ a W) (i : Nat) (c : AV) (hc : t[i]? = some c) : ∃ v, a.tmps[i]? = some v ∧ VR M ρ c v := by
  obtain ⟨v, h1, h2⟩ := h.slots.get hc
  exact ⟨v, by simpa using h1, h2⟩
end Go.Proofs.Ytcnlgdbmcdlknaa.Bn
