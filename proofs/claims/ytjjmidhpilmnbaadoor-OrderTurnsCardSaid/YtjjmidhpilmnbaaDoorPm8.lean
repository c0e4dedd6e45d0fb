/- The machine of plain values: addresses of elements, pieces of slices and strings, builtins. By the prover of this seat. -/
import Derived.Test.YtjjmidhpilmnbaaDoorPm7
set_option linter.unusedVariables false
namespace Go.Pm
open Go Go.RowKit
section
variable {P : Program} {w0 W : World} {ρ : Nm} {M : Mem} {H : List Bk}
theorem fptr_drop {b off d : Nat} {cs : List AV} {f : Nat → Value} (h1 : ∀ (i : Nat) c, cs[i]? = some c → M.cell b (off + i) = some (f i)) (h2 : ∀ (i : Nat) c, cs[i]? = some c → VR M Nm.none c (f i)) : VR M ρ (.fptr (cs.drop d)) (.pointer (some (Addr.add ⟨b, off, none⟩ d))) := by
  rw [add_flat]
  refine .fptr (fun i => f (d + i)) (fun i c hc => ?_) (fun i c hc => ?_)
  · rw [List.getElem?_drop] at hc; have := h1 _ _ hc; rwa [← Nat.add_assoc] at this
  · rw [List.getElem?_drop] at hc; exact h2 _ _ hc
theorem ok_indexAddr {C : Cx} {h : Hint} {t : TypeId} {x ix v : AV} {news : List Bk} {bs : List Bool} {ps : List Prop} (hr : rdIndexAddr C h t x ix = some (v, news, bs, ps)) (hb : bs.all id = true) (hp : allP ps) {u ui : Value} (hx : VR M ρ x u) (hi : VR M ρ ix ui) :
    news = [] ∧ ∃ y, (Instr.indexAt t u ui).run C.P W = .ok y W ∧ VR M ρ v y := by
  unfold rdIndexAddr at hr
  split at hr
  · rename_i k i
    obtain rfl := hi.inv_s
    split at hr
    · rename_i el ht
      split at hr
      · rename_i sz hs
        have key : ∀ (A : Addr) (n cap : Nat), 0 ≤ i ∧ i < n → (Instr.indexAt t (.slice (some A) n cap) (.int k i)).run C.P W = .ok (.pointer (some (A.add (i.toNat * sz)))) W := by
          intro A n cap hin
          simp [Instr.indexAt, asIntOf, run_underlying ht, run_szOf hs, hin]
        split at hr
        · rename_i n cs
          have fin : ∀ {a : Option Addr} {cap : Nat} {cs' : List AV}, 0 ≤ i ∧ i < (n : Int) → VR M ρ (.sl n cs) u → cs' = cs.drop (i.toNat * sz) → ∃ y, (Instr.indexAt t u (.int k i)).run C.P W = .ok y W ∧ VR M ρ (.fptr cs') y := by
            intro a cap cs' hin hx he
            cases hx with
            | sl_e h1 h2 =>
              rename_i a cap
              cases a with
              | none => have := h2 rfl; omega
              | some A => exact ⟨_, key _ _ _ hin, by subst he; simp; exact .fptr_e⟩
            | sl f h1 h2 h3 => exact ⟨_, key _ _ _ hin, by subst he; exact fptr_drop h2 h3⟩
          split at hr
          · cases hr
            obtain ⟨h0, _⟩ := allB_dec hb
            exact ⟨rfl, fin (a := none) (cap := 0) h0 hx hp.1.symm⟩
          · cases hr
            obtain ⟨h0, _⟩ := allB_dec hb
            exact ⟨rfl, fin (a := none) (cap := 0) h0 hx rfl⟩
        · rename_i id off n k'
          split at hr
          · rename_i hk
            cases hr
            obtain ⟨h0, _⟩ := allB_dec hb
            cases hx with
            | osl_e => omega
            | osl h1 h2 h3 => exact ⟨rfl, _, key _ _ _ h0, by rw [add_flat]; exact .ptr h1⟩
          · cases hr
        · cases hr
      · cases hr
    · rename_i len el ht
      split at hr
      · rename_i sz hs
        have key : ∀ (A : Addr), 0 ≤ i ∧ i < (len : Int) → (Instr.indexAt t (.pointer (some A)) (.int k i)).run C.P W = .ok (.pointer (some (A.add (i.toNat * sz)))) W := by
          intro A hin
          simp [Instr.indexAt, asIntOf, run_underlying ht, run_szOf hs, hin, Instr.sureAddr]
        split at hr
        · rename_i id off
          cases hr
          obtain ⟨h0, _⟩ := allB_dec hb
          cases hx with
          | ptr h1 => exact ⟨rfl, _, key _ h0, by rw [add_flat]; exact .ptr h1⟩
        · rename_i cs
          have fin : ∀ {cs' : List AV}, 0 ≤ i ∧ i < (len : Int) → cs' = cs.drop (i.toNat * sz) → ∃ y, (Instr.indexAt t u (.int k i)).run C.P W = .ok y W ∧ VR M ρ (.fptr cs') y := by
            intro cs' hin he
            cases hx with
            | fptr_e => exact ⟨_, key _ hin, by subst he; simp; exact .fptr_e⟩
            | fptr f h1 h2 => exact ⟨_, key _ hin, by subst he; exact fptr_drop h1 h2⟩
          split at hr
          · cases hr
            obtain ⟨h0, _⟩ := allB_dec hb
            exact ⟨rfl, fin h0 hp.1.symm⟩
          · cases hr
            obtain ⟨h0, _⟩ := allB_dec hb
            exact ⟨rfl, fin h0 rfl⟩
        · cases hr
      · cases hr
    · cases hr
  · cases hr
theorem run_bnd {o : Option AV} {d i : Int} (h : bnd o d = some i) {w : Option Value} (hw : ∀ x, o = some x → ∃ y, w = some y ∧ VR M ρ x y) (hn : o = none → w = none) : (o = none ∧ w = none ∧ i = d) ∨ ∃ k, w = some (.int k i) := by
  cases o with
  | none => simp [bnd] at h; exact .inl ⟨rfl, hn rfl, h.symm⟩
  | some x =>
    obtain ⟨y, rfl, hy⟩ := hw x rfl
    right
    unfold bnd at h
    split at h
    · rename_i e; cases e
    · rename_i k i' e
      cases e
      cases h
      obtain rfl := hy.inv_s
      exact ⟨k, rfl⟩
    · cases h
/-- the bounds of a piece -/
theorem run_bounds {isS : Bool} {len cap : Nat} {lo hi mx : Option AV} {vlo vhi vmx : Option Value} (hlo : ∀ x, lo = some x → ∃ y, vlo = some y ∧ VR M ρ x y) (nlo : lo = none → vlo = none) (hhi : ∀ x, hi = some x → ∃ y, vhi = some y ∧ VR M ρ x y) (nhi : hi = none → vhi = none)
    (hmx : ∀ x, mx = some x → ∃ y, vmx = some y ∧ VR M ρ x y) (nmx : mx = none → vmx = none) {l u m : Int} (h1 : bnd lo 0 = some l) (h2 : bnd hi len = some u) (h3 : bnd mx len = some m) (hin : 0 ≤ l ∧ l ≤ u ∧ u ≤ m ∧ m ≤ len) (hc : len ≤ cap) (hm : mx.isSome = true → hi.isSome = true) :
    ∃ m' : Nat, (Instr.sliceBounds isS len cap vlo vhi vmx).run P W = .ok (l.toNat, u.toNat, m') W ∧ u.toNat ≤ m' ∧ m' ≤ cap ∧ (mx.isSome = true → m' = m.toNat) ∧ (mx = none → m' = cap) := by
  have b1 := run_bnd (M := M) (ρ := ρ) h1 hlo nlo
  have b2 := run_bnd (M := M) (ρ := ρ) h2 hhi nhi
  have b3 := run_bnd (M := M) (ρ := ρ) h3 hmx nmx
  have sb : ∀ (k : IntKind) (i : Int) (y : Nat) (code : BoundsCode), 0 ≤ i → i ≤ y → (Instr.sliceBound (.int k i) y code).run P W = .ok i.toNat W := by
    intro k i y code h1 h2
    simp [Instr.sliceBound, asIntOf, h1, h2]
  rcases b3 with ⟨e3, rfl, rfl⟩ | ⟨k3, rfl⟩
  · have hmn : mx.isSome = false := by rw [e3]; rfl
    rcases b2 with ⟨e2, rfl, rfl⟩ | ⟨k2, rfl⟩
    · rcases b1 with ⟨e1, rfl, rfl⟩ | ⟨k1, rfl⟩
      · exact ⟨cap, by simp [Instr.sliceBounds], by omega, Nat.le_refl _, by simp [hmn], fun _ => rfl⟩
      · exact ⟨cap, by simp [Instr.sliceBounds, sb k1 l len _ hin.1 (by omega)], by omega, Nat.le_refl _, by simp [hmn], fun _ => rfl⟩
    · have q2 : ∀ code, (Instr.sliceBound (.int k2 u) cap code).run P W = .ok u.toNat W := fun code => sb k2 u cap code (by omega) (by omega)
      rcases b1 with ⟨e1, rfl, rfl⟩ | ⟨k1, rfl⟩
      · exact ⟨cap, by simp [Instr.sliceBounds, q2], by omega, Nat.le_refl _, by simp [hmn], fun _ => rfl⟩
      · exact ⟨cap, by simp [Instr.sliceBounds, q2, sb k1 l u.toNat _ hin.1 (by omega)], by omega, Nat.le_refl _, by simp [hmn], fun _ => rfl⟩
  · have hms : mx.isSome = true := by
      cases mx with
      | none => have := nmx rfl; cases this
      | some _ => rfl
    have hhs := hm hms
    have q3 : ∀ code, (Instr.sliceBound (.int k3 m) cap code).run P W = .ok m.toNat W := fun code => sb k3 m cap code (by omega) (by omega)
    have hne : mx ≠ none := fun e => by rw [e] at hms; cases hms
    rcases b2 with ⟨e2, rfl, rfl⟩ | ⟨k2, rfl⟩
    · rw [e2] at hhs; cases hhs
    · have q2 : ∀ code, (Instr.sliceBound (.int k2 u) m.toNat code).run P W = .ok u.toNat W := fun code => sb k2 u m.toNat code (by omega) (by omega)
      rcases b1 with ⟨e1, rfl, rfl⟩ | ⟨k1, rfl⟩
      · exact ⟨m.toNat, by simp [Instr.sliceBounds, q3, q2], by omega, by omega, fun _ => rfl, fun e => absurd e hne⟩
      · exact ⟨m.toNat, by simp [Instr.sliceBounds, q3, q2, sb k1 l u.toNat _ hin.1 (by omega)], by omega, by omega, fun _ => rfl, fun e => absurd e hne⟩
end
end Go.Pm
