/- The machine of plain values: pieces of slices, arrays and strings. By the prover of this seat. -/
import Derived.Test.YtjjmidhpilmnbaaDoorPm8
set_option linter.unusedVariables false
namespace Go.Pm
open Go Go.RowKit
section
variable {P : Program} {w0 W : World} {ρ : Nm} {M : Mem} {H : List Bk}
/-- the operands of a piece -/
structure Bds (M : Mem) (ρ : Nm) (o : Option AV) (w : Option Value) : Prop where
  some_ : ∀ x, o = some x → ∃ y, w = some y ∧ VR M ρ x y
  none_ : o = none → w = none
theorem piece_sl {b off sz n cap' : Nat} {l u : Int} {cs : List AV} {f : Nat → Value} (h1 : ∀ (i : Nat) c, cs[i]? = some c → M.cell b (off + i) = some (f i)) (h2 : ∀ (i : Nat) c, cs[i]? = some c → VR M Nm.none c (f i)) (hn : n ≤ cap') :
    VR M ρ (.sl n (pieceA sz l u cs)) (.slice (some (Addr.add ⟨b, off, none⟩ (l.toNat * sz))) n cap') := by
  rw [add_flat]
  have key : ∀ (i : Nat) c, (pieceA sz l u cs)[i]? = some c → cs[l.toNat * sz + i]? = some c := by
    intro i c hc
    unfold pieceA at hc
    rw [List.getElem?_take] at hc
    split at hc
    · rwa [List.getElem?_drop] at hc
    · cases hc
  refine .sl (fun i => f (l.toNat * sz + i)) hn (fun i c hc => ?_) (fun i c hc => h2 _ _ (key i c hc))
  have := h1 _ _ (key i c hc)
  rwa [← Nat.add_assoc] at this
theorem ok_sliceS {t el : TypeId} {h : Hint} {sz : Nat} (ht : P.underlying t = some (.slice el)) (hs : szOf P el = some sz) {g : Nat → Option Bk} {x v : AV} {lo hi mx : Option AV} {vlo vhi vmx : Option Value} {news : List Bk} {bs : List Bool} {ps : List Prop}
    (hr : rdSliceS g h sz x lo hi mx = some (v, news, bs, ps)) (hb : bs.all id = true) (hp : allP ps) {u : Value} (hx : VR M ρ x u) (b1 : Bds M ρ lo vlo) (b2 : Bds M ρ hi vhi) (b3 : Bds M ρ mx vmx) :
    news = [] ∧ ∃ y, (Instr.sliceAt t u vlo vhi vmx).run P W = .ok y W ∧ VR M ρ v y := by
  have inn : ∀ {l q m n : Int}, slIn l q m n hi mx = true → (0 ≤ l ∧ l ≤ q ∧ q ≤ m ∧ m ≤ n) ∧ (mx.isSome = true → hi.isSome = true) := by
    intro l q m n h
    simp [slIn] at h
    refine ⟨h.1, fun hm => ?_⟩
    rcases h.2 with h | h
    · rw [h] at hm; cases hm
    · exact h
  have run : ∀ {a : Option Addr} {n cap m' : Nat} {l q : Int}, (Instr.sliceBounds true n cap vlo vhi vmx).run P W = .ok (l.toNat, q.toNat, m') W →
      (Instr.sliceAt t (.slice a n cap) vlo vhi vmx).run P W = .ok (.slice (if m' = l.toNat then a else a.map (·.add (l.toNat * sz))) (q.toNat - l.toNat) (m' - l.toNat)) W := by
    intro a n cap m' l q hbd
    simp [Instr.sliceAt, run_underlying ht, Instr.slice, hbd, run_szOf hs]
  unfold rdSliceS at hr
  split at hr
  · rename_i n cs
    split at hr
    · rename_i l q m e1 e2 e3
      have fin : ∀ {v' : AV}, slIn l q m n hi mx = true → (∀ a n' c', n' = (q - l).toNat → n' ≤ c' → (mx.isSome = true → m = l → c' = 0 ∧ n' = 0) → (∀ w : Value, w = .slice a n' c' → (VR M ρ (.sl n' (pieceA sz l q cs)) w) → VR M ρ v' w)) → ∃ y, (Instr.sliceAt t u vlo vhi vmx).run P W = .ok y W ∧ VR M ρ v' y := by
        intro v' hin hv
        obtain ⟨i1, i2⟩ := inn hin
        have main : ∀ (a : Option Addr) (cap : Nat), u = .slice a n cap → n ≤ cap → (∀ m' : Nat, q.toNat ≤ m' → m' ≤ cap → VR M ρ (.sl (q - l).toNat (pieceA sz l q cs)) (.slice (if m' = l.toNat then a else a.map (·.add (l.toNat * sz))) (q - l).toNat (m' - l.toNat))) → ∃ y, (Instr.sliceAt t u vlo vhi vmx).run P W = .ok y W ∧ VR M ρ v' y := by
          intro a cap hu hn hvr
          subst hu
          obtain ⟨m', hbd, g1, g2, g3, g4⟩ := run_bounds (P := P) (W := W) (isS := true) (len := n) (cap := cap) b1.some_ b1.none_ b2.some_ b2.none_ b3.some_ b3.none_ e1 e2 e3 i1 hn i2
          refine ⟨_, run hbd, ?_⟩
          have en : q.toNat - l.toNat = (q - l).toNat := by omega
          rw [en]
          refine hv _ _ _ rfl (by omega) (fun hm he => ?_) _ rfl (hvr m' g1 g2)
          have := g3 hm
          omega
        cases hx with
        | sl_e h1 h2 =>
          rename_i a cap
          refine main a cap rfl h1 fun m' k1 k2 => ?_
          have e0 : pieceA sz l q [] = [] := by simp [pieceA]
          rw [e0]
          refine .sl_e (by omega) fun hnone => ?_
          split at hnone
          · omega
          · have : a = none := by simpa using hnone
            have := h2 this
            omega
        | sl f h1 h2 h3 =>
          rename_i b off cap
          refine main _ cap rfl h1 fun m' k1 k2 => ?_
          split
          · have e0 : pieceA sz l q cs = [] := by
              have : (q - l).toNat = 0 := by omega
              simp [pieceA, this]
            rw [e0]
            exact .sl_e (by omega) fun hnone => by cases hnone
          · exact piece_sl h2 h3 (by omega)
      split at hr
      · cases hr
        obtain ⟨h0, hb⟩ := allB_cons hb
        obtain ⟨hm, hb⟩ := allB_dec hb
        obtain ⟨hs', _⟩ := allB_cons hb
        refine ⟨rfl, fin h0 fun a n' c' hn' hc' hz w hw _ => ?_⟩
        obtain ⟨z1, z2⟩ := hz hs' hm
        subst hw z1 z2
        exact .nsl
      · split at hr
        · cases hr
          obtain ⟨h0, _⟩ := allB_cons hb
          refine ⟨rfl, fin h0 fun a n' c' hn' hc' hz w hw hvr => ?_⟩
          rw [← hp.1, ← hn']; exact hvr
        · cases hr
          obtain ⟨h0, _⟩ := allB_cons hb
          refine ⟨rfl, fin h0 fun a n' c' hn' hc' hz w hw hvr => ?_⟩
          rw [← hn']; exact hvr
    · cases hr
  · rename_i id off n k
    split at hr
    · rename_i l q m e1 e2 e3
      split at hr
      · rename_i hk
        subst hk
        cases hr
        obtain ⟨h0, _⟩ := allB_cons hb
        obtain ⟨i1, i2⟩ := inn h0
        refine ⟨rfl, ?_⟩
        have en : q.toNat - l.toNat = (q - l).toNat := by omega
        cases hx with
        | osl_e =>
          obtain ⟨m', hbd, g1, g2, g3, g4⟩ := run_bounds (P := P) (W := W) (isS := true) (len := 0) (cap := 0) b1.some_ b1.none_ b2.some_ b2.none_ b3.some_ b3.none_ e1 e2 e3 i1 (Nat.le_refl _) i2
          refine ⟨_, run hbd, ?_⟩
          rw [show q.toNat - l.toNat = 0 by omega, show m' - l.toNat = 0 by omega, show (q - l).toNat = 0 by omega]
          exact .osl_e
        | osl h1 h2 h3 =>
          rename_i b s cap
          obtain ⟨m', hbd, g1, g2, g3, g4⟩ := run_bounds (P := P) (W := W) (isS := true) (len := n) (cap := cap) b1.some_ b1.none_ b2.some_ b2.none_ b3.some_ b3.none_ e1 e2 e3 i1 h2 i2
          refine ⟨_, run hbd, ?_⟩
          rw [en]
          split
          · rw [show m' - l.toNat = 0 by omega, show (q - l).toNat = 0 by omega]
            exact .osl_e
          · simp only [Option.map_some, add_flat]
            refine .osl h1 (by omega) ?_
            have : l.toNat * k + (m' - l.toNat) * k = m' * k := by rw [← Nat.add_mul]; congr 1; omega
            have h4 : m' * k ≤ cap * k := Nat.mul_le_mul_right _ g2
            omega
      · cases hr
    · cases hr
  · split at hr
    · rename_i l q m e1 e2 e3
      cases hr
      obtain ⟨h0, _⟩ := allB_cons hb
      obtain ⟨i1, i2⟩ := inn h0
      refine ⟨rfl, ?_⟩
      cases hx with
      | nsl =>
        rename_i a
        obtain ⟨m', hbd, g1, g2, g3, g4⟩ := run_bounds (P := P) (W := W) (isS := true) (len := 0) (cap := 0) b1.some_ b1.none_ b2.some_ b2.none_ b3.some_ b3.none_ e1 e2 e3 i1 (Nat.le_refl _) i2
        refine ⟨_, run hbd, ?_⟩
        rw [show q.toNat - l.toNat = 0 by omega, show m' - l.toNat = 0 by omega]
        exact .nsl
    · cases hr
  · cases hr
theorem ok_slice {C : Cx} {h : Hint} {t : TypeId} {x v : AV} {lo hi mx : Option AV} {vlo vhi vmx : Option Value} {news : List Bk} {bs : List Bool} {ps : List Prop} (hw : WR w0 ρ M H W)
    (hr : rdSlice C (fun j => H[j]?) h t x lo hi mx = some (v, news, bs, ps)) (hb : bs.all id = true) (hp : allP ps) {u : Value} (hx : VR M ρ x u) (b1 : Bds M ρ lo vlo) (b2 : Bds M ρ hi vhi) (b3 : Bds M ρ mx vmx) :
    news = [] ∧ ∃ y, (Instr.sliceAt t u vlo vhi vmx).run C.P W = .ok y W ∧ VR M ρ v y := by
  have inn : ∀ {l q m n : Int}, slIn l q m n hi mx = true → (0 ≤ l ∧ l ≤ q ∧ q ≤ m ∧ m ≤ n) ∧ (mx.isSome = true → hi.isSome = true) := by
    intro l q m n h
    simp [slIn] at h
    refine ⟨h.1, fun hm => ?_⟩
    rcases h.2 with h | h
    · rw [h] at hm; cases hm
    · exact h
  unfold rdSlice at hr
  split at hr
  · rename_i ht
    split at hr
    · rename_i b
      split at hr
      · rename_i l q e1 e2
        cases hr
        obtain ⟨h0, _⟩ := allB_cons hb
        obtain ⟨i1, i2⟩ := inn h0
        obtain rfl := hx.inv_s
        have e3 := b3.none_ rfl
        subst e3
        obtain ⟨m', hbd, g1, g2, g3, g4⟩ := run_bounds (P := C.P) (W := W) (isS := false) (len := b.size) (cap := b.size) b1.some_ b1.none_ b2.some_ b2.none_ b3.some_ b3.none_ e1 e2 rfl i1 (Nat.le_refl _) i2
        exact ⟨rfl, _, by simp [Instr.sliceAt, run_underlying ht, Instr.slice, hbd], .s _ _⟩
      · cases hr
    · cases hr
  · rename_i el ht
    split at hr
    · rename_i sz hs
      exact ok_sliceS ht hs hr hb hp hx b1 b2 b3
    · cases hr
  · rename_i n el ht
    split at hr
    · rename_i sz hs
      have e3 := b3.none_ rfl
      subst e3
      have run : ∀ {A : Addr} {m' : Nat} {l q : Int}, (Instr.sliceBounds false n n vlo vhi none).run C.P W = .ok (l.toNat, q.toNat, m') W →
          (Instr.sliceAt t (.pointer (some A)) vlo vhi none).run C.P W = .ok (.slice (some (if m' = l.toNat then A else A.add (l.toNat * sz))) (q.toNat - l.toNat) (m' - l.toNat)) W := by
        intro A m' l q hbd
        simp [Instr.sliceAt, run_underlying ht, Instr.sureAddr, hbd, run_szOf hs]
      split at hr
      · rename_i id off
        split at hr
        · rename_i L cs fz l q hB e1 e2
          cases hr
          obtain ⟨h0, hb⟩ := allB_cons hb
          obtain ⟨hL, _⟩ := allB_dec hb
          obtain ⟨i1, i2⟩ := inn h0
          refine ⟨rfl, ?_⟩
          cases hx with
          | ptr h1 =>
            rename_i b s
            obtain ⟨k1, k2, _⟩ := hw.blk _ _ _ _ h1 hB
            obtain ⟨m', hbd, g1, g2, g3, g4⟩ := run_bounds (P := C.P) (W := W) (isS := false) (len := n) (cap := n) b1.some_ b1.none_ b2.some_ b2.none_ b3.some_ b3.none_ e1 e2 rfl i1 (Nat.le_refl _) i2
            refine ⟨_, run hbd, ?_⟩
            rw [show q.toNat - l.toNat = (q - l).toNat by omega]
            split
            · rw [show m' - l.toNat = 0 by omega, show (q - l).toNat = 0 by omega]
              exact .osl_e
            · rw [add_flat]
              refine .osl h1 (by omega) ?_
              have : l.toNat * sz + (m' - l.toNat) * sz = m' * sz := by rw [← Nat.add_mul]; congr 1; omega
              have h4 : m' * sz ≤ n * sz := Nat.mul_le_mul_right _ g2
              omega
        · cases hr
      · rename_i cs
        split at hr
        · rename_i l q e1 e2
          cases hr
          obtain ⟨h0, _⟩ := allB_cons hb
          obtain ⟨i1, i2⟩ := inn h0
          refine ⟨rfl, ?_⟩
          obtain ⟨m', hbd, g1, g2, g3, g4⟩ := run_bounds (P := C.P) (W := W) (isS := false) (len := n) (cap := n) b1.some_ b1.none_ b2.some_ b2.none_ b3.some_ b3.none_ e1 e2 rfl i1 (Nat.le_refl _) i2
          cases hx with
          | fptr_e =>
            refine ⟨_, run hbd, ?_⟩
            rw [show q.toNat - l.toNat = (q - l).toNat by omega, show pieceA sz l q [] = [] by simp [pieceA]]
            exact .sl_e (by omega) fun h => by cases h
          | fptr f h1 h2 =>
            refine ⟨_, run hbd, ?_⟩
            rw [show q.toNat - l.toNat = (q - l).toNat by omega]
            split
            · have e0 : pieceA sz l q cs = [] := by
                have : (q - l).toNat = 0 := by omega
                simp [pieceA, this]
              rw [e0]
              exact .sl_e (by omega) fun hnone => by cases hnone
            · exact piece_sl h1 h2 (by omega)
        · cases hr
      · cases hr
    · cases hr
  · cases hr
end
end Go.Pm
