/- The machine of plain values: regions in the order of the text. By the prover of this seat. -/
import Derived.Test.YtjjmidhpilmnbaaDoorPm20
import Derived.Tactics
set_option linter.unusedVariables false
namespace Go.Pm
open Go Go.RowKit
section
variable {w0 W W' : World} {ρ ρ' : Nm} {M M' : Mem} {H : List Bk}
theorem want_ok {ops : List Oper} {t : List AV} {o : Oper} {b : Bool} (h : wantA ops t o = some b) {a : Act} (hs : L2 (VR M ρ) t a.tmps.toList) : Region.wanted o (yielded ops.toArray a.tmps) = b := by
  unfold wantA at h
  unfold Region.wanted
  cases hg : o.guard with
  | none => simp [hg] at h; subst h; rfl
  | some jw =>
    obtain ⟨j, want⟩ := jw
    simp only [hg] at h ⊢
    split at h
    · rename_i d hd
      split at h
      · rename_i q hq
        cases h
        obtain ⟨v, hv, hr⟩ := hs.get hq
        have := hr.inv_s
        subst this
        have hv' : a.tmps[d]? = some (.bool q) := by simpa using hv
        have : yielded ops.toArray a.tmps j = some q := by
          unfold yielded
          have hd' : ((ops.toArray[j]?).bind (·.dst)) = some d := by simpa using hd
          rw [hd']
          simp [hv']
        rw [this]
        cases q <;> cases want <;> rfl
      · rename_i hq
        cases h
        obtain ⟨v, hv, hr⟩ := hs.get hq
        obtain ⟨vs, rfl, hl⟩ := hr.inv_tup
        have hv' : a.tmps[d]? = some (.tuple vs.toArray) := by simpa using hv
        have : yielded ops.toArray a.tmps j = none := by
          unfold yielded
          have hd' : ((ops.toArray[j]?).bind (·.dst)) = some d := by simpa using hd
          rw [hd']
          simp [hv']
        rw [this]
        cases want <;> rfl
      · cases h
    · cases h
theorem put_slots {t : List AV} {a : Act} (hs : L2 (VR M ρ) t a.tmps.toList) (d : Option Tmp) {v : AV} {u : Value} (hv : VR M ρ v u) : L2 (VR M ρ) (putT t d v) (a.put d u).tmps.toList := by
  cases d with
  | none => exact hs
  | some i => simpa [putT, Act.put] using hs.set (i := i) hv
theorem put_defers (a : Act) (d : Option Tmp) (u : Value) : (a.put d u).defers = a.defers := by cases d <;> rfl
theorem Rel.glob' {C : Cx} {st : St} {a : Act} (h : Rel C w0 ρ M st a W) (hM : M.le M') : ∀ g cs, C.G g = some cs → VR M' Nm.none (.fptr cs) (.pointer (some ⟨g, 0, none⟩)) := fun g cs hg => (h.glob g cs hg).mono hM (Nm.le.refl _)
theorem L2.mono {cs : List AV} {vs : List Value} (h : L2 (VR M ρ) cs vs) (hM : M.le M') (hr : ρ.le ρ') : L2 (VR M' ρ') cs vs := h.imp fun c v hv => hv.mono hM hr
theorem Fresh.refl (M : Mem) (n : Nat) : Fresh M M n := ⟨fun _ _ _ _ h => h, fun _ _ _ h => h⟩
theorem Fresh.trans {M1 M2 M3 : Mem} {n : Nat} (h : Fresh M1 M2 n) (k : Fresh M2 M3 n) : Fresh M1 M3 n := ⟨fun b o v hb e => h.cell b o v hb (k.cell b o v hb e), fun b v hb e => h.map b v hb (k.map b v hb e)⟩
theorem tr_ok {C : Cx} {hs : Nat → Hint} {ops : List Oper} {Q : Exit → Act → World → Prop} : ∀ (rest : List Oper) (i : Nat) (t : List AV) (A : List Bk) (t' : List AV) (A' : List Bk) (es : List En) (ps : List Prop), tr C hs ops i rest t A = some (t', A', es, ps) → allP ps →
    ∀ (ρ : Nm) (M : Mem) (a : Act) (W : World), Rel C w0 ρ M ⟨t, A⟩ a W →
    (∀ ρ' M' a' W', M.le M' → ρ.le ρ' → Fresh M M' w0.heap.size → Rel C w0 ρ' M' ⟨t', A'⟩ a' W' → Q .normal a' W') → wpList C.P ops.toArray Q rest a W := by
  intro rest
  induction rest with
  | nil =>
    intro i t A t' A' es ps h hp ρ M a W hR hQ
    simp [tr] at h
    obtain ⟨rfl, rfl, _, _⟩ := h
    exact hQ ρ M a W (Mem.le.refl M) (Nm.le.refl ρ) (Fresh.refl M _) hR
  | cons o rest ih =>
    intro i t A t' A' es ps h hp ρ M a W hR hQ
    unfold tr at h
    split at h
    · cases h
    · rename_i hw
      split at h
      · rename_i r1 r2 r3 r4 hrec
        cases h
        have hwn := want_ok hw hR.slots
        unfold wpList
        rw [if_neg (by rw [hwn]; simp)]
        refine ih _ _ _ _ _ _ _ hrec hp ρ M _ W ⟨put_slots hR.slots o.dst (.mkTup (vs := []) L2.nil), hR.wr, hR.glob, hR.keep, by rw [put_defers]; exact hR.defers⟩ hQ
      · cases h
    · rename_i hw
      have hwn := want_ok hw hR.slots
      split at h
      · cases h
      · rename_i v w ps1 hev
        split at h
        · rename_i r1 r2 r3 r4 hrec
          cases h
          obtain ⟨hp1, hp2⟩ := allP_append hp
          unfold wpList
          rw [if_pos hwn]
          refine .inl (op_ok hR.wr hR.glob (fun j hj hle => ?_) (fun x hx => eval_ok hR.slots hR.glob x) hev hp1 ?_)
          · cases h : ρ j with
            | none => rfl
            | some x => have := hR.wr.dom j x h; simp only at this; omega
          · intro u W' ρ' M' q1 q2 q3 q4 q5 q6
            refine ih _ _ _ _ _ _ _ hrec hp2 ρ' M' _ W' ⟨put_slots (hR.slots.mono q1 q2) o.dst q4, q3, hR.glob' q1, Nat.le_trans hR.keep (len_putW _ _), by rw [put_defers]; exact hR.defers⟩ ?_
            intro ρ2 M2 a2 W2 p1 p2 p3 p4
            exact hQ ρ2 M2 a2 W2 (q1.trans p1) (q2.trans p2) (q5.trans p3) p4
        · cases h
end
end Go.Pm
