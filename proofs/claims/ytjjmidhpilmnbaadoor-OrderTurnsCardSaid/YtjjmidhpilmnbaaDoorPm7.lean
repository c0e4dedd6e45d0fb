/- The machine of plain values: binary operations, conversions, addresses of elements, pieces. By the prover of this seat. -/
import Derived.Test.YtjjmidhpilmnbaaDoorPm6
set_option linter.unusedVariables false
namespace Go.Pm
open Go Go.RowKit
theorem allB_cons {b : Bool} {bs : List Bool} (h : (b :: bs).all id = true) : b = true ∧ bs.all id = true := by simpa using h
theorem allB_dec {p : Prop} [Decidable p] {bs : List Bool} (h : (decide p :: bs).all id = true) : p ∧ bs.all id = true := by simpa using h
section
variable {P : Program} {w0 W : World} {ρ : Nm} {M : Mem} {H : List Bk}
theorem guard_int (op : BinOp) (t : TypeId) (x y : Operand) (k k' : IntKind) (a b : Int) : (eqGuard op t x y (.int k a) (.int k' b)).run P W = .ok () W := by cases op <;> simp [eqGuard]
theorem guard_string (op : BinOp) (t : TypeId) (x y : Operand) (a b : ByteArray) : (eqGuard op t x y (.string a) (.string b)).run P W = .ok () W := by cases op <;> simp [eqGuard]
theorem guard_bool (op : BinOp) (t : TypeId) (x y : Operand) (a b : Bool) : (eqGuard op t x y (.bool a) (.bool b)).run P W = .ok () W := by cases op <;> simp [eqGuard]
theorem eqGuard_slice_c (op : BinOp) (t : TypeId) (x y : Operand) (a : Option Addr) (n m : Nat) (v : Value) : eqGuard op t x y (.slice a n m) v = pure () := by cases op <;> rfl
theorem run_pure' {α : Type} (P : Program) (w : World) (a : α) : (pure a : Sem α).run P w = .ok a w := rfl
theorem run_eq_sl {P : Program} {w : World} {t e : TypeId} {a : Option Addr} {l c : Nat} (h : P.underlying t = some (.slice e)) : (Op.equal t (.slice a l c) (.slice none 0 0)).run P w = .ok a.isNone w := by
  have key : ∀ d : Nat, (Op.equalIn (d + 1) t (.slice a l c) (.slice none 0 0)).run P w = .ok a.isNone w := by
    intro d
    cases a <;> simp [Op.equalIn, run_underlying h]
  exact key 9999
theorem run_eql_sl {P : Program} {w : World} {t e : TypeId} {a : Option Addr} {l c : Nat} (h : P.underlying t = some (.slice e)) : (binOp .eql t (.slice a l c) (.slice none 0 0)).run P w = .ok (.bool a.isNone) w := by
  simp only [binOp]
  simp [run_eq_sl h]
theorem run_neq_sl {P : Program} {w : World} {t e : TypeId} {a : Option Addr} {l c : Nat} (h : P.underlying t = some (.slice e)) : (binOp .neq t (.slice a l c) (.slice none 0 0)).run P w = .ok (.bool (!a.isNone)) w := by
  simp only [binOp]
  simp [run_eq_sl h]
theorem ok_bin {C : Cx} {op : BinOp} {xT : TypeId} {x y : Operand} {a b v : AV} {news : List Bk} {bs : List Bool} {ps : List Prop} (hr : rdBin C op xT x y a b = some (v, news, bs, ps)) (hb : bs.all id = true) {ua ub : Value} (h1 : VR M ρ a ua) (h2 : VR M ρ b ub) (hc : ∀ c, y = .const c → ub = c) :
    news = [] ∧ ∃ u, (do eqGuard op xT x y ua ub; binOp op xT ua ub : Sem Value).run C.P W = .ok u W ∧ VR M ρ v u := by
  unfold rdBin at hr
  split at hr
  · rename_i k m k' n
    obtain rfl := h1.inv_s
    obtain rfl := h2.inv_s
    simp only [Sem.run_bind, guard_int, Result.andThen_ok]
    split at hr
    · cases hr
      obtain ⟨h0, _⟩ := allB_dec hb
      refine ⟨rfl, _, ?_, .s _ _⟩
      simp [binOp, Op.shift, show ¬ n < 0 by omega]
    · cases hr
      obtain ⟨h0, _⟩ := allB_dec hb
      refine ⟨rfl, _, ?_, .s _ _⟩
      simp [binOp, Op.shift, show ¬ n < 0 by omega]
    · split at hr
      · rename_i hk
        subst hk
        cases hr
        obtain ⟨h0, _⟩ := allB_dec hb
        refine ⟨rfl, _, ?_, .s _ _⟩
        simp [binOp, Op.intDiv, h0]
      · cases hr
    · split at hr
      · rename_i hk
        subst hk
        cases hr
        obtain ⟨h0, _⟩ := allB_dec hb
        refine ⟨rfl, _, ?_, .s _ _⟩
        simp [binOp, Op.intDiv, h0]
      · cases hr
    · simp only [Option.map_eq_some_iff] at hr
      obtain ⟨u, hu, he⟩ := hr
      cases he
      exact ⟨rfl, u, pureP_run hu W, .s _ _⟩
  · rename_i m n
    obtain rfl := h1.inv_s
    obtain rfl := h2.inv_s
    simp only [Sem.run_bind, guard_string, Result.andThen_ok]
    split at hr
    · cases hr
      obtain ⟨h0, _⟩ := allB_dec hb
      refine ⟨rfl, _, ?_, .s _ _⟩
      have : ¬ ((m.size + n.size : Nat) : Int) > IntKind.i64.max := by simp [IntKind.max, IntKind.signed, IntKind.bits]; omega
      simp only [binOp, Op.stringOp]
      rw [if_neg this]
      rfl
    · simp only [Option.map_eq_some_iff] at hr
      obtain ⟨u, hu, he⟩ := hr
      cases he
      exact ⟨rfl, u, pureP_run hu W, .s _ _⟩
  · rename_i m n
    obtain rfl := h1.inv_s
    obtain rfl := h2.inv_s
    simp only [Sem.run_bind, guard_bool, Result.andThen_ok]
    split at hr
    · rename_i ht
      cases hr
      exact ⟨rfl, _, by simp [binOp, run_equal_bool W xT m n ht], .s _ _⟩
    · rename_i ht
      cases hr
      exact ⟨rfl, _, by simp [binOp, run_equal_bool W xT m n ht], .s _ _⟩
    · cases hr
  · split at hr
    · rename_i ht
      cases hr
      obtain rfl := hc _ rfl
      cases h1 with
      | sx_e a => exact ⟨rfl, _, by simp only [Sem.run_bind, eqGuard_slice_c, run_pure', Result.andThen_ok, run_eql_sl ht]; rfl, .s _ _⟩
      | sx f a b d => exact ⟨rfl, _, by simp only [Sem.run_bind, eqGuard_slice_c, run_pure', Result.andThen_ok, run_eql_sl ht]; rfl, .s _ _⟩
    · rename_i ht
      cases hr
      obtain rfl := hc _ rfl
      cases h1 with
      | sx_e a => exact ⟨rfl, _, by simp only [Sem.run_bind, eqGuard_slice_c, run_pure', Result.andThen_ok, run_neq_sl ht]; rfl, .s _ _⟩
      | sx f a b d => exact ⟨rfl, _, by simp only [Sem.run_bind, eqGuard_slice_c, run_pure', Result.andThen_ok, run_neq_sl ht]; rfl, .s _ _⟩
    · cases hr
  · obtain rfl := h1.inv_s
    split at hr
    · rename_i ht
      cases hr
      obtain rfl := hc _ rfl
      exact ⟨rfl, _, by simp only [Sem.run_bind, eqGuard_slice_c, run_pure', Result.andThen_ok, run_eql_sl ht]; rfl, .s _ _⟩
    · rename_i ht
      cases hr
      obtain rfl := hc _ rfl
      exact ⟨rfl, _, by simp only [Sem.run_bind, eqGuard_slice_c, run_pure', Result.andThen_ok, run_neq_sl ht]; rfl, .s _ _⟩
    · cases hr
  · rename_i xs ys
    obtain ⟨X, rfl, hx, _⟩ := h1.inv_agg
    obtain ⟨Y, rfl, hy, _⟩ := h2.inv_agg
    split at hr
    · rename_i q hq
      cases hr
      obtain ⟨g1, g2⟩ := eqAgg_ok (C := C) (op := .eql) (x := x) (y := y) (W := W) hq hx hy
      exact ⟨rfl, _, by simp only [Sem.run_bind, g1, Result.andThen_ok, run_eql_struct, g2], .s _ _⟩
    · rename_i q hq
      cases hr
      obtain ⟨g1, g2⟩ := eqAgg_ok (C := C) (op := .neq) (x := x) (y := y) (W := W) hq hx hy
      exact ⟨rfl, _, by simp only [Sem.run_bind, g1, Result.andThen_ok, run_neq_struct, g2], .s _ _⟩
    · cases hr
  · cases hr
def faddrA (d : Nat) : AV → Option AV
  | .ptr id off => some (.ptr id (off + d))
  | .fptr cs => some (.fptr (cs.drop d))
  | _ => none
theorem ok_fieldAddr {C : Cx} {t : TypeId} {f : Nat} {fd : Field} {sz : Nat} (hf : fieldOf C.P t f = some fd) (hs : szOf C.P fd.type = some sz) (h0 : sz ≠ 0) {x v : AV} {u : Value} (hx : VR M ρ x u)
    (hv : faddrA fd.offset x = some v) :
    ∃ y, (Instr.fieldAt t u f).run C.P W = .ok y W ∧ VR M ρ v y := by
  unfold fieldOf at hf
  split at hf
  · rename_i fs hfs
    have key : ∀ A : Addr, (Instr.fieldAt t (.pointer (some A)) f).run C.P W = .ok (.pointer (some (A.add fd.offset))) W := by
      intro A
      simp [Instr.fieldAt, run_underlying hfs, hf, Instr.sureAddr, fieldPlace, run_szOf hs, h0]
    cases hx <;> first | (cases hv; done) | skip
    · rename_i h1
      cases hv
      exact ⟨_, key _, by rw [add_flat]; exact .ptr h1⟩
    · cases hv
      exact ⟨_, key _, by simp; exact .fptr_e⟩
    · rename_i f1 h1 h2
      cases hv
      refine ⟨_, key _, ?_⟩
      rw [add_flat]
      refine .fptr (fun i => f1 (fd.offset + i)) (fun i c hc => ?_) (fun i c hc => ?_)
      · rw [List.getElem?_drop] at hc; have := h1 _ _ hc; rwa [← Nat.add_assoc] at this
      · rw [List.getElem?_drop] at hc; exact h2 _ _ hc
  · cases hf
end
end Go.Pm
