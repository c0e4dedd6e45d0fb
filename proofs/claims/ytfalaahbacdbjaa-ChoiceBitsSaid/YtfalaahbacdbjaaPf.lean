/- maps.DeleteFunc: both of the program's. By the prover of this seat. -/
import Derived.Test.YtfalaahbacdbjaaPe
set_option linter.unusedVariables false
set_option linter.unusedSimpArgs false
set_option maxRecDepth 100000
namespace Go.Proofs.Ytfalaahbacdbjaa
open Go.RowKit Go.Maps Go.Pm
def ka33 (x : Int) : AV := .s (.int .u32 x)
def mk33 (x : Int) : Value := .int .u32 x
def ka67 (x : Int × Int) : AV := .agg [.s (.int .i64 x.1), .s (.int .u32 x.2)]
theorem keys33 : KeyS Try.prog 33 mk33 ka33 where
  vr _ _ _ := .s _ _
  vo _ := rfl
  inv key kl h := by
    obtain ⟨x, rfl, rfl, hw⟩ := Maps.keyOf_int_inv Try.underlying33 h
    refine ⟨x, rfl, ?_⟩
    show (true && _) = true
    rw [Bool.true_and]
    show (keyOf Try.prog 33 (.int .u32 x)).isSome = true
    rw [h]; rfl
  inj x y h := by injection h
theorem kt67 : Try.prog.keyType 67 = true := by kernel_rfl
theorem keyed67 : Keyed Try.prog 67 := keyed_of (by kernel_rfl)
theorem keyed33 : Keyed Try.prog 33 := keyed_of (by kernel_rfl)
theorem c67 : Try.prog.cellsOf 67 = 2 := by kernel_rfl
theorem c3 : Try.prog.cellsOf 3 = 1 := by kernel_rfl
theorem c33 : Try.prog.cellsOf 33 = 1 := by kernel_rfl
theorem tsz : ∃ m, Try.prog.types.size = m + 1 := ⟨Try.prog.types.size - 1, by kernel_rfl⟩
theorem lits_int {t : TypeId} {q : IntKind} (ht : Try.prog.underlying t = some (.int q)) (m : Nat) {v : Value} {l : List Lit} (h : Try.prog.keyLits (m + 1) t [v] = some l) : ∃ n, v = .int q n := by
  unfold Program.keyLits at h
  rw [ht] at h
  cases v <;> simp at h
  rename_i q' n
  exact ⟨n, by rw [h.1.1]⟩
theorem lits_mk {t : TypeId} {q : IntKind} (ht : Try.prog.underlying t = some (.int q)) (m : Nat) {n : Int} (hw : (Lit.int q n).wf = true) : Try.prog.keyLits (m + 1) t [.int q n] = some [.int q n] := by
  unfold Program.keyLits
  rw [ht]
  simp [hw]
theorem inv67 {key : Value} {kl : Lit} (h : keyOf Try.prog 67 key = some kl) : ∃ x, key = mkK x := by
  unfold keyOf at h
  rw [Try.underlying67] at h
  simp only at h
  split at h
  · rename_i hf
    rw [Option.map_eq_some_iff] at h
    obtain ⟨ls, h1, h2⟩ := h
    rw [Bool.and_eq_true] at hf
    unfold Program.keyLits at h1
    rw [Try.underlying67] at h1
    simp only at h1
    split at h1
    · rename_i hc
      rw [c67] at hc
      obtain ⟨m, hm⟩ := tsz
      rw [hm] at h1
      have hk := hf.2
      cases key with
      | agg cs =>
        obtain ⟨cs⟩ := cs
        match cs, hc.1 with
        | [a, b], _ =>
          simp only [Value.cells, List.mapM_cons, List.mapM_nil, c3, c33, List.drop_zero, List.take_succ_cons, List.take_zero, List.drop_succ_cons, Option.map_eq_some_iff] at h1
          obtain ⟨L, h3, _⟩ := h1
          cases ha : Try.prog.keyLits (m + 1) 3 [a] with
          | none => rw [ha] at h3; cases h3
          | some la =>
            cases hb : Try.prog.keyLits (m + 1) 33 [b] with
            | none => rw [ha, hb] at h3; cases h3
            | some lb =>
              obtain ⟨x, rfl⟩ := lits_int Try.underlying3 m ha
              obtain ⟨y, rfl⟩ := lits_int Try.underlying33 m hb
              exact ⟨(x, y), rfl⟩
      | _ => simp [Value.formed, Try.underlying67] at hk
    · cases h1
  · cases h
theorem key67 {a b : Int} (ha : (Lit.int .i64 a).wf = true) (hb : (Lit.int .u32 b).wf = true) : (keyOf Try.prog 67 (mkK (a, b))).isSome = true := by
  unfold keyOf
  rw [Try.underlying67]
  simp only
  have hf : Value.formed Try.prog 67 (mkK (a, b)) = true := by simp [Value.formed, Try.underlying67, c67]
  rw [kt67, hf]
  simp only [Bool.and_self, if_true, Option.isSome_map]
  unfold Program.keyLits
  rw [Try.underlying67]
  obtain ⟨m, hm⟩ := tsz
  simp only [Value.cells, c67, c3, c33, hm]
  rw [if_pos ⟨rfl, by decide +kernel⟩]
  simp only [List.mapM_cons, List.mapM_nil, List.drop_zero, List.take_succ_cons, List.take_zero, List.drop_succ_cons, c3, c33, lits_mk Try.underlying3 m ha, lits_mk Try.underlying33 m hb, Option.isSome_map]
  rfl
theorem keys67 : KeyS Try.prog 67 mkK ka67 where
  vr M ρ x := .mkAgg (vs := [.int .i64 x.1, .int .u32 x.2]) (L2.cons (.s _ _) (L2.cons (.s _ _) L2.nil)) (by simp [Value.oneCell'])
  vo _ := rfl
  inv key kl h := by
    obtain ⟨x, rfl⟩ := inv67 h
    refine ⟨x, rfl, ?_⟩
    show (true && (keyOf Try.prog 67 (mkK x)).isSome) = true
    rw [h]; rfl
  inj x y h := by
    injection h with h
    obtain ⟨x1, x2⟩ := x
    obtain ⟨y1, y2⟩ := y
    simp at h
    rw [h.1, h.2]
theorem kwf67 {a b : Int} (ha : (Lit.int .i64 a).wf = true) (hb : (Lit.int .u32 b).wf = true) : kwf Try.prog 67 (ka67 (a, b)) = true := by
  show (true && (keyOf Try.prog 67 (mkK (a, b))).isSome) = true
  rw [key67 ha hb]; rfl
theorem kwf33 {b : Int} (hb : (Lit.int .u32 b).wf = true) : kwf Try.prog 33 (ka33 b) = true := by
  show (true && (keyOf Try.prog 33 (.int .u32 b)).isSome) = true
  rw [keyOf_int_mk Try.underlying33 hb]; rfl
/-- what is struck of the masks -/
theorem del31_law (G : Nat → Option (List AV)) (caps : List AV) (hcaps : ∀ c ∈ caps, pureC0 c = true) (del : Int × Int → Int → Bool) (hg : ∀ x v, kwf Try.prog 67 (ka67 x) = true → Pure Try.prog G 32 ([ka67 x, .s (.int .i64 v)] ++ caps) (bl (del x v)) [])
    (H : List Bk) (i : Nat) (l : List ((Int × Int) × Int)) (hB : H[i]? = some (.map (l.map (rowA ka67)) false)) (hk : ∀ p ∈ l, kwf Try.prog 67 (ka67 p.1) = true) (hl : l.length ≤ 1000000) :
    CallH Try.prog G 31 [.omp i, .fn (.func 32) [] caps] H (.tup []) (putB H (i, .map ((l.filter fun p => !del p.1 p.2).map (rowA ka67)) false)) :=
  del_law keyed67 keys67 (by kernel_rfl) (fun pd cb b n D w h1 h2 => del31_any (fun key kl h => inv67 h) keyed67 RI pd 32 cb b n D w (enters_of Try.func32 (by kernel_rfl) rfl) h1 h2) caps hcaps del hg H i l hB hk hl (by kernel_rfl)
theorem del33_law (G : Nat → Option (List AV)) (caps : List AV) (hcaps : ∀ c ∈ caps, pureC0 c = true) (del : Int → Int → Bool) (hg : ∀ x v, kwf Try.prog 33 (ka33 x) = true → Pure Try.prog G 34 ([ka33 x, .s (.int .i64 v)] ++ caps) (bl (del x v)) [])
    (H : List Bk) (i : Nat) (l : List (Int × Int)) (hB : H[i]? = some (.map (l.map (rowA ka33)) false)) (hk : ∀ p ∈ l, kwf Try.prog 33 (ka33 p.1) = true) (hl : l.length ≤ 1000000) :
    CallH Try.prog G 33 [.omp i, .fn (.func 34) [] caps] H (.tup []) (putB H (i, .map ((l.filter fun p => !del p.1 p.2).map (rowA ka33)) false)) :=
  del_law keyed33 keys33 (by kernel_rfl) (fun pd cb b n D w h1 h2 => del33_any keyed33 RI pd 34 cb b n D w (enters_of Try.func34 (by kernel_rfl) rfl) h1 h2) caps hcaps del hg H i l hB hk hl (by kernel_rfl)
end Go.Proofs.Ytfalaahbacdbjaa
