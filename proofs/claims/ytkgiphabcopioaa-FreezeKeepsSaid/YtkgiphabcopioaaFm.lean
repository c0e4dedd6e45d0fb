/- The law of plays upon plain values. By the prover of this seat. -/
import Derived.Test.YtkgiphabcopioaaFl
set_option linter.unusedVariables false
set_option maxRecDepth 100000
namespace Go.Proofs.Ytkgiphabcopioaa
open Go.RowKit Go.Pm
theorem len_acs (l : List Act) : (acsL l).length = l.length * 17 := by
  induction l with
  | nil => rfl
  | cons i l ih => simp [acsL, acL, actL, inpL] at ih ⊢; omega
theorem acs_drop (l : List Act) (n : Nat) : (acsL l).drop (n * 17) = acsL (l.drop n) := by
  induction n generalizing l with
  | zero => simp
  | succ n ih =>
    cases l with
    | nil => simp [acsL]
    | cons i l =>
      rw [show (n + 1) * 17 = 17 + n * 17 by omega, ← List.drop_drop]
      exact ih l
theorem drop_ac {pre rest l : List Act} {x : Act} (h : pre ++ x :: rest = l) : (acsL l).drop (pre.length * 17) = acsL (x :: rest) := by
  rw [acs_drop, ← h, List.drop_left]
noncomputable def pBody : Code := loopOf Try.prog 7 6
def pFg : Fg := { ks := [0, 3, 4, 16, 17, 18], l := [0, 1], mx := [0, 1] }
def pSt (l : List Act) (d : Dev) (k : Int) : St := ⟨mkT 62 [(0, slA l), (3, .ptr 0 0), (4, .ptr 1 0), (16, slA l), (17, i64 l.length), (18, i64 k)], [.arr 19 (devL d) 0, .arr 19 (devL d) 0]⟩
theorem pLoop (l : List Act) (hw : l.length ≤ 60) : ∀ (rest pre : List Act) (d : Dev), pre ++ rest = l → d.waits.length ≤ pre.length → ∃ d', LoopT C0 pBody (pSt l d (pre.length : Nat)) (.exit 0) (pSt l d' (l.length : Nat)) := by
  intro rest
  induction rest with
  | nil =>
    intro pre d h hd
    simp at h
    subst h
    exact ⟨d, LoopT.fin (hs := hint [((6,0), {val := some (bl false)})]) (f := pFg) (ps := [bl (decide ((pre.length : Int) < (pre.length : Int))) = bl false, true = true]) (by kernel_rfl) ⟨by rw [decide_eq_false (by omega)], rfl, trivial⟩ (by decide)⟩
  | cons x rest ih =>
    intro pre d h hd
    have hl : pre.length < l.length := by rw [← h]; simp
    obtain ⟨d', hp, hd'⟩ := play_ok x d (by omega)
    obtain ⟨d2, h2⟩ := ih (pre ++ [x]) d' (by simpa using h) (by simp; omega)
    rw [List.length_append, List.length_singleton] at h2
    have s1 := same_ok d' (by omega)
    have s0 := same_ok d (by omega)
    have hk : i64 (IntKind.i64.wrap ((pre.length : Int) + 1)) = i64 ((pre.length + 1 : Nat) : Int) := i64_wrap (by omega) (by omega)
    by_cases hb : 128 ≤ x.what
    · exact ⟨d2, LoopT.go (hs := hint [((6,0), {val := some (bl true)}), ((7,0), {sym := true, cells := some (acsL (x :: rest))}), ((8,2), {val := some (bl true)}), ((9,3), {call := some (.tup [A (devL (d.feedD x.i)), i64 0])}), ((10,1), {call := some (A (devL (d.feedD x.i).endD))}), ((11,1), {call := some (res3 ((d.feedD x.i).allowD 0))}), ((12,3), {call := some (both d')}), ((13,5), {call := some (bl true)}), ((13,11), {call := some (bl true)}), ((16,0), {val := some (i64 ((pre.length + 1 : Nat) : Int))})]) (f := pFg)
        (ps := [bl (decide ((pre.length : Int) < (l.length : Int))) = bl true, decide ((0 : Int) ≤ (pre.length : Int) ∧ (pre.length : Int) < (l.length : Int)) = true, (acsL l).drop (pre.length * 17) = acsL (x :: rest), bl (decide ((x.what : Int) ≥ 128)) = bl true,
          Pu 10 [A (devL d), A (inpL x.i)] (.tup [A (devL (d.feedD x.i)), i64 0]), Pu 17 [A (devL (d.feedD x.i))] (A (devL (d.feedD x.i).endD)), Pu 11 [A (devL (d.feedD x.i)), i64 0] (res3 ((d.feedD x.i).allowD 0)),
          Pu 20 [A (acL x), A (devL d), A (devL d)] (both d'), Pu 21 [A (devL d'), A (devL d')] (bl true), Pu 21 [A (devL d), A (devL d)] (bl true), i64 (IntKind.i64.wrap ((pre.length : Int) + 1)) = i64 ((pre.length + 1 : Nat) : Int), true = true])
        (by kernel_rfl) ⟨by rw [decide_t (by omega)], decide_t (by omega), drop_ac h, by rw [decide_t (by omega)], feed_ok _ _ (by omega), end_ok _, allow_ok _ _, hp, s1, s0, hk, rfl, trivial⟩ h2⟩
    · exact ⟨d2, LoopT.go (hs := hint [((6,0), {val := some (bl true)}), ((7,0), {sym := true, cells := some (acsL (x :: rest))}), ((8,2), {val := some (bl false)}), ((12,3), {call := some (both d')}), ((13,5), {call := some (bl true)}), ((13,11), {call := some (bl true)}), ((16,0), {val := some (i64 ((pre.length + 1 : Nat) : Int))})]) (f := pFg)
        (ps := [bl (decide ((pre.length : Int) < (l.length : Int))) = bl true, decide ((0 : Int) ≤ (pre.length : Int) ∧ (pre.length : Int) < (l.length : Int)) = true, (acsL l).drop (pre.length * 17) = acsL (x :: rest), bl (decide ((x.what : Int) ≥ 128)) = bl false,
          Pu 20 [A (acL x), A (devL d), A (devL d)] (both d'), Pu 21 [A (devL d'), A (devL d')] (bl true), Pu 21 [A (devL d), A (devL d)] (bl true), i64 (IntKind.i64.wrap ((pre.length : Int) + 1)) = i64 ((pre.length + 1 : Nat) : Int), true = true])
        (by kernel_rfl) ⟨by rw [decide_t (by omega)], decide_t (by omega), drop_ac h, by rw [decide_eq_false (by omega)], hp, s1, s0, hk, rfl, trivial⟩ h2⟩
theorem plays_ok (l : List Act) : Pu 7 [slA l] (bl true) := by
  by_cases hw : l.length ≤ 60
  · obtain ⟨d, hl⟩ := pLoop l hw l [] Dev.zero rfl (Nat.le_refl _)
    exact pure_of (hs := hint [((1,2), {val := some (bl false)}), ((6,1000), {loop := some (pFg, pSt l Dev.zero (0 : Nat), .exit 0, pSt l d (l.length : Nat))}), ((17,0), {call := some (bl true)})])
      (ps := [bl (decide ((l.length : Int) > 60)) = bl false, pSt l Dev.zero (0 : Nat) = pSt l Dev.zero (0 : Nat), LoopT C0 pBody (pSt l Dev.zero (0 : Nat)) (.exit 0) (pSt l d (l.length : Nat)), true = true, Pu 8 [] (bl true)])
      (by kernel_rfl) ⟨by rw [decide_eq_false (by omega)], rfl, hl, rfl, awake_ok, trivial⟩
  · exact pure_of (hs := hint [((1,2), {val := some (bl true)}), ((2,0), {call := some (bl true)})]) (ps := [bl (decide ((l.length : Int) > 60)) = bl true, Pu 8 [] (bl true)]) (by kernel_rfl) ⟨by rw [decide_t (by omega)], awake_ok, trivial⟩
def shAc : Sh := .seq (.int .u8) (.seq shAct (.seq .bool (.seq shInp (.seq (.int .i64) .unit))))
theorem fits_ac {cs : List AV} (h : Fits shAc cs) : ∃ x : Act, cs = acL x := by
  obtain ⟨_, _, rfl, ⟨n, rfl, hn⟩, _, _, rfl, ha, _, _, rfl, ⟨b, rfl⟩, _, _, rfl, hi, _, _, rfl, ⟨m, rfl, _⟩, rfl⟩ := h
  obtain ⟨a, rfl⟩ := fits_act ha
  obtain ⟨i, rfl⟩ := fits_inp hi
  simp [Lit.wf, IntKind.min, IntKind.max, IntKind.signed, IntKind.bits] at hn
  exact ⟨⟨n.toNat, a, b, i, m⟩, by simp [acL, u8, bl, i64, show max n 0 = n by omega]⟩
theorem fits_acs {a : AV} (h : Fits (.sl shAc) [a]) : ∃ l : List Act, a = slA l ∧ l.length ≤ maxLen := by
  obtain ⟨els, he, hm, hf⟩ := h
  obtain ⟨l, rfl⟩ := fits_els (fun cs => fits_ac) els hf
  simp only [List.cons.injEq, and_true] at he
  subst he
  exact ⟨l, by simp [slA, acsL, List.flatMap_def], by simpa using hm⟩
end Go.Proofs.Ytkgiphabcopioaa
