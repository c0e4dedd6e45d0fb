/- The law of steps: its loops. By the prover of this seat. -/
import Derived.Test.YtkgiphabcopioaaFi
set_option linter.unusedVariables false
set_option maxRecDepth 100000
namespace Go.Proofs.Ytkgiphabcopioaa
open Go.RowKit Go.Pm
noncomputable def s1Body : Code := loopOf Try.prog 3 5
noncomputable def s2Body : Code := loopOf Try.prog 3 14
noncomputable def s3Body : Code := loopOf Try.prog 3 16
def s1Fg : Fg := { ks := [0, 1, 5, 22, 23, 24], l := [0] }
def s1St (n : Int) (ws : List Inp) (k : Int) (pre : List Inp) : St := ⟨mkT 101 [(0, slI ws), (1, u8 n), (5, .ptr 0 0), (22, slI ws), (23, i64 ws.length), (24, i64 k)], [.arr 19 (devL (aDev pre)) 0]⟩
theorem s1Loop (n : Int) (ws : List Inp) (hw : ws.length ≤ 60) : ∀ (rest pre : List Inp), pre ++ rest = ws → LoopT C0 s1Body (s1St n ws (pre.length : Nat) pre) (.exit 0) (s1St n ws (ws.length : Nat) ws) := by
  intro rest
  induction rest with
  | nil =>
    intro pre h
    simp at h
    subst h
    exact LoopT.fin (hs := hint [((5,0), {val := some (bl false)})]) (f := s1Fg) (ps := [bl (decide ((pre.length : Int) < (pre.length : Int))) = bl false, true = true, true = true]) (by kernel_rfl) ⟨by rw [decide_eq_false (by omega)], rfl, rfl, trivial⟩ (by decide)
  | cons j rest ih =>
    intro pre h
    have hl : pre.length < ws.length := by rw [← h]; simp
    have h2 := ih (pre ++ [j]) (by simpa using h)
    rw [List.length_append, List.length_singleton] at h2
    exact LoopT.go (hs := hint [((5,0), {val := some (bl true)}), ((6,0), {sym := true, cells := some (inpsL (j :: rest))}), ((7, 2), {call := some (.tup [A (devL (aDev (pre ++ [j]))), i64 0])}), ((11,0), {val := some (i64 ((pre.length + 1 : Nat) : Int))})]) (f := s1Fg)
      (ps := [bl (decide ((pre.length : Int) < (ws.length : Int))) = bl true, decide ((0 : Int) ≤ (pre.length : Int) ∧ (pre.length : Int) < (ws.length : Int)) = true, (inpsL ws).drop (pre.length * 6) = inpsL (j :: rest),
        Pu 10 [A (devL (aDev pre)), A (inpL j)] (.tup [A (devL (aDev (pre ++ [j]))), i64 0]), i64 (IntKind.i64.wrap ((pre.length : Int) + 1)) = i64 ((pre.length + 1 : Nat) : Int), true = true, true = true])
      (by kernel_rfl) ⟨by rw [decide_t (by omega)], decide_t (by omega), drop_at h, aFeed pre j (by omega), i64_wrap (by omega) (by omega), rfl, rfl, trivial⟩ h2
/-! the inner loop -/
def sDev (fr : Bool) (ws : List Inp) : Dev := { Dev.zero with act := { Grab.zero with client := 1 }, grabbed := true, frozen := fr, steps := !fr, waits := ws }
def s2Fg : Fg := { ks := [0, 1, 5, 10, 43, 44], l := [0] }
def s2St (n : Int) (ins : List Inp) (tot t : Int) (k : Nat) (fr : Bool) (ws : List Inp) : St := ⟨mkT 101 [(0, slI ins), (1, u8 n), (5, .ptr 0 0), (10, i64 (k : Nat)), (43, i64 tot), (44, i64 t)], [.arr 19 (devL (sDev fr ws)) 0]⟩
theorem s3Out (n : Int) (ins : List Inp) (tot t : Int) (k : Nat) (fr : Bool) (ws : List Inp) (hl : ws.length ≤ 60) (h : (sDev fr ws).nextD = (sDev fr ws, Inp.zero, false)) : LoopT C0 s3Body (s2St n ins tot t k fr ws) (.exit 4) (s2St n ins tot t k fr ws) :=
  LoopT.fin (hs := hint [((16,1), {call := some (res3 (sDev fr ws, Inp.zero, false))})]) (f := s2Fg) (ps := [Pu 12 [A (devL (sDev fr ws))] (res3 (sDev fr ws, Inp.zero, false)), true = true, true = true]) (by kernel_rfl)
    ⟨h ▸ next_ok (sDev fr ws) (by show ws.length ≤ 2000000; omega), rfl, rfl, trivial⟩ (by decide)
theorem next_down (i : Inp) (ws : List Inp) (b : Bool) (h : isDown i = b) : (sDev false (i :: ws)).nextD = (sDev b ws, i, true) := by
  subst h
  cases h : isDown i <;> simp [Dev.nextD, sDev, h]
theorem s3In (n : Int) (ins : List Inp) (tot t : Int) (pre : List Inp) (i : Inp) (ws : List Inp) (hl : ins.length ≤ 60) (hp : pre ++ i :: ws = ins) : Tri C0 s3Body (s2St n ins tot t pre.length false (i :: ws)) .normal (s2St n ins tot t (pre.length + 1) (isDown i) ws) := by
  have hlt : pre.length < ins.length := by rw [← hp]; simp
  have hlw : (i :: ws).length ≤ 60 := by rw [← hp] at hl; simp at hl ⊢; omega
  have hn : ∀ b, isDown i = b → Pu 12 [A (devL (sDev false (i :: ws)))] (res3 (sDev b ws, i, true)) := fun b hb => next_down i ws b hb ▸ next_ok (sDev false (i :: ws)) (by show (i :: ws).length ≤ 2000000; omega)
  have hlt' : bl (decide ((pre.length : Int) ≥ (ins.length : Int))) = bl false := by rw [decide_eq_false (by omega)]
  have hat : decide ((0 : Int) ≤ (pre.length : Int) ∧ (pre.length : Int) < (ins.length : Int)) = true := decide_t (by omega)
  have hsame : bl (!(i.kind == i.kind && (i.code == i.code && (i.x == i.x && (i.y == i.y && (i.time == i.time && (i.count == i.count && true))))))) = bl false := by rw [inp_same]; rfl
  have hw : i64 (IntKind.i64.wrap ((pre.length : Int) + 1)) = i64 ((pre.length + 1 : Nat) : Int) := i64_wrap (by omega) (by omega)
  by_cases h1 : 1 ≤ i.kind
  · by_cases h2 : i.kind ≤ 4
    · have hd : isDown i = true := by simp [isDown, h1, h2]
      rw [hd]
      exact runF_ok (hs := hint [((16,1), {call := some (res3 (sDev true ws, i, true))}), ((19,3), {val := some (bl false)}), ((19,8), {sym := true, cells := some (inpsL (i :: ws))}), ((19,10), {val := some (bl false)}), ((21,1), {val := some (i64 ((pre.length + 1 : Nat) : Int))}), ((22,2), {val := some (bl true)}), ((22,6), {val := some (bl true)}), ((23,2), {call := some (bl true)})]) (f := s2Fg)
        (ps := [Pu 12 [A (devL (sDev false (i :: ws)))] (res3 (sDev true ws, i, true)), bl (decide ((pre.length : Int) ≥ (ins.length : Int))) = bl false, decide ((0 : Int) ≤ (pre.length : Int) ∧ (pre.length : Int) < (ins.length : Int)) = true, (inpsL ins).drop (pre.length * 6) = inpsL (i :: ws),
          bl (!(i.kind == i.kind && (i.code == i.code && (i.x == i.x && (i.y == i.y && (i.time == i.time && (i.count == i.count && true))))))) = bl false, i64 (IntKind.i64.wrap ((pre.length : Int) + 1)) = i64 ((pre.length + 1 : Nat) : Int), bl (decide (i.kind ≥ 1)) = bl true, bl (decide (i.kind ≤ 4)) = bl true, Pu 13 [A (devL (sDev true ws))] (bl true), true = true, true = true])
        (by kernel_rfl) ⟨hn _ hd, hlt', hat, drop_at hp, hsame, hw, by rw [decide_t h1], by rw [decide_t h2], frozen_ok _, rfl, rfl, trivial⟩
    · have hd : isDown i = false := by simp [isDown, h1, h2]
      rw [hd]
      exact runF_ok (hs := hint [((16,1), {call := some (res3 (sDev false ws, i, true))}), ((19,3), {val := some (bl false)}), ((19,8), {sym := true, cells := some (inpsL (i :: ws))}), ((19,10), {val := some (bl false)}), ((21,1), {val := some (i64 ((pre.length + 1 : Nat) : Int))}), ((22,2), {val := some (bl true)}), ((22,6), {val := some (bl false)}), ((23,2), {call := some (bl false)})]) (f := s2Fg)
        (ps := [Pu 12 [A (devL (sDev false (i :: ws)))] (res3 (sDev false ws, i, true)), bl (decide ((pre.length : Int) ≥ (ins.length : Int))) = bl false, decide ((0 : Int) ≤ (pre.length : Int) ∧ (pre.length : Int) < (ins.length : Int)) = true, (inpsL ins).drop (pre.length * 6) = inpsL (i :: ws),
          bl (!(i.kind == i.kind && (i.code == i.code && (i.x == i.x && (i.y == i.y && (i.time == i.time && (i.count == i.count && true))))))) = bl false, i64 (IntKind.i64.wrap ((pre.length : Int) + 1)) = i64 ((pre.length + 1 : Nat) : Int), bl (decide (i.kind ≥ 1)) = bl true, bl (decide (i.kind ≤ 4)) = bl false, Pu 13 [A (devL (sDev false ws))] (bl false), true = true, true = true])
        (by kernel_rfl) ⟨hn _ hd, hlt', hat, drop_at hp, hsame, hw, by rw [decide_t h1], by rw [decide_eq_false h2], frozen_ok _, rfl, rfl, trivial⟩
  · have hd : isDown i = false := by simp [isDown, h1]
    rw [hd]
    exact runF_ok (hs := hint [((16,1), {call := some (res3 (sDev false ws, i, true))}), ((19,3), {val := some (bl false)}), ((19,8), {sym := true, cells := some (inpsL (i :: ws))}), ((19,10), {val := some (bl false)}), ((21,1), {val := some (i64 ((pre.length + 1 : Nat) : Int))}), ((22,2), {val := some (bl false)}), ((23,2), {call := some (bl false)})]) (f := s2Fg)
      (ps := [Pu 12 [A (devL (sDev false (i :: ws)))] (res3 (sDev false ws, i, true)), bl (decide ((pre.length : Int) ≥ (ins.length : Int))) = bl false, decide ((0 : Int) ≤ (pre.length : Int) ∧ (pre.length : Int) < (ins.length : Int)) = true, (inpsL ins).drop (pre.length * 6) = inpsL (i :: ws),
        bl (!(i.kind == i.kind && (i.code == i.code && (i.x == i.x && (i.y == i.y && (i.time == i.time && (i.count == i.count && true))))))) = bl false, i64 (IntKind.i64.wrap ((pre.length : Int) + 1)) = i64 ((pre.length + 1 : Nat) : Int), bl (decide (i.kind ≥ 1)) = bl false, Pu 13 [A (devL (sDev false ws))] (bl false), true = true, true = true])
      (by kernel_rfl) ⟨hn _ hd, hlt', hat, drop_at hp, hsame, hw, by rw [decide_eq_false h1], frozen_ok _, rfl, rfl, trivial⟩
theorem s3Loop (n : Int) (ins : List Inp) (tot t : Int) (hl : ins.length ≤ 60) : ∀ (ws pre : List Inp) (fr : Bool), pre ++ ws = ins → ∃ ws' pre' fr', pre' ++ ws' = ins ∧ ws'.length ≤ ws.length ∧ (fr = false → ws ≠ [] → ws'.length < ws.length) ∧ LoopT C0 s3Body (s2St n ins tot t pre.length fr ws) (.exit 4) (s2St n ins tot t pre'.length fr' ws') := by
  intro ws
  induction ws with
  | nil =>
    intro pre fr hp
    exact ⟨[], pre, fr, hp, Nat.le_refl _, fun _ h => absurd rfl h, s3Out n ins tot t _ fr [] (by simp) (by cases fr <;> rfl)⟩
  | cons i ws ih =>
    intro pre fr hp
    cases fr with
    | true => exact ⟨i :: ws, pre, true, hp, Nat.le_refl _, (fun h => by cases h), s3Out n ins tot t _ true _ (by rw [← hp] at hl; simp at hl ⊢; omega) rfl⟩
    | false =>
      obtain ⟨ws', pre', fr', h1, h2, h3, h4⟩ := ih (pre ++ [i]) (isDown i) (by simpa using hp)
      rw [List.length_append, List.length_singleton] at h4
      exact ⟨ws', pre', fr', h1, by simp; omega, fun _ _ => by simp; omega, LoopT.next (s3In n ins tot t pre i ws hl hp) h4⟩
theorem s2Loop (n : Int) (ins : List Inp) (tot : Nat) (ht : tot ≤ 1000) (hl : ins.length ≤ 60) : ∀ (R t : Nat) (ws pre : List Inp) (fr : Bool), pre ++ ws = ins → ws.length ≤ R → t + R = tot → ∃ fr', LoopT C0 s2Body (s2St n ins tot t pre.length fr ws) (.exit 2) (s2St n ins tot tot ins.length fr' []) := by
  intro R
  induction R with
  | zero =>
    intro t ws pre fr hp hw hR
    obtain rfl : ws = [] := List.eq_nil_of_length_eq_zero (by omega)
    obtain rfl : t = tot := by omega
    simp at hp
    subst hp
    exact ⟨fr, LoopT.fin (hs := hint [((14,0), {val := some (bl false)})]) (f := s2Fg) (ps := [bl (decide ((t : Int) < (t : Int))) = bl false, true = true, true = true]) (by kernel_rfl) ⟨by rw [decide_eq_false (by omega)], rfl, rfl, trivial⟩ (by decide)⟩
  | succ R ih =>
    intro t ws pre fr hp hw hR
    obtain ⟨ws', pre', fr', h1, h2, h3, h4⟩ := s3Loop n ins tot t hl ws pre false hp
    have hlen : ws'.length ≤ R := by
      cases ws with
      | nil => simp at h2; simp [h2]
      | cons i ws => have := h3 rfl (by simp); simp at this hw; omega
    obtain ⟨fr2, h5⟩ := ih (t + 1) ws' pre' fr' h1 hlen (by omega)
    have ha : Pu 11 [A (devL (sDev fr ws)), i64 1] (res3 (sDev false ws, Inp.zero, false)) := by
      have := allow_ok (sDev fr ws) 1
      cases fr <;> exact this
    exact ⟨fr2, LoopT.go (hs := hint [((14,0), {val := some (bl true)}), ((15,1), {call := some (res3 (sDev false ws, Inp.zero, false))}), ((16,1000), {loop := some (s2Fg, s2St n ins tot t pre.length false ws, .exit 4, s2St n ins tot t pre'.length fr' ws')}), ((25,0), {val := some (i64 ((t + 1 : Nat) : Int))})]) (f := s2Fg)
      (ps := [bl (decide ((t : Int) < (tot : Int))) = bl true, Pu 11 [A (devL (sDev fr ws)), i64 1] (res3 (sDev false ws, Inp.zero, false)), s2St n ins tot t pre.length false ws = s2St n ins tot t pre.length false ws, LoopT C0 s3Body (s2St n ins tot t pre.length false ws) (.exit 4) (s2St n ins tot t pre'.length fr' ws'), true = true, true = true,
        i64 (IntKind.i64.wrap ((t : Int) + 1)) = i64 ((t + 1 : Nat) : Int), true = true, true = true])
      (by kernel_rfl) ⟨by rw [decide_t (by omega)], ha, rfl, h4, rfl, rfl, i64_wrap (by omega) (by omega), rfl, rfl, trivial⟩ h5⟩
end Go.Proofs.Ytkgiphabcopioaa
