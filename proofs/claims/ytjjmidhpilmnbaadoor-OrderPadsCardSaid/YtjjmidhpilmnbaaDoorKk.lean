/- Put, by the program and by the reference: one answer. By the prover of this seat. -/
import Derived.Test.YtjjmidhpilmnbaaDoorKj
set_option linter.unusedVariables false
set_option linter.unusedSimpArgs false
set_option maxRecDepth 100000
namespace Go.Proofs.YtjjmidhpilmnbaaDoor
open Go.RowKit Go.Pm
def Span.wd (s : Span) : Nat := s.size.natAbs
def e0 : ByteArray := ⟨#[]⟩
def putD (o n v : Int) : ByteArray × Int :=
  if o ≠ 0 ∧ o ≠ 1 then (e0, 10) else match knownD n with
  | none => (e0, 17)
  | some s => if hasD s v = true then (strA (bytesOf o s.wd v), 0) else (e0, 1)
def putR (r : ByteArray × Int) : AV := .tup [st r.1, i64 r.2]
theorem wide_wd {n : Int} {s : Span} (h : knownD n = some s) : (s.wd = 1 ∨ s.wd = 2 ∨ s.wd = 4) ∧ s.wide s.wd := by
  rcases known_cases h with ⟨rfl, rfl⟩ | ⟨rfl, rfl⟩ | ⟨rfl, rfl⟩ | ⟨rfl, rfl⟩ | ⟨rfl, rfl⟩ | ⟨rfl, rfl⟩ <;> exact ⟨by decide, by simp [Span.wide, Span.wd]⟩
theorem span_low {n : Int} {s : Span} (h : knownD n = some s) {v : Int} (hv : hasD s v = true) : ¬ v < s.low ∧ ¬ v > s.high ∧ (s.wd = 1 → -128 ≤ v ∧ v < 256) ∧ (s.wd = 2 → -32768 ≤ v ∧ v < 65536) ∧ (s.wd = 4 → -2147483648 ≤ v ∧ v < 4294967296) := by
  simp only [hasD, Bool.and_eq_true, decide_eq_true_eq] at hv
  rcases known_cases h with ⟨rfl, rfl⟩ | ⟨rfl, rfl⟩ | ⟨rfl, rfl⟩ | ⟨rfl, rfl⟩ | ⟨rfl, rfl⟩ | ⟨rfl, rfl⟩ <;> simp [Span.wd] at hv ⊢ <;> omega
theorem put_all (o n v : Int) : Pu 10 [i64 o, i64 n, i64 v] (putR (putD o n v)) := by
  unfold putD
  by_cases h : o ≠ 0 ∧ o ≠ 1
  · rw [if_pos h]; exact put_odd o n v h.1 h.2
  · rw [if_neg h]
    have ho : o = 0 ∨ o = 1 := by omega
    cases hk : knownD n with
    | none => exact put_none o n v ho hk
    | some s =>
      by_cases hv : hasD s v = true
      · simp only [hv, if_true]
        exact put_ok o n v s s.wd ho hk (wide_wd hk).1 (wide_wd hk).2 hv
      · simp only [hv]
        exact put_out o n v s ho hk (by simpa using hv)
theorem rput_odd (o n v : Int) (h0 : ¬ o = 0) (h1 : ¬ o = 1) : Pu 13 [i64 o, i64 n, i64 v] (putR (e0, 10)) := by
  exact pure_of (hs := hint [((1,2), {val := some (bl (true))}), ((1,5), {val := some (bl (true))})]) (ps := [bl (o != (0 : Int)) = bl (true), bl (o != (1 : Int)) = bl (true)]) (by kernel_rfl) ⟨(bvT (by (simp; omega))), (bvT (by (simp; omega))), trivial⟩
theorem rput_none (o n v : Int) (h0 : o = 0 ∨ o = 1) (h : knownD n = none) : Pu 13 [i64 o, i64 n, i64 v] (putR (e0, 17)) := by
  rcases h0 with rfl | rfl
  · exact pure_of (hs := hint [((3,1), {call := some (i64 (0 : Int))})]) (ps := [_]) (by kernel_rfl) ⟨(rsize_none h), trivial⟩
  · exact pure_of (hs := hint [((3,1), {call := some (i64 (0 : Int))})]) (ps := [_]) (by kernel_rfl) ⟨(rsize_none h), trivial⟩
theorem rput_out (o n v : Int) (s : Span) (h0 : o = 0 ∨ o = 1) (h : knownD n = some s) (hv : ¬ hasD s v = true) : Pu 13 [i64 o, i64 n, i64 v] (putR (e0, 1)) := by
  have hw := wide_wd h
  have hx : ¬ (s.low ≤ v ∧ v ≤ s.high) := fun q => hv (by simp [hasD, q.1, q.2])
  have hn : ¬ (s.wd : Int) = 0 := by rcases hw.1 with e | e | e <;> rw [e] <;> decide
  rcases h0 with rfl | rfl
  · by_cases h1 : v < s.low
    · exact pure_of (hs := hint [((3,1), {call := some (i64 (↑s.wd : Int))}), ((4,1), {val := some (bl (false))}), ((6,2), {call := some (i64 s.low)}), ((6,4), {val := some (bl (true))})]) (ps := [_, bl ((↑s.wd : Int) == (0 : Int)) = bl (false), _, bl (decide (v < s.low)) = bl (true)]) (by kernel_rfl) ⟨(rsize_ok h hw.2), (beF (by assumption)), (rleast_ok h), (bdT h1), trivial⟩
    · exact pure_of (hs := hint [((3,1), {call := some (i64 (↑s.wd : Int))}), ((4,1), {val := some (bl (false))}), ((6,2), {call := some (i64 s.low)}), ((6,4), {val := some (bl (false))}), ((6,7), {call := some (i64 s.high)}), ((6,9), {val := some (bl (true))})]) (ps := [_, bl ((↑s.wd : Int) == (0 : Int)) = bl (false), _, bl (decide (v < s.low)) = bl (false), _, bl (decide (v > s.high)) = bl (true)]) (by kernel_rfl) ⟨(rsize_ok h hw.2), (beF (by assumption)), (rleast_ok h), (bdF h1), (rmost_ok h), (bdT (by omega)), trivial⟩
  · by_cases h1 : v < s.low
    · exact pure_of (hs := hint [((3,1), {call := some (i64 (↑s.wd : Int))}), ((4,1), {val := some (bl (false))}), ((6,2), {call := some (i64 s.low)}), ((6,4), {val := some (bl (true))})]) (ps := [_, bl ((↑s.wd : Int) == (0 : Int)) = bl (false), _, bl (decide (v < s.low)) = bl (true)]) (by kernel_rfl) ⟨(rsize_ok h hw.2), (beF (by assumption)), (rleast_ok h), (bdT h1), trivial⟩
    · exact pure_of (hs := hint [((3,1), {call := some (i64 (↑s.wd : Int))}), ((4,1), {val := some (bl (false))}), ((6,2), {call := some (i64 s.low)}), ((6,4), {val := some (bl (false))}), ((6,7), {call := some (i64 s.high)}), ((6,9), {val := some (bl (true))})]) (ps := [_, bl ((↑s.wd : Int) == (0 : Int)) = bl (false), _, bl (decide (v < s.low)) = bl (false), _, bl (decide (v > s.high)) = bl (true)]) (by kernel_rfl) ⟨(rsize_ok h hw.2), (beF (by assumption)), (rleast_ok h), (bdF h1), (rmost_ok h), (bdT (by omega)), trivial⟩
theorem rput_all (o n v : Int) : Pu 13 [i64 o, i64 n, i64 v] (putR (putD o n v)) := by
  unfold putD
  by_cases h : o ≠ 0 ∧ o ≠ 1
  · rw [if_pos h]; exact rput_odd o n v h.1 h.2
  · rw [if_neg h]
    have ho : o = 0 ∨ o = 1 := by omega
    cases hk : knownD n with
    | none => exact rput_none o n v ho hk
    | some s =>
      by_cases hv : hasD s v = true
      · simp only [hv, if_true]
        obtain ⟨a, b, c1, c2, c4⟩ := span_low hk hv
        obtain ⟨h3, hw⟩ := wide_wd hk
        rcases h3 with e | e | e <;> rw [e] at hw ⊢
        · have := c1 e
          by_cases h0 : v < 0
          · rcases ho with rfl | rfl
            · exact rput_0_1_n n v s hk hw h0 (by omega) a b
            · exact rput_1_1_n n v s hk hw h0 (by omega) a b
          · rcases ho with rfl | rfl
            · exact rput_0_1_p n v s hk hw h0 (by omega) a b
            · exact rput_1_1_p n v s hk hw h0 (by omega) a b
        · have := c2 e
          by_cases h0 : v < 0
          · rcases ho with rfl | rfl
            · exact rput_0_2_n n v s hk hw h0 (by omega) a b
            · exact rput_1_2_n n v s hk hw h0 (by omega) a b
          · rcases ho with rfl | rfl
            · exact rput_0_2_p n v s hk hw h0 (by omega) a b
            · exact rput_1_2_p n v s hk hw h0 (by omega) a b
        · have := c4 e
          by_cases h0 : v < 0
          · rcases ho with rfl | rfl
            · exact rput_0_4_n n v s hk hw h0 (by omega) a b
            · exact rput_1_4_n n v s hk hw h0 (by omega) a b
          · rcases ho with rfl | rfl
            · exact rput_0_4_p n v s hk hw h0 (by omega) a b
            · exact rput_1_4_p n v s hk hw h0 (by omega) a b
      · simp only [hv]
        exact rput_out o n v s ho hk hv
end Go.Proofs.YtjjmidhpilmnbaaDoor
