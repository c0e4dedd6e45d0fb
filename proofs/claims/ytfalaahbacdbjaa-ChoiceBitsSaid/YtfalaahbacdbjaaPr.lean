/- Set, by the document. By the prover of this seat. -/
import Derived.Test.YtfalaahbacdbjaaPq
set_option linter.unusedVariables false
set_option linter.unusedSimpArgs false
set_option maxRecDepth 100000
set_option maxHeartbeats 4000000
namespace Go.Proofs.Ytfalaahbacdbjaa
open Go.RowKit Go.Pm
theorem hasN_4 (v : Nat) (hv : v < 8192) : hasN v 4 = decide (v &&& 4 ≠ 0) := hasN_eq v 4 hv
theorem rs_any (l : List Row) (hr : ∀ r ∈ l, r.m ≤ 8191) (hl : l.length ≤ 1000000) (c id : Int) (n : Nat) (hn : n ≤ 8191) (k : Nat) (hk : k < 8) : (¬ clashB l c id n (nth k8 k) = true → Tri C0 rsB (rsS l c id n k) .normal (rsS l c id n (k + 1))) ∧ (clashB l c id n (nth k8 k) = true → LoopT C0 rsB (rsS l c id n k) .ret (rsH l)) := by
  rw [k8_nth k hk]
  have hM := mask_ok l ((k : Int) + 1) id hl
  have hle := maskR_le hr ((k : Int) + 1) id
  unfold clashB
  generalize maskR l ((k : Int) + 1) id = v at hM hle
  by_cases hc : (k : Int) + 1 = c
  · refine ⟨fun _ => rs_same l c id n v k hk hc hM, fun q => ?_⟩
    rw [decide_eq_false (fun p => p hc)] at q
    cases q
  · rw [decide_eq_true hc, Bool.true_and, decide_eq_true_eq, clash_bits]
    have H1 : Pu 27 [i64 v, i64 2048] (bl (decide (v &&& 2048 ≠ 0))) := by have := has_ok v 2048 (by omega) (by omega); rw [hasN_eq v 2048 (by omega)] at this; exact this
    have H2 : Pu 27 [i64 n, i64 2048] (bl (decide (n &&& 2048 ≠ 0))) := by have := has_ok n 2048 (by omega) (by omega); rw [hasN_eq n 2048 (by omega)] at this; exact this
    have H3 : Pu 27 [i64 v, i64 4] (bl (decide (v &&& 4 ≠ 0))) := by have := has_ok v 4 (by omega) (by omega); rw [hasN_eq v 4 (by omega)] at this; exact this
    have H4 : Pu 27 [i64 n, i64 4] (bl (decide (n &&& 4 ≠ 0))) := by have := has_ok n 4 (by omega) (by omega); rw [hasN_eq n 4 (by omega)] at this; exact this
    by_cases h1 : v &&& 2048 ≠ 0 <;> by_cases h2 : n &&& 2048 ≠ 0 <;> by_cases h3 : v &&& 4 ≠ 0 <;> by_cases h4 : n &&& 4 ≠ 0 <;> (first | rw [decide_eq_true h1] at H1 | rw [decide_eq_false h1] at H1) <;> (first | rw [decide_eq_true h2] at H2 | rw [decide_eq_false h2] at H2) <;> (first | rw [decide_eq_true h3] at H3 | rw [decide_eq_false h3] at H3) <;> (first | rw [decide_eq_true h4] at H4 | rw [decide_eq_false h4] at H4)
    · exact ⟨fun q => absurd (by first | exact .inl ⟨h1, h2⟩ | exact .inr ⟨h3, h4⟩) q, fun _ => rs_15 l c id n v k hk hc hM H1 H2 H3 H4⟩
    · exact ⟨fun q => absurd (by first | exact .inl ⟨h1, h2⟩ | exact .inr ⟨h3, h4⟩) q, fun _ => rs_7 l c id n v k hk hc hM H1 H2 H3 H4⟩
    · exact ⟨fun q => absurd (by first | exact .inl ⟨h1, h2⟩ | exact .inr ⟨h3, h4⟩) q, fun _ => rs_11 l c id n v k hk hc hM H1 H2 H3 H4⟩
    · exact ⟨fun q => absurd (by first | exact .inl ⟨h1, h2⟩ | exact .inr ⟨h3, h4⟩) q, fun _ => rs_3 l c id n v k hk hc hM H1 H2 H3 H4⟩
    · exact ⟨fun q => absurd (by first | exact .inl ⟨h1, h2⟩ | exact .inr ⟨h3, h4⟩) q, fun _ => rs_13 l c id n v k hk hc hM H1 H2 H3 H4⟩
    · exact ⟨fun _ => rs_5 l c id n v k hk hc hM H1 H2 H3 H4, fun q => by rcases q with q | q <;> first | exact absurd q.1 h1 | exact absurd q.2 h2 | exact absurd q.1 h3 | exact absurd q.2 h4⟩
    · exact ⟨fun _ => rs_9 l c id n v k hk hc hM H1 H2 H3 H4, fun q => by rcases q with q | q <;> first | exact absurd q.1 h1 | exact absurd q.2 h2 | exact absurd q.1 h3 | exact absurd q.2 h4⟩
    · exact ⟨fun _ => rs_1 l c id n v k hk hc hM H1 H2 H3 H4, fun q => by rcases q with q | q <;> first | exact absurd q.1 h1 | exact absurd q.2 h2 | exact absurd q.1 h3 | exact absurd q.2 h4⟩
    · exact ⟨fun q => absurd (by first | exact .inl ⟨h1, h2⟩ | exact .inr ⟨h3, h4⟩) q, fun _ => rs_14 l c id n v k hk hc hM H1 H2 H3 H4⟩
    · exact ⟨fun _ => rs_6 l c id n v k hk hc hM H1 H2 H3 H4, fun q => by rcases q with q | q <;> first | exact absurd q.1 h1 | exact absurd q.2 h2 | exact absurd q.1 h3 | exact absurd q.2 h4⟩
    · exact ⟨fun _ => rs_10 l c id n v k hk hc hM H1 H2 H3 H4, fun q => by rcases q with q | q <;> first | exact absurd q.1 h1 | exact absurd q.2 h2 | exact absurd q.1 h3 | exact absurd q.2 h4⟩
    · exact ⟨fun _ => rs_2 l c id n v k hk hc hM H1 H2 H3 H4, fun q => by rcases q with q | q <;> first | exact absurd q.1 h1 | exact absurd q.2 h2 | exact absurd q.1 h3 | exact absurd q.2 h4⟩
    · exact ⟨fun q => absurd (by first | exact .inl ⟨h1, h2⟩ | exact .inr ⟨h3, h4⟩) q, fun _ => rs_12 l c id n v k hk hc hM H1 H2 H3 H4⟩
    · exact ⟨fun _ => rs_4 l c id n v k hk hc hM H1 H2 H3 H4, fun q => by rcases q with q | q <;> first | exact absurd q.1 h1 | exact absurd q.2 h2 | exact absurd q.1 h3 | exact absurd q.2 h4⟩
    · exact ⟨fun _ => rs_8 l c id n v k hk hc hM H1 H2 H3 H4, fun q => by rcases q with q | q <;> first | exact absurd q.1 h1 | exact absurd q.2 h2 | exact absurd q.1 h3 | exact absurd q.2 h4⟩
    · exact ⟨fun _ => rs_0 l c id n v k hk hc hM H1 H2 H3 H4, fun q => by rcases q with q | q <;> first | exact absurd q.1 h1 | exact absurd q.2 h2 | exact absurd q.1 h3 | exact absurd q.2 h4⟩
theorem rset_b1 (l : List Row) (c id m : Int) (hc : c < 1 ∨ c > 8) : Pu 24 [slR l, i64 c, u32 id, i64 m] (outR l 1) := by
  by_cases h : c < 1
  · exact pure_of (hs := hint [((1,2), {val := some (bl (true))})]) (ps := [bl (decide (c < (1 : Int))) = bl (true)]) (by kernel_rfl) ⟨(bdT (by assumption)), trivial⟩
  · exact pure_of (hs := hint [((1,2), {val := some (bl (false))}), ((1,5), {val := some (bl (true))})]) (ps := [bl (decide (c < (1 : Int))) = bl (false), bl (decide (c > (8 : Int))) = bl (true)]) (by kernel_rfl) ⟨(bdF (by assumption)), (bdT (by omega)), trivial⟩
theorem rset_b2 (l : List Row) (c m : Int) (h1 : 1 ≤ c) (h8 : c ≤ 8) : Pu 24 [slR l, i64 c, u32 0, i64 m] (outR l 6) := by
  exact pure_of (hs := hint [((1,2), {val := some (bl (false))}), ((1,5), {val := some (bl (false))})]) (ps := [bl (decide (c < (1 : Int))) = bl (false), bl (decide (c > (8 : Int))) = bl (false)]) (by kernel_rfl) ⟨(bdF (by omega)), (bdF (by omega)), trivial⟩
theorem rset_b3 (l : List Row) (c id m : Int) (h1 : 1 ≤ c) (h8 : c ≤ 8) (h0 : id ≠ 0) (hm : ¬ (0 ≤ m ∧ m ≤ 8191)) : Pu 24 [slR l, i64 c, u32 id, i64 m] (outR l 22) := by
  by_cases h : m < 0
  · exact pure_of (hs := hint [((1,2), {val := some (bl (false))}), ((1,5), {val := some (bl (false))}), ((3,1), {val := some (bl (false))}), ((5,2), {val := some (bl (true))})]) (ps := [bl (decide (c < (1 : Int))) = bl (false), bl (decide (c > (8 : Int))) = bl (false), bl (id == (0 : Int)) = bl (false), bl (decide (m < (0 : Int))) = bl (true)]) (by kernel_rfl) ⟨(bdF (by omega)), (bdF (by omega)), (beF (by assumption)), (bdT (by assumption)), trivial⟩
  · exact pure_of (hs := hint [((1,2), {val := some (bl (false))}), ((1,5), {val := some (bl (false))}), ((3,1), {val := some (bl (false))}), ((5,2), {val := some (bl (false))}), ((5,5), {val := some (bl (true))})]) (ps := [bl (decide (c < (1 : Int))) = bl (false), bl (decide (c > (8 : Int))) = bl (false), bl (id == (0 : Int)) = bl (false), bl (decide (m < (0 : Int))) = bl (false), bl (decide (m > (8191 : Int))) = bl (true)]) (by kernel_rfl) ⟨(bdF (by omega)), (bdF (by omega)), (beF (by assumption)), (bdF (by assumption)), (bdT (by omega)), trivial⟩
theorem rset_b4 (l : List Row) (c id m : Int) (h1 : 1 ≤ c) (h8 : c ≤ 8) (h0 : id ≠ 0) (hm : 0 ≤ m ∧ m ≤ 8191) (L : LoopT C0 rsB (rsS l c id m 0) .ret (rsH l)) : Pu 24 [slR l, i64 c, u32 id, i64 m] (outR l 15) := by
  exact pure_of (hs := hint [((1,2), {val := some (bl (false))}), ((1,5), {val := some (bl (false))}), ((3,1), {val := some (bl (false))}), ((5,2), {val := some (bl (false))}), ((5,5), {val := some (bl (false))}), ((8,1000), {loop := some ({ ks := [0, 1, 2, 3, 10] }, rsS l c id m (0 : Nat), Ex.ret, rsH l)})]) (ps := [bl (decide (c < (1 : Int))) = bl (false), bl (decide (c > (8 : Int))) = bl (false), bl (id == (0 : Int)) = bl (false), bl (decide (m < (0 : Int))) = bl (false), bl (decide (m > (8191 : Int))) = bl (false), rsS l c id m (0 : Nat) = rsS l c id m (0 : Nat), _, true = true]) (by kernel_rfl) ⟨(bdF (by omega)), (bdF (by omega)), (beF (by assumption)), (bdF (by omega)), (bdF (by omega)), rfl, L, rfl, trivial⟩
theorem rset_b5 (l l' : List Row) (c id m : Int) (h1 : 1 ≤ c) (h8 : c ≤ 8) (h0 : id ≠ 0) (hm : 0 ≤ m ∧ m ≤ 8191) (L : LoopT C0 rsB (rsS l c id m 0) (.exit 0) (rsS l c id m 8)) (hP : Pu 35 [slR l, A [i64 c, u32 id, i64 m]] (slR l')) : Pu 24 [slR l, i64 c, u32 id, i64 m] (outR l' 0) := by
  exact pure_of (hs := hint [((1,2), {val := some (bl (false))}), ((1,5), {val := some (bl (false))}), ((3,1), {val := some (bl (false))}), ((5,2), {val := some (bl (false))}), ((5,5), {val := some (bl (false))}), ((8,1000), {loop := some ({ ks := [0, 1, 2, 3, 10] }, rsS l c id m (0 : Nat), Ex.exit (0 : Nat), rsS l c id m (8 : Nat))}), ((13,5), {call := some ((slR l'))})]) (ps := [bl (decide (c < (1 : Int))) = bl (false), bl (decide (c > (8 : Int))) = bl (false), bl (id == (0 : Int)) = bl (false), bl (decide (m < (0 : Int))) = bl (false), bl (decide (m > (8191 : Int))) = bl (false), rsS l c id m (0 : Nat) = rsS l c id m (0 : Nat), _, true = true, _]) (by kernel_rfl) ⟨(bdF (by omega)), (bdF (by omega)), (beF (by assumption)), (bdF (by omega)), (bdF (by omega)), rfl, L, rfl, (hP), trivial⟩
theorem rset_ok (l : List Row) (hr : ∀ r ∈ l, r.m ≤ 8191) (hl : l.length ≤ 1000000) (c id m : Int) : Pu 24 [slR l, i64 c, u32 id, i64 m] (outR (setD l c id m).1 (setD l c id m).2) := by
  unfold setD
  by_cases hc : c < 1 ∨ c > 8
  · rw [if_pos hc]; exact rset_b1 l c id m hc
  · rw [if_neg hc]
    by_cases h0 : id = 0
    · rw [if_pos h0, h0]; exact rset_b2 l c m (by omega) (by omega)
    · rw [if_neg h0]
      by_cases hm : 0 ≤ m ∧ m ≤ 8191
      · rw [if_neg (fun q => q hm)]
        obtain ⟨n, rfl⟩ : ∃ n : Nat, m = (n : Int) := ⟨m.toNat, by omega⟩
        rw [Int.toNat_natCast]
        have st := rs_any l hr hl c id n (by omega)
        cases hk : idxD (clashB l c id n) k8 with
        | some j =>
          obtain ⟨p1, p2, p3⟩ := idx_some hk
          have p1 : j < 8 := p1
          rw [if_pos (show (some j).isSome = true from rfl)]
          exact rset_b4 l c id n (by omega) (by omega) h0 hm (LoopT.count (rsS l c id n) j (fun i hi => (st i (by omega)).1 (p3 i hi)) ((st j p1).2 p2) 0 (by omega))
        | none =>
          have p3 := idx_none hk
          rw [if_neg (by simp)]
          exact rset_b5 l _ c id n (by omega) (by omega) h0 hm (LoopT.count (rsS l c id n) 8 (fun i hi => (st i hi).1 (p3 i hi)) (rs_end l c id n) 0 (by omega)) (put_ok l ⟨c, id, n⟩ hl)
      · rw [if_pos hm]
        exact rset_b3 l c id m (by omega) (by omega) h0 hm
end Go.Proofs.Ytfalaahbacdbjaa
