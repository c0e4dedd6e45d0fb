/- Whether a band goes on, by the program. By the prover of this seat. -/
import Derived.Test.YtcnlgdbmcdlknaaDc
set_option linter.unusedVariables false
set_option linter.unusedSimpArgs false
set_option maxRecDepth 100000
set_option maxHeartbeats 4000000
namespace Go.Proofs.Ytcnlgdbmcdlknaa.Bn
open Go.RowKit Go.Pm
theorem sameF_ok (a b : Rc) (hs : Sm a) : PT 51 [A (eR a), A (eR b)] (bl (sameB a b)) := by
  obtain ⟨s0, s1, s2, s3, s4, s5, s6, s7⟩ := hs
  unfold sameB
  by_cases h1 : a.x = b.x
  · by_cases h2 : a.w = b.w
    · by_cases h3 : a.y + a.h = b.y
      · rw [decide_t h1, decide_t h2, decide_t h3]
        exact pure_cast (pure_of (hs := hint [((1,5), {val := some (bl (true))}), ((1,12), {val := some (bl (true))}), ((1,17), {val := some (i64 (a.y + a.h))})]) (r := bl (a.y + a.h == b.y)) (ps := [bl (a.x == b.x) = bl (true), bl (a.w == b.w) = bl (true), i64 (IntKind.i64.wrap (a.y + a.h)) = i64 (a.y + a.h)]) (by kernel_rfl) ⟨(beT (by assumption)), (beT (by assumption)), (intE (by exact wrap_i64 (by omega) (by omega))), trivial⟩) (by (simp; omega))
      · rw [decide_t h1, decide_t h2, decide_eq_false h3]
        exact pure_cast (pure_of (hs := hint [((1,5), {val := some (bl (true))}), ((1,12), {val := some (bl (true))}), ((1,17), {val := some (i64 (a.y + a.h))})]) (r := bl (a.y + a.h == b.y)) (ps := [bl (a.x == b.x) = bl (true), bl (a.w == b.w) = bl (true), i64 (IntKind.i64.wrap (a.y + a.h)) = i64 (a.y + a.h)]) (by kernel_rfl) ⟨(beT (by assumption)), (beT (by assumption)), (intE (by exact wrap_i64 (by omega) (by omega))), trivial⟩) (by (simp; omega))
    · rw [decide_t h1, decide_eq_false h2]
      simp only [Bool.true_and, Bool.false_and]
      exact pure_of (hs := hint [((1,5), {val := some (bl (true))}), ((1,12), {val := some (bl (false))})]) (ps := [bl (a.x == b.x) = bl (true), bl (a.w == b.w) = bl (false)]) (by kernel_rfl) ⟨(beT (by assumption)), (beF (by assumption)), trivial⟩
  · rw [decide_eq_false h1]
    simp only [Bool.false_and]
    exact pure_of (hs := hint [((1,5), {val := some (bl (false))})]) (ps := [bl (a.x == b.x) = bl (false)]) (by kernel_rfl) ⟨(beF (by assumption)), trivial⟩
noncomputable def C1 : Cx := ⟨Try.prog, G0, 1⟩
noncomputable def efB : Code := loopOf Try.prog 50 4
abbrev fnS : AV := .fn (.func 51) [] []
abbrev efH (N : Nat) (o : List Rc) : List Bk := [.arr N (o.flatMap eR) 0]
def efS (N : Nat) (o : List Rc) (p n q m : Nat) (k : Nat) : St := ⟨mkT 32 [(0, .osl 0 (p * 4) n 4), (1, .osl 0 (q * 4) m 4), (2, fnS), (15, .osl 0 (p * 4) n 4), (16, i64 (n : Int)), (17, i64 (k : Int))], efH N o⟩
def efE (N : Nat) (o : List Rc) : St := ⟨mkT 32 [(6, bl false)], efH N o⟩
theorem ef_yes (N : Nat) (o : List Rc) (p n q m k : Nat) (hk : k < n) (hm : n = m) (hp : p + n ≤ o.length) (hq : q + m ≤ o.length) (hl : o.length ≤ 1000000) (hc : PT 51 [A (eR (nth o (p + k))), A (eR (nth o (q + k)))] (bl true)) : Tri C1 efB (efS N o p n q m k) .normal (efS N o p n q m (k + 1)) := by
  have e1 : (List.drop (p * 4 + (k : Int).toNat * 4) (List.flatMap eR o)).take 4 = eR (nth o (p + k)) := by rw [Int.toNat_natCast, ← Nat.add_mul]; exact row_rc o (p + k) (by omega)
  have e2 : (List.drop (q * 4 + (k : Int).toNat * 4) (List.flatMap eR o)).take 4 = eR (nth o (q + k)) := by rw [Int.toNat_natCast, ← Nat.add_mul]; exact row_rc o (q + k) (by omega)
  exact runF_ok (hs := hint [((4,0), {val := some (bl (true))}), ((5,1), {sym := true}), ((5,2), { sym := true, cells := some (eR (nth o (p + k))) }), ((6,2), {sym := true}), ((6,3), { sym := true, cells := some (eR (nth o (q + k))) }), ((7,3), {call := some ((bl true))}), ((9,0), {val := some (i64 ((↑k : Int) + (1 : Int)))})]) (f := { ks := [0, 1, 2, 15, 16, 17], l := [0] }) (ps := [bl (decide ((↑k : Int) < (↑n : Int))) = bl (true), decide ((0 : Int) ≤ (↑k : Int) ∧ (↑k : Int) < (↑n : Int)) = true, ((List.take (4 : Nat) (List.drop (p * (4 : Nat) + (↑k : Int).toNat * (4 : Nat)) (List.flatMap eR o))) : List AV) = [i64 ((nth o (p + k)).x), i64 ((nth o (p + k)).y), i64 ((nth o (p + k)).w), i64 ((nth o (p + k)).h)], decide ((0 : Int) ≤ (↑k : Int) ∧ (↑k : Int) < (↑m : Int)) = true, ((List.take (4 : Nat) (List.drop (q * (4 : Nat) + (↑k : Int).toNat * (4 : Nat)) (List.flatMap eR o))) : List AV) = [i64 ((nth o (q + k)).x), i64 ((nth o (q + k)).y), i64 ((nth o (q + k)).w), i64 ((nth o (q + k)).h)], _, i64 (IntKind.i64.wrap ((↑k : Int) + (1 : Int))) = i64 ((↑k : Int) + (1 : Int)), true = true, pureB (Bk.arr N (List.flatMap eR o) (0 : Fz)) = true]) (by kernel_rfl) ⟨(bdT (by omega)), (by exact decide_t (by omega)), (by (first | exact e1 | exact decide_t (by omega))), (by exact decide_t (by omega)), (by (first | exact e2 | exact decide_t (by omega))), (hc), (intE (by exact wrap_i64 (by omega) (by omega))), rfl, (by exact pr _ _ _), trivial⟩
theorem ef_no (N : Nat) (o : List Rc) (p n q m k : Nat) (hk : k < n) (hm : n = m) (hp : p + n ≤ o.length) (hq : q + m ≤ o.length) (hl : o.length ≤ 1000000) (hc : PT 51 [A (eR (nth o (p + k))), A (eR (nth o (q + k)))] (bl false)) : LoopT C1 efB (efS N o p n q m k) .ret (efE N o) := by
  have e1 : (List.drop (p * 4 + (k : Int).toNat * 4) (List.flatMap eR o)).take 4 = eR (nth o (p + k)) := by rw [Int.toNat_natCast, ← Nat.add_mul]; exact row_rc o (p + k) (by omega)
  have e2 : (List.drop (q * 4 + (k : Int).toNat * 4) (List.flatMap eR o)).take 4 = eR (nth o (q + k)) := by rw [Int.toNat_natCast, ← Nat.add_mul]; exact row_rc o (q + k) (by omega)
  exact LoopT.fin (hs := hint [((4,0), {val := some (bl (true))}), ((5,1), {sym := true}), ((5,2), { sym := true, cells := some (eR (nth o (p + k))) }), ((6,2), {sym := true}), ((6,3), { sym := true, cells := some (eR (nth o (q + k))) }), ((7,3), {call := some ((bl false))})]) (f := { ks := [6], l := [0] }) (ps := [bl (decide ((↑k : Int) < (↑n : Int))) = bl (true), decide ((0 : Int) ≤ (↑k : Int) ∧ (↑k : Int) < (↑n : Int)) = true, ((List.take (4 : Nat) (List.drop (p * (4 : Nat) + (↑k : Int).toNat * (4 : Nat)) (List.flatMap eR o))) : List AV) = [i64 ((nth o (p + k)).x), i64 ((nth o (p + k)).y), i64 ((nth o (p + k)).w), i64 ((nth o (p + k)).h)], decide ((0 : Int) ≤ (↑k : Int) ∧ (↑k : Int) < (↑m : Int)) = true, ((List.take (4 : Nat) (List.drop (q * (4 : Nat) + (↑k : Int).toNat * (4 : Nat)) (List.flatMap eR o))) : List AV) = [i64 ((nth o (q + k)).x), i64 ((nth o (q + k)).y), i64 ((nth o (q + k)).w), i64 ((nth o (q + k)).h)], _, true = true, pureB (Bk.arr N (List.flatMap eR o) (0 : Fz)) = true]) (by kernel_rfl) ⟨(bdT (by omega)), (by exact decide_t (by omega)), (by (first | exact e1 | exact decide_t (by omega))), (by exact decide_t (by omega)), (by (first | exact e2 | exact decide_t (by omega))), (hc), rfl, (by exact pr _ _ _), trivial⟩ (by decide)
theorem ef_end (N : Nat) (o : List Rc) (p n q m : Nat) : LoopT C1 efB (efS N o p n q m n) (.exit 0) (efS N o p n q m n) := by
  exact LoopT.fin (hs := hint [((4,0), {val := some (bl (false))})]) (f := { ks := [0, 1, 2, 15, 16, 17], l := [0] }) (ps := [bl (decide ((↑n : Int) < (↑n : Int))) = bl (false), true = true, pureB (Bk.arr N (List.flatMap eR o) (0 : Fz)) = true]) (by kernel_rfl) ⟨(bdF (by omega)), rfl, (by exact pr _ _ _), trivial⟩ (by decide)
theorem ef_len (N : Nat) (o : List Rc) (p n q m : Nat) (h : ¬ n = m) : CallH Try.prog G0 50 [.osl 0 (p * 4) n 4, .osl 0 (q * 4) m 4, fnS] (efH N o) (bl false) (efH N o) := by
  exact (fnRun_ok (hs := hint [((1,4), {val := some (bl (true))})]) (ps := [bl ((↑n : Int) != (↑m : Int)) = bl (true)]) (by kernel_rfl) ⟨(neF (by omega)), trivial⟩).1
theorem ef_f (N : Nat) (o : List Rc) (p n q m : Nat) (h : n = m) (L : LoopT C1 efB (efS N o p n q m 0) .ret (efE N o)) : CallH Try.prog G0 50 [.osl 0 (p * 4) n 4, .osl 0 (q * 4) m 4, fnS] (efH N o) (bl false) (efH N o) := by
  exact (fnRun_ok (hs := hint [((1,4), {val := some (bl (false))}), ((4,1000), {loop := some ({ ks := [0, 1, 2, 15, 16, 17], l := [0] }, efS N o p n q m (0 : Nat), Ex.ret, efE N o)})]) (ps := [bl ((↑n : Int) != (↑m : Int)) = bl (false), efS N o p n q m (0 : Nat) = efS N o p n q m (0 : Nat), _, true = true, pureB (Bk.arr N (List.flatMap eR o) (0 : Fz)) = true]) (by kernel_rfl) ⟨(neT (by omega)), rfl, L, rfl, (by exact pr _ _ _), trivial⟩).1
theorem ef_t (N : Nat) (o : List Rc) (p n q m : Nat) (h : n = m) (L : LoopT C1 efB (efS N o p n q m 0) (.exit 0) (efS N o p n q m n)) : CallH Try.prog G0 50 [.osl 0 (p * 4) n 4, .osl 0 (q * 4) m 4, fnS] (efH N o) (bl true) (efH N o) := by
  exact (fnRun_ok (hs := hint [((1,4), {val := some (bl (false))}), ((4,1000), {loop := some ({ ks := [0, 1, 2, 15, 16, 17], l := [0] }, efS N o p n q m (0 : Nat), Ex.exit (0 : Nat), efS N o p n q m n)})]) (ps := [bl ((↑n : Int) != (↑m : Int)) = bl (false), efS N o p n q m (0 : Nat) = efS N o p n q m (0 : Nat), _, true = true, pureB (Bk.arr N (List.flatMap eR o) (0 : Fz)) = true]) (by kernel_rfl) ⟨(neT (by omega)), rfl, L, rfl, (by exact pr _ _ _), trivial⟩).1
theorem al_0 (N : Nat) (o : List Rc) (p q m : Nat) : CallH Try.prog G0 27 [.osl 0 (p * 4) 0 4, .osl 0 (q * 4) m 4] (efH N o) (bl false) (efH N o) := by
  exact (fnRun_ok (hs := hint []) (ps := []) (by kernel_rfl) trivial).1
theorem al_1 (N : Nat) (o : List Rc) (p n q m : Nat) (h : 0 < n) (b : Bool) (hE : CallH Try.prog G0 50 [.osl 0 (p * 4) n 4, .osl 0 (q * 4) m 4, fnS] (efH N o) (bl b) (efH N o)) : CallH Try.prog G0 27 [.osl 0 (p * 4) n 4, .osl 0 (q * 4) m 4] (efH N o) (bl b) (efH N o) := by
  exact (fnRun_ok (hs := hint [((1,3), {val := some (bl (true))}), ((1,6), {heap := some ((bl b), efH N o)})]) (ps := [bl (decide ((↑n : Int) > (0 : Int))) = bl (true), _, [Bk.arr N (List.flatMap eR o) (0 : Fz)].length ≤ [Bk.arr N (List.flatMap eR o) (0 : Fz)].length]) (by kernel_rfl) ⟨(bdT (by omega)), (hE), (by (simp; done)), trivial⟩).1
theorem all2_iff : ∀ (l k : List Rc), all2 l k = true ↔ l.length = k.length ∧ ∀ i, i < l.length → sameB (nth l i) (nth k i) = true
  | [], [] => by simp [all2]
  | [], q :: t => by simp [all2]
  | p :: s, [] => by simp [all2]
  | p :: s, q :: t => by
    rw [all2, Bool.and_eq_true, all2_iff s t]
    constructor
    · rintro ⟨h1, h2, h3⟩
      refine ⟨by simp [h2], fun i hi => ?_⟩
      cases i with
      | zero => exact h1
      | succ i => exact h3 i (by simpa using hi)
    · rintro ⟨h1, h2⟩
      exact ⟨h2 0 (by simp), by simpa using h1, fun i hi => h2 (i + 1) (by simpa using hi)⟩
theorem nth_rg {n k : Nat} (h : k < n) : nth (List.range n) k = k := by rw [nth_eq (by rw [List.length_range]; exact h), List.getElem_range]
theorem nth_part (o : List Rc) (p n i : Nat) (hi : i < n) (h : p + n ≤ o.length) : nth ((o.drop p).take n) i = nth o (p + i) := by
  rw [nth_eq (by rw [List.length_take, List.length_drop]; omega), nth_eq (by omega)]
  simp
theorem alike_ok (N : Nat) (o : List Rc) (p n q m : Nat) (hp : p + n ≤ o.length) (hq : q + m ≤ o.length) (hl : o.length ≤ 1000000) (hs : ∀ r ∈ o, Sm r) : CallH Try.prog G0 27 [.osl 0 (p * 4) n 4, .osl 0 (q * 4) m 4] (efH N o) (bl (alikeD ((o.drop p).take n) ((o.drop q).take m))) (efH N o) := by
  have l1 : ((o.drop p).take n).length = n := by rw [List.length_take, List.length_drop]; omega
  have l2 : ((o.drop q).take m).length = m := by rw [List.length_take, List.length_drop]; omega
  have hi := all2_iff ((o.drop p).take n) ((o.drop q).take m)
  rw [l1, l2] at hi
  unfold alikeD
  rw [l1]
  by_cases h0 : 0 < n
  · rw [decide_eq_true h0, Bool.true_and]
    have hc : ∀ k, k < n → k < m → PT 51 [A (eR (nth o (p + k))), A (eR (nth o (q + k)))] (bl (sameB (nth o (p + k)) (nth o (q + k)))) := fun k h1 h2 => sameF_ok _ _ (hs _ (nth_mem (by omega)))
    refine al_1 N o p n q m h0 _ ?_
    by_cases hnm : n = m
    · subst hnm
      cases hk : idxD (fun k => !sameB (nth o (p + k)) (nth o (q + k))) (List.range n) with
      | none =>
        have hb := idx_none hk
        have hall : ∀ k, k < n → sameB (nth o (p + k)) (nth o (q + k)) = true := fun k hk => by
          have := hb k (by rw [List.length_range]; exact hk)
          rw [nth_rg hk] at this
          simpa using this
        rw [hi.2 ⟨rfl, fun i h => by rw [nth_part o p n i h hp, nth_part o q n i h hq]; exact hall i h⟩]
        exact ef_t N o p n q n rfl (LoopT.count (efS N o p n q n) n (fun k hk => by have := hc k hk hk; rw [hall k hk] at this; exact ef_yes N o p n q n k hk rfl hp hq hl this) (ef_end N o p n q n) 0 (by omega))
      | some k =>
        obtain ⟨p1, p2, p3⟩ := idx_some hk
        rw [List.length_range] at p1
        have at_ : ∀ j, j < n → nth (List.range n) j = j := fun j hj => nth_rg hj
        rw [at_ k p1] at p2
        have p2' : sameB (nth o (p + k)) (nth o (q + k)) = false := by simpa using p2
        have hne : all2 ((o.drop p).take n) ((o.drop q).take n) = false := by
          rw [← Bool.not_eq_true]
          intro c
          have := (hi.1 c).2 k p1
          rw [nth_part o p n k p1 hp, nth_part o q n k p1 hq, p2'] at this
          cases this
        rw [hne]
        exact ef_f N o p n q n rfl (LoopT.count (efS N o p n q n) k (fun j hj => by
          have h3 := p3 j hj
          rw [at_ j (by omega)] at h3
          have h4 : sameB (nth o (p + j)) (nth o (q + j)) = true := by simpa using h3
          have := hc j (by omega) (by omega); rw [h4] at this; exact ef_yes N o p n q n j (by omega) rfl hp hq hl this) (by have := hc k p1 p1; rw [p2'] at this; exact ef_no N o p n q n k p1 rfl hp hq hl this) 0 (by omega))
    · have hne : all2 ((o.drop p).take n) ((o.drop q).take m) = false := by
        rw [← Bool.not_eq_true]
        intro c
        exact hnm (hi.1 c).1
      rw [hne]
      exact ef_len N o p n q m hnm
  · have : n = 0 := by omega
    subst this
    exact al_0 N o p q m
end Go.Proofs.Ytcnlgdbmcdlknaa.Bn
