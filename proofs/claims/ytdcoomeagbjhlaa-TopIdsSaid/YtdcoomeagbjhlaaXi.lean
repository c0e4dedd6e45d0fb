/- Sorted: as many as before. By the prover of this seat. -/
import Derived.Test.YtdcoomeagbjhlaaXh
set_option linter.unusedVariables false
set_option linter.unusedSimpArgs false
set_option maxRecDepth 100000
set_option maxHeartbeats 4000000
namespace Go.Proofs.Ytdcoomeagbjhlaa
open Go.RowKit Go.Pm
theorem pq_go (n : Nat) (l l' : List Int) (a c m : Nat) (hn : n ≤ 40) (hac : a + c ≤ n) (L : LoopT K1 pqB (pqS n l a (a + c) m true true) .ret (pqE n l')) : CallH Try.prog G0 62 [.osl 0 0 n 1, i64 a, i64 (a + c : Nat), i64 m] [.arr n (l.flatMap eU) 0] (.tup []) [.arr n (l'.flatMap eU) 0] := by
  exact (fnRun_ok (hs := hint [((2,1000), {loop := some ({ ks := [0, 1, 2, 3, 8, 9], l := [0] }, pqS n l a (a + c) m true true, Ex.ret, pqE n l')})]) (ps := [pqS n l a (a + c) m true true = pqS n l a (a + c) m true true, _, true = true, pureB (Bk.arr n (List.flatMap eU l) (0 : Fz)) = true]) (by kernel_rfl) ⟨rfl, L, rfl, (by exact row_pureB (fun _ => rfl) _ _ _), trivial⟩).1
def Sd (n : Nat) (a c m : Nat) (l : List Int) (w x : Bool) : Prop := ∃ l' : List Int, l'.length = n ∧ LoopT K1 pqB (pqS n l a (a + c) m w x) .ret (pqE n l')
theorem pqd_next {n a c m : Nat} {l : List Int} {w x : Bool} {a' c' b' m' : Nat} {l2 : List Int} {w' x' : Bool} (hb : b' = a' + c') (T : Tri K1 pqB (pqS n l a (a + c) m w x) .normal (pqS n l2 a' b' m' w' x')) (h : Sd n a' c' m' l2 w' x') : Sd n a c m l w x := by
  subst hb
  obtain ⟨l', p, q⟩ := h
  exact ⟨l', p, LoopT.next T q⟩
theorem pqd_all (n : Nat) (hn : n ≤ 40) : ∀ (d a c m : Nat) (l : List Int) (w x : Bool), l.length = n → a + c ≤ n → m ≤ 100 → c < d → Sd n a c m l w x := by
  intro d
  induction d with
  | zero => intro a c m l w x hl hac hm hd; omega
  | succ d ih' =>
    intro a c m l w x hl hac hm hd
    have ih : ∀ (a' c' m' : Nat) (l2 : List Int) (w' x' : Bool), l2.length = n → a' + c' ≤ n → m' ≤ 100 → c' < c → Sd n a' c' m' l2 w' x' := fun a' c' m' l2 w' x' g1 g2 g3 g4 => ih' a' c' m' l2 w' x' g1 g2 g3 (by omega)
    have rcr : ∀ (a' c' : Nat) (l2 : List Int) (m' : Nat), l2.length = n → a' + c' ≤ n → m' ≤ 100 → c' < c → ∃ l3 : List Int, l3.length = n ∧ CallH Try.prog G0 62 [.osl 0 0 n 1, i64 a', i64 (a' + c' : Nat), i64 m'] [.arr n (l2.flatMap eU) 0] (.tup []) [.arr n (l3.flatMap eU) 0] := fun a' c' l2 m' g1 g2 g3 g4 => by
      obtain ⟨l3, p1, p2⟩ := ih a' c' m' l2 true true g1 g2 g3 g4
      exact ⟨l3, p1, pq_go n l2 l3 a' c' m' hn g2 p2⟩
    by_cases hc : c ≤ 12
    · obtain ⟨l1, g1, q⟩ := ins_ok n l a (a + c) hl (by omega) (by omega) hac
      exact ⟨l1, g1, rq_small n a c m l l1 hl hn hac hm w x hc q⟩
    have hc : 12 < c := by omega
    by_cases h00 : m = 0
    · obtain ⟨l1, g1, q⟩ := heap_ok n l a (a + c) hl (by omega) (by omega) hac
      exact ⟨l1, g1, rq_heap n a c m l l1 hl hn hac hm w x hc h00 q⟩
    cases w with
    | true =>
      obtain ⟨p, w, p1, p2, p3, q1⟩ := piv_ok n l a (a + c) hl hn (by omega) hac
      cases x with
      | false =>
        by_cases h0 : a = 0
        · obtain ⟨k, y, k1, k2, l2, g2, q3⟩ := pt_ok n l a (a + c) p hl (by omega) (by omega) hac (by omega)
          by_cases hs : k - a < a + c - k
          · obtain ⟨l3, g3, q4⟩ := rcr a (k - a) l2 m g2 (by omega) (by omega) (by omega)
            rw [show a + (k - a) = k by omega] at q4
            exact pqd_next (a' := k + 1) (c' := a + c - (k + 1)) (by omega) (rq_A0l n a c m l l2 l3 hn hac hm hc p w k p3 (by omega) hl (by omega) q1 y h0 hs k1 k2 q3 q4) (ih (k + 1) (a + c - (k + 1)) m l3 _ y g3 (by omega) (by omega) (by omega))
          · obtain ⟨l3, g3, q4⟩ := rcr (k + 1) (a + c - (k + 1)) l2 m g2 (by omega) (by omega) (by omega)
            rw [show k + 1 + (a + c - (k + 1)) = a + c by omega] at q4
            exact pqd_next (a' := a) (c' := k - a) (by omega) (rq_A0r n a c m l l2 l3 hn hac hm hc p w k p3 (by omega) hl (by omega) q1 y h0 hs k1 k2 q3 q4) (ih a (k - a) m l3 _ y g3 (by omega) (by omega) (by omega))
        · by_cases hx : nth l (a - 1) < nth l p
          · obtain ⟨k, y, k1, k2, l2, g2, q3⟩ := pt_ok n l a (a + c) p hl (by omega) (by omega) hac (by omega)
            by_cases hs : k - a < a + c - k
            · obtain ⟨l3, g3, q4⟩ := rcr a (k - a) l2 m g2 (by omega) (by omega) (by omega)
              rw [show a + (k - a) = k by omega] at q4
              exact pqd_next (a' := k + 1) (c' := a + c - (k + 1)) (by omega) (rq_A1l n a c m l l2 l3 hn hac hm hc p w k p3 (by omega) hl (by omega) q1 y (by omega) hx hs k1 k2 q3 q4) (ih (k + 1) (a + c - (k + 1)) m l3 _ y g3 (by omega) (by omega) (by omega))
            · obtain ⟨l3, g3, q4⟩ := rcr (k + 1) (a + c - (k + 1)) l2 m g2 (by omega) (by omega) (by omega)
              rw [show k + 1 + (a + c - (k + 1)) = a + c by omega] at q4
              exact pqd_next (a' := a) (c' := k - a) (by omega) (rq_A1r n a c m l l2 l3 hn hac hm hc p w k p3 (by omega) hl (by omega) q1 y (by omega) hx hs k1 k2 q3 q4) (ih a (k - a) m l3 _ y g3 (by omega) (by omega) (by omega))
          · obtain ⟨k, k1, k2, l2, g2, q3⟩ := pe_ok n l a (a + c) p hl (by omega) (by omega) hac (by omega)
            exact pqd_next (a' := k) (c' := a + c - k) (by omega) (rq_Ae n a c m l l2 l2 hn hac hm hc p w k p3 (by omega) hl (by omega) q1 (by omega) hx (by omega) q3) (ih k (a + c - k) m l2 _ _ g2 (by omega) (by omega) (by omega))
      | true =>
        have hw : w = 0 ∨ w = 1 := by omega
        rcases hw with rfl | rfl
        · by_cases h0 : a = 0
          · obtain ⟨k, y, k1, k2, l2, g2, q3⟩ := pt_ok n l a (a + c) p hl (by omega) (by omega) hac (by omega)
            by_cases hs : k - a < a + c - k
            · obtain ⟨l3, g3, q4⟩ := rcr a (k - a) l2 m g2 (by omega) (by omega) (by omega)
              rw [show a + (k - a) = k by omega] at q4
              exact pqd_next (a' := k + 1) (c' := a + c - (k + 1)) (by omega) (rq_B0l n a c m l l2 l3 hn hac hm hc p 0 k p3 (by omega) hl (by omega) q1 y h0 hs k1 k2 q3 q4) (ih (k + 1) (a + c - (k + 1)) m l3 _ y g3 (by omega) (by omega) (by omega))
            · obtain ⟨l3, g3, q4⟩ := rcr (k + 1) (a + c - (k + 1)) l2 m g2 (by omega) (by omega) (by omega)
              rw [show k + 1 + (a + c - (k + 1)) = a + c by omega] at q4
              exact pqd_next (a' := a) (c' := k - a) (by omega) (rq_B0r n a c m l l2 l3 hn hac hm hc p 0 k p3 (by omega) hl (by omega) q1 y h0 hs k1 k2 q3 q4) (ih a (k - a) m l3 _ y g3 (by omega) (by omega) (by omega))
          · by_cases hx : nth l (a - 1) < nth l p
            · obtain ⟨k, y, k1, k2, l2, g2, q3⟩ := pt_ok n l a (a + c) p hl (by omega) (by omega) hac (by omega)
              by_cases hs : k - a < a + c - k
              · obtain ⟨l3, g3, q4⟩ := rcr a (k - a) l2 m g2 (by omega) (by omega) (by omega)
                rw [show a + (k - a) = k by omega] at q4
                exact pqd_next (a' := k + 1) (c' := a + c - (k + 1)) (by omega) (rq_B1l n a c m l l2 l3 hn hac hm hc p 0 k p3 (by omega) hl (by omega) q1 y (by omega) hx hs k1 k2 q3 q4) (ih (k + 1) (a + c - (k + 1)) m l3 _ y g3 (by omega) (by omega) (by omega))
              · obtain ⟨l3, g3, q4⟩ := rcr (k + 1) (a + c - (k + 1)) l2 m g2 (by omega) (by omega) (by omega)
                rw [show k + 1 + (a + c - (k + 1)) = a + c by omega] at q4
                exact pqd_next (a' := a) (c' := k - a) (by omega) (rq_B1r n a c m l l2 l3 hn hac hm hc p 0 k p3 (by omega) hl (by omega) q1 y (by omega) hx hs k1 k2 q3 q4) (ih a (k - a) m l3 _ y g3 (by omega) (by omega) (by omega))
            · obtain ⟨k, k1, k2, l2, g2, q3⟩ := pe_ok n l a (a + c) p hl (by omega) (by omega) hac (by omega)
              exact pqd_next (a' := k) (c' := a + c - k) (by omega) (rq_Be n a c m l l2 l2 hn hac hm hc p 0 k p3 (by omega) hl (by omega) q1 (by omega) hx (by omega) q3) (ih k (a + c - k) m l2 _ _ g2 (by omega) (by omega) (by omega))
        · obtain ⟨r, q2⟩ := pins_ok n l a (a + c) hl (by omega) (by omega) hac (by omega)
          cases r with
          | true => exact ⟨l, hl, rq_done n a c m l hl hn hac hm p hc (by omega) q1 q2⟩
          | false =>
            by_cases h0 : a = 0
            · obtain ⟨k, y, k1, k2, l2, g2, q3⟩ := pt_ok n l a (a + c) p hl (by omega) (by omega) hac (by omega)
              by_cases hs : k - a < a + c - k
              · obtain ⟨l3, g3, q4⟩ := rcr a (k - a) l2 m g2 (by omega) (by omega) (by omega)
                rw [show a + (k - a) = k by omega] at q4
                exact pqd_next (a' := k + 1) (c' := a + c - (k + 1)) (by omega) (rq_C0l n a c m l l2 l3 hn hac hm hc p 1 k p3 (by omega) hl (by omega) q2 q1 y h0 hs k1 k2 q3 q4) (ih (k + 1) (a + c - (k + 1)) m l3 _ y g3 (by omega) (by omega) (by omega))
              · obtain ⟨l3, g3, q4⟩ := rcr (k + 1) (a + c - (k + 1)) l2 m g2 (by omega) (by omega) (by omega)
                rw [show k + 1 + (a + c - (k + 1)) = a + c by omega] at q4
                exact pqd_next (a' := a) (c' := k - a) (by omega) (rq_C0r n a c m l l2 l3 hn hac hm hc p 1 k p3 (by omega) hl (by omega) q2 q1 y h0 hs k1 k2 q3 q4) (ih a (k - a) m l3 _ y g3 (by omega) (by omega) (by omega))
            · by_cases hx : nth l (a - 1) < nth l p
              · obtain ⟨k, y, k1, k2, l2, g2, q3⟩ := pt_ok n l a (a + c) p hl (by omega) (by omega) hac (by omega)
                by_cases hs : k - a < a + c - k
                · obtain ⟨l3, g3, q4⟩ := rcr a (k - a) l2 m g2 (by omega) (by omega) (by omega)
                  rw [show a + (k - a) = k by omega] at q4
                  exact pqd_next (a' := k + 1) (c' := a + c - (k + 1)) (by omega) (rq_C1l n a c m l l2 l3 hn hac hm hc p 1 k p3 (by omega) hl (by omega) q2 q1 y (by omega) hx hs k1 k2 q3 q4) (ih (k + 1) (a + c - (k + 1)) m l3 _ y g3 (by omega) (by omega) (by omega))
                · obtain ⟨l3, g3, q4⟩ := rcr (k + 1) (a + c - (k + 1)) l2 m g2 (by omega) (by omega) (by omega)
                  rw [show k + 1 + (a + c - (k + 1)) = a + c by omega] at q4
                  exact pqd_next (a' := a) (c' := k - a) (by omega) (rq_C1r n a c m l l2 l3 hn hac hm hc p 1 k p3 (by omega) hl (by omega) q2 q1 y (by omega) hx hs k1 k2 q3 q4) (ih a (k - a) m l3 _ y g3 (by omega) (by omega) (by omega))
              · obtain ⟨k, k1, k2, l2, g2, q3⟩ := pe_ok n l a (a + c) p hl (by omega) (by omega) hac (by omega)
                exact pqd_next (a' := k) (c' := a + c - k) (by omega) (rq_Ce n a c m l l2 l2 hn hac hm hc p 1 k p3 (by omega) hl (by omega) q2 q1 (by omega) hx (by omega) q3) (ih k (a + c - k) m l2 _ _ g2 (by omega) (by omega) (by omega))
    | false =>
      obtain ⟨m', rfl⟩ : ∃ m', m = m' + 1 := ⟨m - 1, by omega⟩
      obtain ⟨l1, g1, q0⟩ := bp_ok n l a (a + c) hl hn (by omega) hac
      obtain ⟨p, w, p1, p2, p3, q1⟩ := piv_ok n l1 a (a + c) g1 hn (by omega) hac
      by_cases h0 : a = 0
      · obtain ⟨k, y, k1, k2, l2, g2, q3⟩ := pt_ok n l1 a (a + c) p g1 (by omega) (by omega) hac (by omega)
        by_cases hs : k - a < a + c - k
        · obtain ⟨l3, g3, q4⟩ := rcr a (k - a) l2 m' g2 (by omega) (by omega) (by omega)
          rw [show a + (k - a) = k by omega] at q4
          exact pqd_next (a' := k + 1) (c' := a + c - (k + 1)) (by omega) (rq_D0l n a c m' l l1 l2 l3 hn hac (by omega) hc p w k p3 (by omega) g1 x q0 q1 y h0 hs k1 k2 q3 q4) (ih (k + 1) (a + c - (k + 1)) m' l3 _ y g3 (by omega) (by omega) (by omega))
        · obtain ⟨l3, g3, q4⟩ := rcr (k + 1) (a + c - (k + 1)) l2 m' g2 (by omega) (by omega) (by omega)
          rw [show k + 1 + (a + c - (k + 1)) = a + c by omega] at q4
          exact pqd_next (a' := a) (c' := k - a) (by omega) (rq_D0r n a c m' l l1 l2 l3 hn hac (by omega) hc p w k p3 (by omega) g1 x q0 q1 y h0 hs k1 k2 q3 q4) (ih a (k - a) m' l3 _ y g3 (by omega) (by omega) (by omega))
      · by_cases hx : nth l1 (a - 1) < nth l1 p
        · obtain ⟨k, y, k1, k2, l2, g2, q3⟩ := pt_ok n l1 a (a + c) p g1 (by omega) (by omega) hac (by omega)
          by_cases hs : k - a < a + c - k
          · obtain ⟨l3, g3, q4⟩ := rcr a (k - a) l2 m' g2 (by omega) (by omega) (by omega)
            rw [show a + (k - a) = k by omega] at q4
            exact pqd_next (a' := k + 1) (c' := a + c - (k + 1)) (by omega) (rq_D1l n a c m' l l1 l2 l3 hn hac (by omega) hc p w k p3 (by omega) g1 x q0 q1 y (by omega) hx hs k1 k2 q3 q4) (ih (k + 1) (a + c - (k + 1)) m' l3 _ y g3 (by omega) (by omega) (by omega))
          · obtain ⟨l3, g3, q4⟩ := rcr (k + 1) (a + c - (k + 1)) l2 m' g2 (by omega) (by omega) (by omega)
            rw [show k + 1 + (a + c - (k + 1)) = a + c by omega] at q4
            exact pqd_next (a' := a) (c' := k - a) (by omega) (rq_D1r n a c m' l l1 l2 l3 hn hac (by omega) hc p w k p3 (by omega) g1 x q0 q1 y (by omega) hx hs k1 k2 q3 q4) (ih a (k - a) m' l3 _ y g3 (by omega) (by omega) (by omega))
        · obtain ⟨k, k1, k2, l2, g2, q3⟩ := pe_ok n l1 a (a + c) p g1 (by omega) (by omega) hac (by omega)
          exact pqd_next (a' := k) (c' := a + c - k) (by omega) (rq_De n a c m' l l1 l2 l2 hn hac (by omega) hc p w k p3 (by omega) g1 x q0 q1 (by omega) hx (by omega) q3) (ih k (a + c - k) m' l2 _ _ g2 (by omega) (by omega) (by omega))
theorem sort_go (n : Nat) (l l' : List Int) (hn : n ≤ 40) (q : CallH Try.prog G0 62 [.osl 0 0 n 1, i64 0, i64 n, i64 (blen n)] [.arr n (l.flatMap eU) 0] (.tup []) [.arr n (l'.flatMap eU) 0]) : CallH Try.prog G0 42 [.osl 0 0 n 1] [.arr n (l.flatMap eU) 0] (.tup []) [.arr n (l'.flatMap eU) 0] := by
  have z := len_ok n hn
  exact (fnRun_ok (hs := hint [((1,3), {val := some (u64 ((↑n : Int)))}), ((1,4), {call := some ((i64 (↑(blen n) : Int)))}), ((1,5), {heap := some (AV.tup [], [Bk.arr n (List.flatMap eU l') (0 : Fz)])})]) (ps := [u64 (IntKind.u64.wrap (↑n : Int)) = u64 ((↑n : Int)), _, _, [Bk.arr n (List.flatMap eU l) (0 : Fz)].length ≤ [Bk.arr n (List.flatMap eU l') (0 : Fz)].length]) (by kernel_rfl) ⟨(intE (by exact wrap_u64 (by omega) (by omega))), (z), (q), (by (simp; done)), trivial⟩).1
theorem sort_ok (l : List Int) (hn : l.length ≤ 40) : ∃ l' : List Int, l'.length = l.length ∧ CallH Try.prog G0 42 [.osl 0 0 l.length 1] [.arr l.length (l.flatMap eU) 0] (.tup []) [.arr l.length (l'.flatMap eU) 0] := by
  obtain ⟨l', p1, p2⟩ := pqd_all l.length hn (l.length + 1) 0 l.length (blen l.length) l true true rfl (by omega) (Nat.le_trans (blen_le hn) (by omega)) (by omega)
  have h := pq_go l.length l l' 0 l.length (blen l.length) hn (by omega) p2
  rw [Nat.zero_add] at h
  exact ⟨l', p1, sort_go l.length l l' hn h⟩
end Go.Proofs.Ytdcoomeagbjhlaa
