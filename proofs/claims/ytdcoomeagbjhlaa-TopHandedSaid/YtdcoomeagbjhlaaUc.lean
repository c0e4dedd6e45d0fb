/- Takes. By the prover of this seat. -/
import Derived.Test.YtdcoomeagbjhlaaUb
set_option linter.unusedVariables false
set_option linter.unusedSimpArgs false
set_option maxRecDepth 100000
set_option maxHeartbeats 4000000
namespace Go.Proofs.Ytdcoomeagbjhlaa
open Go.RowKit Go.Pm
theorem kind_range (p : Piece) : kindD p = 4 ∨ (0 ≤ kindD p ∧ kindD p ≤ 3) := by
  unfold kindD kindT
  repeat' split
  all_goals omega
theorem numsD_nil : numsD [] = true := rfl
theorem kind_total {p : Piece} (h : ¬ kindD p = 4) : 0 ≤ p.total ∧ p.total ≤ 65536 := by
  unfold kindD kindT at h
  repeat' split at h
  all_goals first | omega | (exact absurd rfl h)
structure Take where
  data : List Int
  total : Int
  state : Int
def takeL (t : Take) : List AV := [slI t.data, i64 t.total, i64 t.state]
def rtakeL (t : Take) : List AV := [i64 t.state, i64 t.total, slI t.data]
def gotK (k : Take) (p : Piece) (n : Int) : Take × Int :=
  if n = 4 then (k, 2) else if k.state = 2 ∨ k.state = 3 then (k, 9)
  else if n = 2 ∨ n = 3 then (if k.state = 1 then (if n = 2 then (if (k.data.length : Int) + p.data.length > k.total then (k, 4) else (⟨k.data ++ p.data, k.total, k.state⟩, 0)) else (if (k.data.length : Int) < k.total then (k, 3) else (⟨k.data, k.total, 2⟩, 0))) else (k, 8))
  else (if k.state = 1 then (k, 8) else if n = 0 then (⟨p.data, p.total, 2⟩, 0) else (⟨[], p.total, 1⟩, 0))
def takeR (r : Take × Int) : AV := .tup [A (takeL r.1), i64 r.2]
theorem whole_ok (k : Take) (p : Piece) (h : p.data.length ≤ 100000) : Pu 45 [A (takeL k), A (pieceL p)] (takeR (⟨p.data, p.total, 2⟩, 0)) := by
  have hc := copied_ok p.data (by omega)
  exact pure_of (hs := hint [((1,2), {call := some ((slI p.data))})]) (ps := [_]) (by kernel_rfl) ⟨(hc), trivial⟩
theorem announced_ok (k : Take) (p : Piece) : Pu 46 [A (takeL k), A (pieceL p)] (takeR (⟨[], p.total, 1⟩, 0)) := by
  exact pure_of (hs := hint []) (ps := []) (by kernel_rfl) trivial
theorem end_ok (k : Take) (p : Piece) (hk : k.data.length ≤ 100000) : Pu 48 [A (takeL k), A (pieceL p)] (takeR (if (k.data.length : Int) < k.total then (k, 3) else (⟨k.data, k.total, 2⟩, 0))) := by
  by_cases h : (k.data.length : Int) < k.total
  · rw [if_pos h]
    exact pure_of (hs := hint [((1,5), {val := some (bl (true))})]) (ps := [bl (decide ((↑k.data.length : Int) < k.total)) = bl (true)]) (by kernel_rfl) ⟨(bdT (by assumption)), trivial⟩
  · rw [if_neg h]
    exact pure_of (hs := hint [((1,5), {val := some (bl (false))})]) (ps := [bl (decide ((↑k.data.length : Int) < k.total)) = bl (false)]) (by kernel_rfl) ⟨(bdF (by assumption)), trivial⟩
theorem replZ_drop (a b : Nat) : (replZ (a + b) [i64 0]).drop a = replZ b [i64 0] := by
  induction a with
  | zero => rw [Nat.zero_add, List.drop_zero]
  | succ a ih => rw [Nat.add_right_comm]; exact ih
theorem splice_a (l m : List Int) (N n : Nat) (hN : N = l.length + m.length) (hn : l.length ≤ n) : splice (replZ N [i64 0]) 0 ((l.flatMap eI).take n) = l.flatMap eI ++ replZ m.length [i64 0] := by
  rw [is_take l n hn, splice, List.take_zero, List.nil_append, is_len, Nat.zero_add, hN, replZ_drop]
theorem splice_b (l m : List Int) (off n : Nat) (ho : off = l.length) (hn : m.length ≤ n) : splice (l.flatMap eI ++ replZ m.length [i64 0]) off ((m.flatMap eI).take n) = (l ++ m).flatMap eI := by
  rw [is_take m n hn, splice, is_len, ho, List.take_left' (is_len l), List.drop_of_length_le (by rw [List.length_append, is_len, replZ_len]; exact Nat.le_refl _), List.append_nil, List.flatMap_append]
theorem part_long (k : Take) (p : Piece) (hk : k.data.length ≤ 100000) (h : p.data.length ≤ 100000) (h2 : (k.data.length : Int) + p.data.length > k.total) : Pu 47 [A (takeL k), A (pieceL p)] (takeR (k, 4)) := by
  exact pure_of (hs := hint [((1,6), {val := some (i64 ((↑k.data.length : Int) + (↑p.data.length : Int)))}), ((1,9), {val := some (bl (true))})]) (ps := [i64 (IntKind.i64.wrap ((↑k.data.length : Int) + (↑p.data.length : Int))) = i64 ((↑k.data.length : Int) + (↑p.data.length : Int)), bl (decide ((↑k.data.length : Int) + (↑p.data.length : Int) > k.total)) = bl (true)]) (by kernel_rfl) ⟨(intE (by exact wrap_i64 (by omega) (by omega))), (bdT (by assumption)), trivial⟩
theorem part_good (k : Take) (p : Piece) (hk : k.data.length ≤ 100000) (h : p.data.length ≤ 100000) (h2 : ¬ (k.data.length : Int) + p.data.length > k.total) : Pu 47 [A (takeL k), A (pieceL p)] (takeR (⟨k.data ++ p.data, k.total, k.state⟩, 0)) := by
  obtain ⟨l, t, s⟩ := k
  obtain ⟨a, u, m, b⟩ := p
  simp only at hk h h2 ⊢
  have t1 := is_take l (l.length * 1) (by omega)
  have t2 := is_take m (m.length * 1) (by omega)
  obtain ⟨r, hr⟩ : ∃ r : List AV, r = l.flatMap eI ++ replZ m.length [i64 0] := ⟨_, rfl⟩
  have hlr : r.length = l.length + m.length := by rw [hr, List.length_append, is_len, replZ_len]
  have hlm : (l ++ m).length = l.length + m.length := List.length_append
  exact pure_cast (pure_said (hs := hint [((1,6), {val := some (i64 ((↑l.length : Int) + (↑m.length : Int)))}), ((1,9), {val := some (bl (false))}), ((3,6), {val := some (i64 ((↑l.length : Int) + (↑m.length : Int)))}), ((3,7), {sym := true}), ((4,3), { sym := true, cells := some r }), ((5,4), {sym := true}), ((5,7), { sym := true, cells := some ((l ++ m).flatMap eI) })]) (r := AV.tup [A [AV.sl (((↑l.length : Int) + (↑m.length : Int)).toNat) (List.take (((↑l.length : Int) + (↑m.length : Int)).toNat * (1 : Nat)) (List.drop (0 : Nat) (List.flatMap eI (l ++ m)))), i64 (t), i64 (s)], i64 ((0 : Int))]) (ps := [i64 (IntKind.i64.wrap ((↑l.length : Int) + (↑m.length : Int))) = i64 ((↑l.length : Int) + (↑m.length : Int)), bl (decide ((↑l.length : Int) + (↑m.length : Int) > t)) = bl (false), i64 (IntKind.i64.wrap ((↑l.length : Int) + (↑m.length : Int))) = i64 ((↑l.length : Int) + (↑m.length : Int)), decide ((0 : Int) ≤ (↑l.length : Int) + (↑m.length : Int) ∧ (↑l.length : Int) + (↑m.length : Int) ≤ (↑l.length : Int) + (↑m.length : Int) ∧ ((↑l.length : Int) + (↑m.length : Int)) * (8 : Int) ≤ (140737488355328 : Int) ∧ (↑l.length : Int) + (↑m.length : Int) ≤ (140737488355328 : Int)) = true, decide ((0 : Nat) + ((↑l.length : Int) + (↑m.length : Int)).toNat * (1 : Nat) ≤ ((↑l.length : Int) + (↑m.length : Int)).toNat * (1 : Nat)) = true, true = true, decide ((List.take (l.length * (1 : Nat)) (List.flatMap eI l)).length = l.length * (1 : Nat)) = true, ((splice (replZ ((↑l.length : Int) + (↑m.length : Int)).toNat [AV.s (Value.int IntKind.i64 (0 : Int))]) (0 : Nat) (List.take (min l.length ((↑l.length : Int) + (↑m.length : Int)).toNat * (1 : Nat)) (List.take (l.length * (1 : Nat)) (List.flatMap eI l)))) : List AV) = (r), (decide ((0 : Int) ≤ (↑l.length : Int) ∧ (↑l.length : Int) ≤ (↑((↑l.length : Int) + (↑m.length : Int)).toNat : Int) ∧ (↑((↑l.length : Int) + (↑m.length : Int)).toNat : Int) ≤ (↑((↑l.length : Int) + (↑m.length : Int)).toNat : Int) ∧ (↑((↑l.length : Int) + (↑m.length : Int)).toNat : Int) ≤ (↑((↑l.length : Int) + (↑m.length : Int)).toNat : Int)) && true) = true, decide ((0 : Nat) + (↑l.length : Int).toNat * (1 : Nat) + ((↑((↑l.length : Int) + (↑m.length : Int)).toNat : Int) - (↑l.length : Int)).toNat * (1 : Nat) ≤ ((↑l.length : Int) + (↑m.length : Int)).toNat * (1 : Nat)) = true, decide ((0 : Nat) ≤ (0 : Nat) + (↑l.length : Int).toNat * (1 : Nat)) = true, decide ((List.take (m.length * (1 : Nat)) (List.flatMap eI m)).length = m.length * (1 : Nat)) = true, ((splice r ((0 : Nat) + (↑l.length : Int).toNat * (1 : Nat)) (List.take (min m.length ((↑((↑l.length : Int) + (↑m.length : Int)).toNat : Int) - (↑l.length : Int)).toNat * (1 : Nat)) (List.take (m.length * (1 : Nat)) (List.flatMap eI m)))) : List AV) = (List.flatMap eI (l ++ m)), ([(3 : Nat)].all fun (i : Nat) => (Option.map pureB [Bk.arr (3 : Nat) [AV.osl (3 : Nat) (0 : Nat) ((↑l.length : Int) + (↑m.length : Int)).toNat (1 : Nat), AV.s (Value.int IntKind.i64 t), AV.s (Value.int IntKind.i64 s)] (0 : Fz), Bk.arr (4 : Nat) [AV.s (Value.bool a), AV.s (Value.int IntKind.i64 u), AV.sl m.length (List.flatMap eI m), AV.s (Value.bool b)] (0 : Fz), Bk.arr (3 : Nat) [AV.osl (3 : Nat) (0 : Nat) ((↑l.length : Int) + (↑m.length : Int)).toNat (1 : Nat), AV.s (Value.int IntKind.i64 t), AV.s (Value.int IntKind.i64 s)] (if false = true then { n := (0 : Nat), ty := some (37 : Nat) : Fz } else (0 : Fz)), Bk.arr (((↑l.length : Int) + (↑m.length : Int)).toNat * (1 : Nat)) (List.flatMap eI (l ++ m)) (0 : Fz)][i]?).getD false) = true, true = true]) (by kernel_rfl) ⟨(intE (by exact wrap_i64 (by omega) (by omega))), (bdF (by assumption)), (intE (by exact wrap_i64 (by omega) (by omega))), (by exact decide_t (by omega)), (by (first | (rw [t1, is_len, Nat.mul_one]; exact decide_t rfl) | exact decide_t (by omega) | (rw [t1, hr]; exact splice_a l m _ _ (by omega) (by omega)))), rfl, (by (first | (rw [t1, is_len, Nat.mul_one]; exact decide_t rfl) | exact decide_t (by omega) | (rw [t1, hr]; exact splice_a l m _ _ (by omega) (by omega)))), (by (first | (rw [t1, is_len, Nat.mul_one]; exact decide_t rfl) | exact decide_t (by omega) | (rw [t1, hr]; exact splice_a l m _ _ (by omega) (by omega)))), (by (simp; omega)), (by (first | (rw [t2, is_len, Nat.mul_one]; exact decide_t rfl) | exact decide_t (by omega) | (rw [t2, hr]; exact splice_b l m _ _ (by omega) (by omega)))), (by (first | (rw [t2, is_len, Nat.mul_one]; exact decide_t rfl) | exact decide_t (by omega) | (rw [t2, hr]; exact splice_b l m _ _ (by omega) (by omega)))), (by (first | (rw [t2, is_len, Nat.mul_one]; exact decide_t rfl) | exact decide_t (by omega) | (rw [t2, hr]; exact splice_b l m _ _ (by omega) (by omega)))), (by (first | (rw [t2, is_len, Nat.mul_one]; exact decide_t rfl) | exact decide_t (by omega) | (rw [t2, hr]; exact splice_b l m _ _ (by omega) (by omega)))), (by exact ids_one _ _ _ rfl (is_pureB _ _ _)), rfl, trivial⟩) (by (rw [is_sl (l ++ m) _ _ (by omega) (by omega)]; rfl))
theorem got_ok (k : Take) (p : Piece) (hk : k.data.length ≤ 100000) (h : p.data.length ≤ 100000) : Pu 23 [A (takeL k), A (pieceL p)] (takeR (gotK k p (kindD p))) := by
  have hq := kind_ok p (by omega)
  have hr := kind_range p
  have hw := whole_ok k p h
  have ha := announced_ok k p
  have he := end_ok k p hk
  unfold gotK
  generalize kindD p = n at hq hr
  by_cases n4 : n = 4
  · subst n4
    exact pure_of (hs := hint [((1,1), {call := some ((i64 (4 : Int)))})]) (ps := [_]) (by kernel_rfl) ⟨(hq), trivial⟩
  · rw [if_neg n4]
    by_cases s2 : k.state = 2 ∨ k.state = 3
    · rw [if_pos s2]
      by_cases h1 : k.state = (2 : Int)
      · exact pure_of (hs := hint [((1,1), {call := some ((i64 n))}), ((2,1), {val := some (bl (false))}), ((4,3), {val := some (bl (true))})]) (ps := [_, bl (n == (4 : Int)) = bl (false), bl (k.state == (2 : Int)) = bl (true)]) (by kernel_rfl) ⟨(hq), (beF (by assumption)), (beT h1), trivial⟩
      · exact pure_of (hs := hint [((1,1), {call := some ((i64 n))}), ((2,1), {val := some (bl (false))}), ((4,3), {val := some (bl (false))}), ((4,7), {val := some (bl (true))})]) (ps := [_, bl (n == (4 : Int)) = bl (false), bl (k.state == (2 : Int)) = bl (false), bl (k.state == (3 : Int)) = bl (true)]) (by kernel_rfl) ⟨(hq), (beF (by assumption)), (beF h1), (beT (by omega)), trivial⟩
    · rw [if_neg s2]
      by_cases n23 : n = 2 ∨ n = 3
      · rw [if_pos n23]
        by_cases s1 : k.state = 1
        · rw [if_pos s1]
          by_cases n2 : n = 2
          · subst n2
            rw [if_pos rfl]
            by_cases hl : (k.data.length : Int) + p.data.length > k.total
            · rw [if_pos hl]
              have := part_long k p hk h hl
              exact pure_of (hs := hint [((1,1), {call := some ((i64 (2 : Int)))}), ((4,3), {val := some (bl (false))}), ((4,7), {val := some (bl (false))}), ((6,9), {val := some (bl (false))}), ((9,4), {call := some ((takeR (k, (4 : Int))))})]) (ps := [_, bl (k.state == (2 : Int)) = bl (false), bl (k.state == (3 : Int)) = bl (false), bl (!true == (k.state == (1 : Int))) = bl (false), _]) (by kernel_rfl) ⟨(hq), (beF (by omega)), (beF (by omega)), (bnT (beT (by (simp; omega)))), (this), trivial⟩
            · rw [if_neg hl]
              have := part_good k p hk h hl
              exact pure_of (hs := hint [((1,1), {call := some ((i64 (2 : Int)))}), ((4,3), {val := some (bl (false))}), ((4,7), {val := some (bl (false))}), ((6,9), {val := some (bl (false))}), ((9,4), {call := some ((takeR ({ data := k.data ++ p.data, total := k.total, state := k.state : Take }, (0 : Int))))})]) (ps := [_, bl (k.state == (2 : Int)) = bl (false), bl (k.state == (3 : Int)) = bl (false), bl (!true == (k.state == (1 : Int))) = bl (false), _]) (by kernel_rfl) ⟨(hq), (beF (by omega)), (beF (by omega)), (bnT (beT (by (simp; omega)))), (this), trivial⟩
          · rw [if_neg n2]
            obtain rfl : n = 3 := by omega
            generalize (if (k.data.length : Int) < k.total then (k, 3) else (⟨k.data, k.total, 2⟩, 0) : Take × Int) = r at he
            exact pure_of (hs := hint [((1,1), {call := some ((i64 (3 : Int)))}), ((4,3), {val := some (bl (false))}), ((4,7), {val := some (bl (false))}), ((6,9), {val := some (bl (false))}), ((9,4), {call := some ((takeR r))})]) (ps := [_, bl (k.state == (2 : Int)) = bl (false), bl (k.state == (3 : Int)) = bl (false), bl (!true == (k.state == (1 : Int))) = bl (false), _]) (by kernel_rfl) ⟨(hq), (beF (by omega)), (beF (by omega)), (bnT (beT (by (simp; omega)))), (he), trivial⟩
        · rw [if_neg s1]
          by_cases h1 : n = (2 : Int)
          · exact pure_of (hs := hint [((1,1), {call := some ((i64 n))}), ((2,1), {val := some (bl (false))}), ((4,3), {val := some (bl (false))}), ((4,7), {val := some (bl (false))}), ((6,2), {val := some (bl (true))}), ((6,9), {val := some (bl (true))})]) (ps := [_, bl (n == (4 : Int)) = bl (false), bl (k.state == (2 : Int)) = bl (false), bl (k.state == (3 : Int)) = bl (false), bl (n == (2 : Int)) = bl (true), bl (!true == (k.state == (1 : Int))) = bl (true)]) (by kernel_rfl) ⟨(hq), (beF (by assumption)), (beF (by omega)), (beF (by omega)), (beT h1), (bnF (beF (by (simp_all; done)))), trivial⟩
          · exact pure_of (hs := hint [((1,1), {call := some ((i64 n))}), ((2,1), {val := some (bl (false))}), ((4,3), {val := some (bl (false))}), ((4,7), {val := some (bl (false))}), ((6,2), {val := some (bl (false))}), ((6,9), {val := some (bl (true))})]) (ps := [_, bl (n == (4 : Int)) = bl (false), bl (k.state == (2 : Int)) = bl (false), bl (k.state == (3 : Int)) = bl (false), bl (n == (2 : Int)) = bl (false), bl (!(n == (3 : Int)) == (k.state == (1 : Int))) = bl (true)]) (by kernel_rfl) ⟨(hq), (beF (by assumption)), (beF (by omega)), (beF (by omega)), (beF h1), (bnF (beF (by (simp_all; done)))), trivial⟩
      · rw [if_neg n23]
        by_cases s1 : k.state = 1
        · rw [if_pos s1]
          exact pure_of (hs := hint [((1,1), {call := some ((i64 n))}), ((2,1), {val := some (bl (false))}), ((4,3), {val := some (bl (false))}), ((4,7), {val := some (bl (false))}), ((6,2), {val := some (bl (false))}), ((6,9), {val := some (bl (true))})]) (ps := [_, bl (n == (4 : Int)) = bl (false), bl (k.state == (2 : Int)) = bl (false), bl (k.state == (3 : Int)) = bl (false), bl (n == (2 : Int)) = bl (false), bl (!(n == (3 : Int)) == (k.state == (1 : Int))) = bl (true)]) (by kernel_rfl) ⟨(hq), (beF (by assumption)), (beF (by omega)), (beF (by omega)), (beF (by omega)), (bnF (beF (by (simp_all; done)))), trivial⟩
        · rw [if_neg s1]
          by_cases n0 : n = 0
          · subst n0
            rw [if_pos rfl]
            exact pure_of (hs := hint [((1,1), {call := some ((i64 (0 : Int)))}), ((4,3), {val := some (bl (false))}), ((4,7), {val := some (bl (false))}), ((6,9), {val := some (bl (false))}), ((9,4), {call := some ((takeR ({ data := p.data, total := p.total, state := (2 : Int) : Take }, (0 : Int))))})]) (ps := [_, bl (k.state == (2 : Int)) = bl (false), bl (k.state == (3 : Int)) = bl (false), bl (!false == (k.state == (1 : Int))) = bl (false), _]) (by kernel_rfl) ⟨(hq), (beF (by omega)), (beF (by omega)), (bnT (beT (by (simp; omega)))), (hw), trivial⟩
          · rw [if_neg n0]
            obtain rfl : n = 1 := by omega
            exact pure_of (hs := hint [((1,1), {call := some ((i64 (1 : Int)))}), ((4,3), {val := some (bl (false))}), ((4,7), {val := some (bl (false))}), ((6,9), {val := some (bl (false))}), ((9,4), {call := some ((takeR ({ data := [], total := p.total, state := (1 : Int) : Take }, (0 : Int))))})]) (ps := [_, bl (k.state == (2 : Int)) = bl (false), bl (k.state == (3 : Int)) = bl (false), bl (!false == (k.state == (1 : Int))) = bl (false), _]) (by kernel_rfl) ⟨(hq), (beF (by omega)), (beF (by omega)), (bnT (beT (by (simp; omega)))), (ha), trivial⟩
end Go.Proofs.Ytdcoomeagbjhlaa
