/- The laws Codes, Reads, Takes, Gives, Full. By the prover of this seat. -/
import Derived.Test.YtpopnaeojjcngaaMe
set_option linter.unusedVariables false
set_option linter.unusedSimpArgs false
set_option maxRecDepth 100000
set_option maxHeartbeats 4000000
namespace Go.Proofs.Ytpopnaeojjcngaa
open Go.RowKit Go.Pm
theorem piece_eta (p : Piece) : (⟨p.incr, p.total, p.data, p.last⟩ : Piece) = p := rfl
/-- what was written is read -/
theorem read_code (p : Piece) (h : ¬ kindD p = 4) : readD (codeD p) = (p, 0) := by
  have hr := kind_range p
  unfold codeD readD
  rw [if_neg h]
  have e0 : nth (kindD p :: p.total :: p.data) 0 = kindD p := rfl
  have e1 : nth (kindD p :: p.total :: p.data) 1 = p.total := rfl
  have e2 : (kindD p :: p.total :: p.data).drop 2 = p.data := rfl
  rw [e0, e1, e2, if_neg (by simp), if_neg (by omega)]
  have ep : (⟨decide (¬ kindD p = 0), p.total, p.data, decide (kindD p = 0 ∨ kindD p = 3)⟩ : Piece) = p := by
    obtain ⟨a, t, d, b⟩ := p
    unfold kindD kindT at h ⊢
    simp only at h ⊢
    cases a <;> cases b <;> simp only at h ⊢ <;> (repeat' split) <;> simp_all
  rw [ep, if_pos rfl]
theorem codes_ok (p : Piece) : Pu 5 [A (pieceL p)] (bl true) := by
  by_cases h : (p.data.length : Int) > 300
  · exact pure_of (hs := hint [((1,3), {val := some (bl (true))}), ((2,0), {call := some (bl true)})]) (ps := [bl (decide ((↑p.data.length : Int) > (300 : Int))) = bl (true), _]) (by kernel_rfl) ⟨(bdT (by assumption)), (awake_ok), trivial⟩
  · have h1 := code_ok p (by omega)
    have h2 := rcode_ok p (by omega)
    have hl : (codeD p).length ≤ 300000 := by unfold codeD; split <;> simp <;> omega
    have h3 := same1_ok (codeD p) (codeD p) (by omega)
    rw [decide_eq_true rfl] at h3
    have h4 := read_ok (codeD p) hl
    have h5 := same_ok p p (by omega)
    rw [decide_eq_true ⟨rfl, rfl, rfl, rfl⟩] at h5
    by_cases hk : kindD p = 4
    · have e : codeD p = [] := if_pos hk
      rw [e] at h1 h2 h3
      exact pure_of (hs := hint [((1,3), {val := some (bl (false))}), ((3,1), {call := some (slI [])}), ((4,2), {call := some (A (pieceL { incr := p.incr, total := p.total, data := p.data, last := p.last : Piece }))}), ((4,3), {call := some (slI [])}), ((4,4), {call := some (bl true)}), ((7,0), {call := some (bl true)})]) (ps := [bl (decide ((↑p.data.length : Int) > (300 : Int))) = bl (false), _, _, _, _, _]) (by kernel_rfl) ⟨(bdF (by assumption)), (h1), (of_ok (p)), (h2), (h3), (awake_ok), trivial⟩
    · rw [read_code p hk] at h4
      have e : ¬ ((codeD p).length : Int) = 0 := by unfold codeD; rw [if_neg hk]; simp; omega
      generalize codeD p = c at h1 h2 h3 h4 e
      exact pure_of (hs := hint [((1,3), {val := some (bl (false))}), ((3,1), {call := some (slI c)}), ((4,2), {call := some (A (pieceL { incr := p.incr, total := p.total, data := p.data, last := p.last : Piece }))}), ((4,3), {call := some (slI c)}), ((4,4), {call := some (bl true)}), ((6,2), {val := some (bl (false))}), ((8,1), {call := some (pieceR (p, (0 : Int)))}), ((9,4), {call := some (A (pieceL { incr := (p, (0 : Int)).fst.incr, total := (p, (0 : Int)).fst.total, data := (p, (0 : Int)).fst.data, last := (p, (0 : Int)).fst.last : Piece }))}), ((9,6), {call := some (A (pieceL { incr := p.incr, total := p.total, data := p.data, last := p.last : Piece }))}), ((9,7), {call := some (bl true)}), ((9,10), {call := some (bl true)})]) (ps := [bl (decide ((↑p.data.length : Int) > (300 : Int))) = bl (false), _, _, _, _, bl ((↑c.length : Int) == (0 : Int)) = bl (false), _, _, _, _, _]) (by kernel_rfl) ⟨(bdF (by assumption)), (h1), (of_ok (p)), (h2), (h3), (beF (by assumption)), (h4), (of_ok ((p, (0 : Int)).fst)), (of_ok (p)), (h5), (awake_ok), trivial⟩
theorem reads_ok (l : List Int) : Pu 6 [slI l] (bl true) := by
  by_cases h : (l.length : Int) > 300
  · exact pure_of (hs := hint [((1,2), {val := some (bl (true))}), ((2,0), {call := some (bl true)})]) (ps := [bl (decide ((↑l.length : Int) > (300 : Int))) = bl (true), _]) (by kernel_rfl) ⟨(bdT (by assumption)), (awake_ok), trivial⟩
  · have h1 := read_ok l (by omega)
    have h2 := rread_ok l (by omega)
    have hd : (readD l).1.data.length ≤ 300 := by
      unfold readD
      repeat' split
      all_goals first | (simp [p0]; done) | (simp only [List.length_drop]; omega)
    have h3 := same_ok (readD l).1 (readD l).1 (by omega)
    rw [decide_eq_true ⟨rfl, rfl, rfl, rfl⟩] at h3
    by_cases he : (readD l).2 = 0
    · have hc : codeD (readD l).1 = l := by
        unfold readD at he ⊢
        split at he
        · simp at he
        · rename_i hl
          split at he
          · simp at he
          · rename_i h0
            split at he
            · rename_i hk
              rw [if_neg hl, if_neg h0, if_pos hk]
              simp only
              unfold codeD
              rw [hk, if_neg (by omega)]
              simp only
              have a1 := drop_nth (l := l) (k := 0) (by omega)
              have a2 := drop_nth (l := l) (k := 1) (by omega)
              rw [List.drop_zero] at a1
              rw [a2] at a1
              exact a1.symm
            · simp at he
      have h4 := code_ok (readD l).1 (by omega)
      rw [hc] at h4
      have h5 := same1_ok l l (by omega)
      rw [decide_eq_true rfl] at h5
      obtain ⟨r, hr⟩ : ∃ r, r = readD l := ⟨_, rfl⟩
      rw [← hr] at h1 h2 h3 h4 he
      obtain ⟨p, k⟩ := r
      simp only at h3 h4 he
      subst he
      exact pure_of (hs := hint [((1,2), {val := some (bl (false))}), ((3,1), {call := some (pieceR (p, (0 : Int)))}), ((4,1), {call := some (pieceR (p, (0 : Int)))}), ((5,5), {call := some (A (pieceL { incr := (p, (0 : Int)).fst.incr, total := (p, (0 : Int)).fst.total, data := (p, (0 : Int)).fst.data, last := (p, (0 : Int)).fst.last : Piece }))}), ((5,7), {call := some (bl true)}), ((7,4), {call := some (slI l)}), ((7,6), {call := some (bl true)}), ((7,9), {call := some (bl true)})]) (ps := [bl (decide ((↑l.length : Int) > (300 : Int))) = bl (false), _, _, _, _, _, _, _]) (by kernel_rfl) ⟨(bdF (by assumption)), (h1), (h2), (of_ok ((p, (0 : Int)).fst)), (h3), (h4), (h5), (awake_ok), trivial⟩
    · obtain ⟨r, hr⟩ : ∃ r, r = readD l := ⟨_, rfl⟩
      rw [← hr] at h1 h2 h3 he
      obtain ⟨p, k⟩ := r
      simp only at h3 he
      exact pure_of (hs := hint [((1,2), {val := some (bl (false))}), ((3,1), {call := some (pieceR (p, k))}), ((4,1), {call := some (pieceR (p, k))}), ((5,3), {val := some (bl (false))}), ((5,5), {call := some (A (pieceL { incr := (p, k).fst.incr, total := (p, k).fst.total, data := (p, k).fst.data, last := (p, k).fst.last : Piece }))}), ((5,7), {call := some (bl true)}), ((7,2), {val := some (bl (true))}), ((7,9), {call := some (bl true)})]) (ps := [bl (decide ((↑l.length : Int) > (300 : Int))) = bl (false), _, _, bl (k != k) = bl (false), _, _, bl (k != (0 : Int)) = bl (true), _]) (by kernel_rfl) ⟨(bdF (by assumption)), (h1), (h2), (neT (by omega)), (of_ok ((p, k).fst)), (h3), (neF (by assumption)), (awake_ok), trivial⟩
/-! Takes -/
structure Sim (a b : Take) : Prop where
  d : a.data = b.data
  s : a.state = b.state
  t : a.state = 1 → a.total = b.total
  r : 0 ≤ a.state ∧ a.state ≤ 3
theorem sim_got {a b : Take} (h : Sim a b) (p : Piece) (n : Int) (hn : n = 4 ∨ (0 ≤ n ∧ n ≤ 3)) : (gotK a p n).2 = (rgotK b p n).2 ∧ Sim (gotK a p n).1 (rgotK b p n).1 := by
  obtain ⟨d, t, s⟩ := a
  obtain ⟨d', t', s'⟩ := b
  obtain ⟨h1, h2, h3, h4⟩ := h
  simp only at h1 h2 h3 h4
  subst h1 h2
  unfold gotK rgotK
  simp only
  by_cases n4 : n = 4
  · rw [if_pos n4, if_pos n4]; exact ⟨rfl, rfl, rfl, h3, h4⟩
  · rw [if_neg n4, if_neg n4]
    by_cases s2 : s = 2 ∨ s = 3
    · have hs1 : s > 1 := by omega
      rw [if_pos s2, if_pos hs1]; exact ⟨rfl, rfl, rfl, h3, h4⟩
    · have hs1 : ¬ s > 1 := by omega
      rw [if_neg s2, if_neg hs1]
      by_cases n23 : n = 2 ∨ n = 3
      · have hn1 : n > 1 := by omega
        rw [if_pos n23, if_pos hn1]
        by_cases s1 : s = 1
        · rw [if_pos s1, if_pos s1, h3 s1]
          by_cases n2 : n = 2
          · rw [if_pos n2, if_pos n2]
            split
            · exact ⟨rfl, rfl, rfl, fun _ => rfl, h4⟩
            · exact ⟨rfl, rfl, s1, fun _ => rfl, h4⟩
          · rw [if_neg n2, if_neg n2]
            split
            · exact ⟨rfl, rfl, rfl, fun _ => rfl, h4⟩
            · exact ⟨rfl, rfl, rfl, fun q => absurd q (by simp), by simp⟩
        · rw [if_neg s1, if_neg s1]; exact ⟨rfl, rfl, rfl, h3, h4⟩
      · have hn1 : ¬ n > 1 := by omega
        rw [if_neg n23, if_neg hn1]
        by_cases s1 : s = 1
        · rw [if_pos s1, if_pos s1]; exact ⟨rfl, rfl, rfl, h3, h4⟩
        · rw [if_neg s1, if_neg s1]
          by_cases n0 : n = 0
          · rw [if_pos n0, if_pos n0]; exact ⟨rfl, rfl, rfl, fun q => absurd q (by simp), by simp⟩
          · rw [if_neg n0, if_neg n0]; exact ⟨rfl, rfl, rfl, fun _ => rfl, by simp⟩
theorem got_len (a : Take) (p : Piece) (n : Int) : (gotK a p n).1.data.length ≤ a.data.length + p.data.length := by
  unfold gotK
  repeat' split
  all_goals simp <;> omega
def rrefD (k : Take) : Take := if k.state = 2 then k else ⟨[], 0, 3⟩
theorem sim_ref {a b : Take} (h : Sim a b) : Sim (refusedD a) (rrefD b) := by
  unfold refusedD rrefD
  rw [h.s]
  split
  · exact h
  · exact ⟨rfl, rfl, fun _ => rfl, by simp⟩
theorem ref_len (a : Take) : (refusedD a).data.length ≤ a.data.length := by
  unfold refusedD
  split <;> simp
noncomputable def tkBody : Code := loopOf Try.prog 8 6
def tkSt (l : List Piece) (q : Int) (a b : Take) (i : Nat) : St := ⟨mkT 85 [(0, slP l), (1, u8 q), (5, .ptr 0 0), (6, .ptr 1 0), (7, i64 i)], [.arr 3 (takeL a) 0, .arr 3 (rtakeL b) 0]⟩
def tkHit : St := ⟨mkT 85 [(4, bl true)], []⟩
theorem tk_long (l : List Piece) (q : Int) (a b : Take) (i : Nat) (hi : i < l.length) (hl : l.length ≤ 20) (h : ((nth l i).data.length : Int) > 200) : LoopT C0 tkBody (tkSt l q a b i) .ret tkHit := by
  exact LoopT.fin (hs := hint [((6,3), {val := some (bl (true))}), ((8,2), {cells := some (pieceL (nth l i) ++ List.flatMap pieceL (List.drop (i + (1 : Nat)) l)), sym := true}), ((8,6), {val := some (bl (true))}), ((9,0), {call := some (bl true)})]) (f := { ks := [4] }) (ps := [bl (decide ((↑i : Int) < (↑l.length : Int))) = bl (true), decide ((0 : Int) ≤ (↑i : Int) ∧ (↑i : Int) < (↑l.length : Int)) = true, ((List.drop ((↑i : Int).toNat * (4 : Nat)) (List.flatMap pieceL l)) : List AV) = (pieceL (nth l i) ++ List.flatMap pieceL (List.drop (i + (1 : Nat)) l)), bl (decide ((↑(nth l i).data.length : Int) > (200 : Int))) = bl (true), _, true = true]) (by kernel_rfl) ⟨(bdT (by omega)), (by exact decide_t (by omega)), (by exact flat_nth (sz := 4) (k := i) (fun _ => rfl) (by omega)), (bdT (by assumption)), (awake_ok), rfl, trivial⟩ (by decide)
theorem tk_plain (l : List Piece) (q : Int) (q0 : 0 ≤ q) (q1 : q ≤ 255) (a b a' b' : Take) (e : Int) (i : Nat) (hi : i < l.length) (hl : l.length ≤ 20) (h : ¬ ((nth l i).data.length : Int) > 200) (hq : ¬ q = i) (hd : a'.data = b'.data) (hs : a'.state = b'.state) (hlen : a'.data.length ≤ 100000)
    (h1 : Pu 23 [A (takeL a), A (pieceL (nth l i))] (takeR (a', e))) (h2 : Pu 26 [A (rtakeL b), A (pieceL (nth l i))] (rtakeR (b', e))) : Tri C0 tkBody (tkSt l q a b i) .normal (tkSt l q a' b' (i + 1)) := by
  have h3 := data_ok a' hlen
  have h4 := same1_ok a'.data b'.data (by omega)
  rw [decide_eq_true hd] at h4
  exact runF_ok (hs := hint [((6,3), {val := some (bl (true))}), ((8,2), {cells := some (pieceL (nth l i) ++ List.flatMap pieceL (List.drop (i + (1 : Nat)) l)), sym := true}), ((8,6), {val := some (bl (false))}), ((10,1), {val := some (i64 (q))}), ((10,3), {val := some (bl (false))}), ((14,3), {cells := some (pieceL (nth l i) ++ List.flatMap pieceL (List.drop (i + (1 : Nat)) l)), sym := true}), ((14,5), {call := some (takeR (a', e))}), ((15,3), {cells := some (pieceL (nth l i) ++ List.flatMap pieceL (List.drop (i + (1 : Nat)) l)), sym := true}), ((15,5), {call := some (A (pieceL { incr := (nth l i).incr, total := (nth l i).total, data := (nth l i).data, last := (nth l i).last : Piece }))}), ((15,6), {call := some (rtakeR (b', e))}), ((16,1), {call := some (AV.tup [slI a'.data, i64 a'.state])}), ((17,3), {val := some (bl (false))}), ((17,9), {val := some (bl (false))}), ((17,13), {call := some (bl true)}), ((7,1), {val := some (i64 ((↑i : Int) + (1 : Int)))})]) (f := { ks := [0, 1, 5, 6, 7], l := [0, 1] }) (ps := [bl (decide ((↑i : Int) < (↑l.length : Int))) = bl (true), decide ((0 : Int) ≤ (↑i : Int) ∧ (↑i : Int) < (↑l.length : Int)) = true, ((List.drop ((↑i : Int).toNat * (4 : Nat)) (List.flatMap pieceL l)) : List AV) = (pieceL (nth l i) ++ List.flatMap pieceL (List.drop (i + (1 : Nat)) l)), bl (decide ((↑(nth l i).data.length : Int) > (200 : Int))) = bl (false), i64 (IntKind.i64.wrap q) = i64 (q), bl (q == (↑i : Int)) = bl (false), decide ((0 : Int) ≤ (↑i : Int) ∧ (↑i : Int) < (↑l.length : Int)) = true, ((List.drop ((↑i : Int).toNat * (4 : Nat)) (List.flatMap pieceL l)) : List AV) = (pieceL (nth l i) ++ List.flatMap pieceL (List.drop (i + (1 : Nat)) l)), _, decide ((0 : Int) ≤ (↑i : Int) ∧ (↑i : Int) < (↑l.length : Int)) = true, ((List.drop ((↑i : Int).toNat * (4 : Nat)) (List.flatMap pieceL l)) : List AV) = (pieceL (nth l i) ++ List.flatMap pieceL (List.drop (i + (1 : Nat)) l)), _, _, _, bl (e != e) = bl (false), bl (a'.state != (b', e).fst.state) = bl (false), _, i64 (IntKind.i64.wrap ((↑i : Int) + (1 : Int))) = i64 ((↑i : Int) + (1 : Int)), true = true, true = true, true = true]) (by kernel_rfl) ⟨(bdT (by omega)), (by exact decide_t (by omega)), (by exact flat_nth (sz := 4) (k := i) (fun _ => rfl) (by omega)), (bdF (by assumption)), (intE (by exact wrap_i64 (by omega) (by omega))), (beF (by assumption)), (by exact decide_t (by omega)), (by exact flat_nth (sz := 4) (k := i) (fun _ => rfl) (by omega)), (h1), (by exact decide_t (by omega)), (by exact flat_nth (sz := 4) (k := i) (fun _ => rfl) (by omega)), (of_ok (nth l i)), (h2), (h3), (neT (by omega)), (neT (by assumption)), (h4), (intE (by exact wrap_i64 (by omega) (by omega))), rfl, rfl, rfl, trivial⟩
theorem tk_refused (l : List Piece) (q : Int) (q0 : 0 ≤ q) (q1 : q ≤ 255) (a b a0 b0 a' b' : Take) (e : Int) (i : Nat) (hi : i < l.length) (hl : l.length ≤ 20) (h : ¬ ((nth l i).data.length : Int) > 200) (hq : q = i) (hd : a'.data = b'.data) (hs : a'.state = b'.state) (hlen : a'.data.length ≤ 100000)
    (hr : Pu 25 [A (takeL a)] (A (takeL a0))) (hb : b.state = 2 ∧ b0 = b ∨ ¬ b.state = 2 ∧ b0 = ⟨[], 0, 3⟩)
    (h1 : Pu 23 [A (takeL a0), A (pieceL (nth l i))] (takeR (a', e))) (h2 : Pu 26 [A (rtakeL b0), A (pieceL (nth l i))] (rtakeR (b', e))) : Tri C0 tkBody (tkSt l q a b i) .normal (tkSt l q a' b' (i + 1)) := by
  have h3 := data_ok a' hlen
  have h4 := same1_ok a'.data b'.data (by omega)
  rw [decide_eq_true hd] at h4
  rcases hb with ⟨hb, rfl⟩ | ⟨hb, rfl⟩
  · exact runF_ok (hs := hint [((6,3), {val := some (bl (true))}), ((8,2), {cells := some (pieceL (nth l i) ++ List.flatMap pieceL (List.drop (i + (1 : Nat)) l)), sym := true}), ((8,6), {val := some (bl (false))}), ((10,1), {val := some (i64 (q))}), ((10,3), {val := some (bl (true))}), ((11,1), {call := some (A (takeL a0))}), ((12,2), {val := some (bl (false))}), ((14,3), {cells := some (pieceL (nth l i) ++ List.flatMap pieceL (List.drop (i + (1 : Nat)) l)), sym := true}), ((14,5), {call := some (takeR (a', e))}), ((15,3), {cells := some (pieceL (nth l i) ++ List.flatMap pieceL (List.drop (i + (1 : Nat)) l)), sym := true}), ((15,5), {call := some (A (pieceL { incr := (nth l i).incr, total := (nth l i).total, data := (nth l i).data, last := (nth l i).last : Piece }))}), ((15,6), {call := some (rtakeR (b', e))}), ((16,1), {call := some (AV.tup [slI a'.data, i64 a'.state])}), ((17,3), {val := some (bl (false))}), ((17,9), {val := some (bl (false))}), ((17,13), {call := some (bl true)}), ((7,1), {val := some (i64 ((↑i : Int) + (1 : Int)))})]) (f := { ks := [0, 1, 5, 6, 7], l := [0, 1] }) (ps := [bl (decide ((↑i : Int) < (↑l.length : Int))) = bl (true), decide ((0 : Int) ≤ (↑i : Int) ∧ (↑i : Int) < (↑l.length : Int)) = true, ((List.drop ((↑i : Int).toNat * (4 : Nat)) (List.flatMap pieceL l)) : List AV) = (pieceL (nth l i) ++ List.flatMap pieceL (List.drop (i + (1 : Nat)) l)), bl (decide ((↑(nth l i).data.length : Int) > (200 : Int))) = bl (false), i64 (IntKind.i64.wrap q) = i64 (q), bl (q == (↑i : Int)) = bl (true), _, bl (b0.state != (2 : Int)) = bl (false), decide ((0 : Int) ≤ (↑i : Int) ∧ (↑i : Int) < (↑l.length : Int)) = true, ((List.drop ((↑i : Int).toNat * (4 : Nat)) (List.flatMap pieceL l)) : List AV) = (pieceL (nth l i) ++ List.flatMap pieceL (List.drop (i + (1 : Nat)) l)), _, decide ((0 : Int) ≤ (↑i : Int) ∧ (↑i : Int) < (↑l.length : Int)) = true, ((List.drop ((↑i : Int).toNat * (4 : Nat)) (List.flatMap pieceL l)) : List AV) = (pieceL (nth l i) ++ List.flatMap pieceL (List.drop (i + (1 : Nat)) l)), _, _, _, bl (e != e) = bl (false), bl (a'.state != (b', e).fst.state) = bl (false), _, i64 (IntKind.i64.wrap ((↑i : Int) + (1 : Int))) = i64 ((↑i : Int) + (1 : Int)), true = true, true = true, true = true]) (by kernel_rfl) ⟨(bdT (by omega)), (by exact decide_t (by omega)), (by exact flat_nth (sz := 4) (k := i) (fun _ => rfl) (by omega)), (bdF (by assumption)), (intE (by exact wrap_i64 (by omega) (by omega))), (beT (by assumption)), (hr), (neT (by assumption)), (by exact decide_t (by omega)), (by exact flat_nth (sz := 4) (k := i) (fun _ => rfl) (by omega)), (h1), (by exact decide_t (by omega)), (by exact flat_nth (sz := 4) (k := i) (fun _ => rfl) (by omega)), (of_ok (nth l i)), (h2), (h3), (neT (by omega)), (neT (by assumption)), (h4), (intE (by exact wrap_i64 (by omega) (by omega))), rfl, rfl, rfl, trivial⟩
  · exact runF_ok (hs := hint [((6,3), {val := some (bl (true))}), ((8,2), {cells := some (pieceL (nth l i) ++ List.flatMap pieceL (List.drop (i + (1 : Nat)) l)), sym := true}), ((8,6), {val := some (bl (false))}), ((10,1), {val := some (i64 (q))}), ((10,3), {val := some (bl (true))}), ((11,1), {call := some (A (takeL a0))}), ((12,2), {val := some (bl (true))}), ((14,3), {cells := some (pieceL (nth l i) ++ List.flatMap pieceL (List.drop (i + (1 : Nat)) l)), sym := true}), ((14,5), {call := some (takeR (a', e))}), ((15,3), {cells := some (pieceL (nth l i) ++ List.flatMap pieceL (List.drop (i + (1 : Nat)) l)), sym := true}), ((15,5), {call := some (A (pieceL { incr := (nth l i).incr, total := (nth l i).total, data := (nth l i).data, last := (nth l i).last : Piece }))}), ((15,6), {call := some (rtakeR (b', e))}), ((16,1), {call := some (AV.tup [slI a'.data, i64 a'.state])}), ((17,3), {val := some (bl (false))}), ((17,9), {val := some (bl (false))}), ((17,13), {call := some (bl true)}), ((7,1), {val := some (i64 ((↑i : Int) + (1 : Int)))})]) (f := { ks := [0, 1, 5, 6, 7], l := [0, 1] }) (ps := [bl (decide ((↑i : Int) < (↑l.length : Int))) = bl (true), decide ((0 : Int) ≤ (↑i : Int) ∧ (↑i : Int) < (↑l.length : Int)) = true, ((List.drop ((↑i : Int).toNat * (4 : Nat)) (List.flatMap pieceL l)) : List AV) = (pieceL (nth l i) ++ List.flatMap pieceL (List.drop (i + (1 : Nat)) l)), bl (decide ((↑(nth l i).data.length : Int) > (200 : Int))) = bl (false), i64 (IntKind.i64.wrap q) = i64 (q), bl (q == (↑i : Int)) = bl (true), _, bl (b.state != (2 : Int)) = bl (true), decide ((0 : Int) ≤ (↑i : Int) ∧ (↑i : Int) < (↑l.length : Int)) = true, ((List.drop ((↑i : Int).toNat * (4 : Nat)) (List.flatMap pieceL l)) : List AV) = (pieceL (nth l i) ++ List.flatMap pieceL (List.drop (i + (1 : Nat)) l)), _, decide ((0 : Int) ≤ (↑i : Int) ∧ (↑i : Int) < (↑l.length : Int)) = true, ((List.drop ((↑i : Int).toNat * (4 : Nat)) (List.flatMap pieceL l)) : List AV) = (pieceL (nth l i) ++ List.flatMap pieceL (List.drop (i + (1 : Nat)) l)), _, _, _, bl (e != e) = bl (false), bl (a'.state != (b', e).fst.state) = bl (false), _, i64 (IntKind.i64.wrap ((↑i : Int) + (1 : Int))) = i64 ((↑i : Int) + (1 : Int)), true = true, true = true, true = true]) (by kernel_rfl) ⟨(bdT (by omega)), (by exact decide_t (by omega)), (by exact flat_nth (sz := 4) (k := i) (fun _ => rfl) (by omega)), (bdF (by assumption)), (intE (by exact wrap_i64 (by omega) (by omega))), (beT (by assumption)), (hr), (neF (by assumption)), (by exact decide_t (by omega)), (by exact flat_nth (sz := 4) (k := i) (fun _ => rfl) (by omega)), (h1), (by exact decide_t (by omega)), (by exact flat_nth (sz := 4) (k := i) (fun _ => rfl) (by omega)), (of_ok (nth l i)), (h2), (h3), (neT (by omega)), (neT (by assumption)), (h4), (intE (by exact wrap_i64 (by omega) (by omega))), rfl, rfl, rfl, trivial⟩
theorem tk_end (l : List Piece) (q : Int) (a b : Take) : LoopT C0 tkBody (tkSt l q a b l.length) (.exit 0) (tkSt l q a b l.length) := by
  exact LoopT.fin (hs := hint [((6,3), {val := some (bl (false))})]) (f := { ks := [0, 1, 5, 6, 7], l := [0, 1] }) (ps := [bl (decide ((↑l.length : Int) < (↑l.length : Int))) = bl (false), true = true, true = true, true = true]) (by kernel_rfl) ⟨(bdF (by omega)), rfl, rfl, rfl, trivial⟩ (by decide)
end Go.Proofs.Ytpopnaeojjcngaa
