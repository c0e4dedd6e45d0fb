/- Put, by the document: its walk. By the prover of this seat. -/
import Derived.Test.YtjgjcpbkmeillaaDoorSu
set_option linter.unusedVariables false
set_option linter.unusedSimpArgs false
set_option maxRecDepth 100000
set_option maxHeartbeats 4000000
namespace Go.Proofs.YtjgjcpbkmeillaaDoor
open Go.RowKit Go.Pm
theorem bts_0_1 {v' v : Int} (e : v' % 256 = v % 256) : strA [u8 (v' % 256)] = strA (bytesOf 0 1 v) := by
  congr 1
  show _ = [byteV v 0]
  rw [byteV_eq v 0 (by omega)]
  simp only [List.cons.injEq, AV.s.injEq, Value.int.injEq, true_and, and_true]
  all_goals (simp; omega)
theorem bts_1_1 {v' v : Int} (e : v' % 256 = v % 256) : strA [u8 (v' % 256)] = strA (bytesOf 1 1 v) := by
  congr 1
  show _ = [byteV v 0]
  rw [byteV_eq v 0 (by omega)]
  simp only [List.cons.injEq, AV.s.injEq, Value.int.injEq, true_and, and_true]
  all_goals (simp; omega)
theorem bts_0_2 {v' v : Int} (e : v' % 65536 = v % 65536) : strA [u8 (v' % 256), u8 (v' / 256 % 256)] = strA (bytesOf 0 2 v) := by
  congr 1
  show _ = [byteV v 0, byteV v 1]
  rw [byteV_eq v 0 (by omega), byteV_eq v 1 (by omega)]
  simp only [List.cons.injEq, AV.s.injEq, Value.int.injEq, true_and, and_true]
  refine ⟨?_, ?_⟩
  all_goals (simp; omega)
theorem bts_1_2 {v' v : Int} (e : v' % 65536 = v % 65536) : strA [u8 (v' / 256 % 256), u8 (v' % 256)] = strA (bytesOf 1 2 v) := by
  congr 1
  show _ = [byteV v 1, byteV v 0]
  rw [byteV_eq v 0 (by omega), byteV_eq v 1 (by omega)]
  simp only [List.cons.injEq, AV.s.injEq, Value.int.injEq, true_and, and_true]
  refine ⟨?_, ?_⟩
  all_goals (simp; omega)
theorem bts_0_4 {v' v : Int} (e : v' % 4294967296 = v % 4294967296) : strA [u8 (v' % 256), u8 (v' / 256 % 256), u8 (v' / 256 / 256 % 256), u8 (v' / 256 / 256 / 256 % 256)] = strA (bytesOf 0 4 v) := by
  congr 1
  show _ = [byteV v 0, byteV v 1, byteV v 2, byteV v 3]
  rw [byteV_eq v 0 (by omega), byteV_eq v 1 (by omega), byteV_eq v 2 (by omega), byteV_eq v 3 (by omega)]
  simp only [List.cons.injEq, AV.s.injEq, Value.int.injEq, true_and, and_true]
  refine ⟨?_, ?_, ?_, ?_⟩
  all_goals (simp; omega)
theorem bts_1_4 {v' v : Int} (e : v' % 4294967296 = v % 4294967296) : strA [u8 (v' / 256 / 256 / 256 % 256), u8 (v' / 256 / 256 % 256), u8 (v' / 256 % 256), u8 (v' % 256)] = strA (bytesOf 1 4 v) := by
  congr 1
  show _ = [byteV v 3, byteV v 2, byteV v 1, byteV v 0]
  rw [byteV_eq v 0 (by omega), byteV_eq v 1 (by omega), byteV_eq v 2 (by omega), byteV_eq v 3 (by omega)]
  simp only [List.cons.injEq, AV.s.injEq, Value.int.injEq, true_and, and_true]
  refine ⟨?_, ?_, ?_, ?_⟩
  all_goals (simp; omega)
theorem num_ok (o z v : Int) (h : (putD o z v).2 = 0) : Pu 33 [i64 o, i64 z, i64 v] (st (putD o z v).1) := by
  have hw := put_sz h
  have hb := rbytes_ok z hw.2.2.2.2
  unfold putD at h ⊢
  have ho : ¬ (o ≠ 0 ∧ o ≠ 1) := by omega
  rw [if_neg ho] at h ⊢
  cases hk : knownD z with
  | none => rw [hk] at h; cases h
  | some s =>
    rw [hk] at h
    simp only at h ⊢
    by_cases hh : hasD s v = true
    · rw [if_pos hh]
      unfold hasD at hh
      simp only [Bool.and_eq_true, decide_eq_true_eq] at hh
      obtain ⟨q1, q2⟩ := hh
      have go : ∀ w : Nat, s.wd = w → (w = 1 ∨ w = 2 ∨ w = 4) → Pu 39 [i64 z] (i64 w) → -(256 ^ w / 2) ≤ v → v < 256 ^ w → Pu 33 [i64 o, i64 z, i64 v] (st (strA (bytesOf o s.wd v))) := by
        intro w e hw3 hb' g1 g2
        rw [e]
        rcases hw3 with rfl | rfl | rfl <;> (rcases hw.2.2.2.1 with rfl | rfl) <;> by_cases hs : v < 0
        · rw [← bts_0_1 (v' := (v + 256)) (by omega)]; exact num_0_1_n z v hb' hs (by simpa using g1)
        · rw [← bts_0_1 (v' := v) (by omega)]; exact num_0_1_p z v hb' (by omega) (by simpa using g2)
        · rw [← bts_1_1 (v' := (v + 256)) (by omega)]; exact num_1_1_n z v hb' hs (by simpa using g1)
        · rw [← bts_1_1 (v' := v) (by omega)]; exact num_1_1_p z v hb' (by omega) (by simpa using g2)
        · rw [← bts_0_2 (v' := (v + 65536)) (by omega)]; exact num_0_2_n z v hb' hs (by simpa using g1)
        · rw [← bts_0_2 (v' := v) (by omega)]; exact num_0_2_p z v hb' (by omega) (by simpa using g2)
        · rw [← bts_1_2 (v' := (v + 65536)) (by omega)]; exact num_1_2_n z v hb' hs (by simpa using g1)
        · rw [← bts_1_2 (v' := v) (by omega)]; exact num_1_2_p z v hb' (by omega) (by simpa using g2)
        · rw [← bts_0_4 (v' := (v + 4294967296)) (by omega)]; exact num_0_4_n z v hb' hs (by simpa using g1)
        · rw [← bts_0_4 (v' := v) (by omega)]; exact num_0_4_p z v hb' (by omega) (by simpa using g2)
        · rw [← bts_1_4 (v' := (v + 4294967296)) (by omega)]; exact num_1_4_n z v hb' hs (by simpa using g1)
        · rw [← bts_1_4 (v' := v) (by omega)]; exact num_1_4_p z v hb' (by omega) (by simpa using g2)
      rcases known_cases hk with ⟨rfl, rfl⟩ | ⟨rfl, rfl⟩ | ⟨rfl, rfl⟩ | ⟨rfl, rfl⟩ | ⟨rfl, rfl⟩ | ⟨rfl, rfl⟩ <;> simp only at q1 q2
      · exact go 1 rfl (by omega) hb (by omega) (by omega)
      · exact go 2 rfl (by omega) hb (by omega) (by omega)
      · exact go 4 rfl (by omega) hb (by omega) (by omega)
      · exact go 1 rfl (by omega) hb (by omega) (by omega)
      · exact go 2 rfl (by omega) hb (by omega) (by omega)
      · exact go 4 rfl (by omega) hb (by omega) (by omega)
    · rw [if_neg hh] at h; cases h
theorem fit_ok (o z v : Int) (ho : o = 0 ∨ o = 1) (hz : szB z = true) : (putD o z v).2 = 0 ∧ Pu 32 [i64 z, i64 v] (bl true) ∨ (putD o z v).2 = 1 ∧ Pu 32 [i64 z, i64 v] (bl false) := by
  unfold putD
  rw [if_neg (show ¬ (o ≠ 0 ∧ o ≠ 1) by omega)]
  unfold szB at hz
  cases hk : knownD z with
  | none => rw [hk] at hz; cases hz
  | some s =>
    simp only
    by_cases hh : hasD s v = true
    · rw [if_pos hh]
      left
      unfold hasD at hh
      simp only [Bool.and_eq_true, decide_eq_true_eq] at hh
      refine ⟨rfl, ?_⟩
      rcases known_cases hk with ⟨rfl, rfl⟩ | ⟨rfl, rfl⟩ | ⟨rfl, rfl⟩ | ⟨rfl, rfl⟩ | ⟨rfl, rfl⟩ | ⟨rfl, rfl⟩
      · exact rfit_1_y v hh.1 hh.2
      · exact rfit_2_y v hh.1 hh.2
      · exact rfit_4_y v hh.1 hh.2
      · exact rfit_n1_y v hh.1 hh.2
      · exact rfit_n2_y v hh.1 hh.2
      · exact rfit_n4_y v hh.1 hh.2
    · rw [if_neg hh]
      right
      unfold hasD at hh
      simp only [Bool.and_eq_true, decide_eq_true_eq] at hh
      refine ⟨rfl, ?_⟩
      rcases known_cases hk with ⟨rfl, rfl⟩ | ⟨rfl, rfl⟩ | ⟨rfl, rfl⟩ | ⟨rfl, rfl⟩ | ⟨rfl, rfl⟩ | ⟨rfl, rfl⟩ <;> simp only at hh
      · by_cases q : v < 0
        · exact rfit_1_a v q
        · exact rfit_1_b v (by omega)
      · by_cases q : v < 0
        · exact rfit_2_a v q
        · exact rfit_2_b v (by omega)
      · by_cases q : v < 0
        · exact rfit_4_a v q
        · exact rfit_4_b v (by omega)
      · by_cases q : v < -128
        · exact rfit_n1_a v q
        · exact rfit_n1_b v (by omega)
      · by_cases q : v < -32768
        · exact rfit_n2_a v q
        · exact rfit_n2_b v (by omega)
      · by_cases q : v < -2147483648
        · exact rfit_n4_a v q
        · exact rfit_n4_b v (by omega)
noncomputable def fiB : Code := loopOf Tryd.prog 34 1
def fiS (b : ByteArray) : St := ⟨mkT 10 [(0, st b)], []⟩
theorem fi_step (b : ByteArray) (hb : b.size ≤ 1000010) (h : ¬ b.size % 4 = 0) : Tri C1 fiB (fiS b) .normal (fiS (b ++ oneB 0)) := by
  exact runF_ok (hs := hint [((1,2), {val := some (i64 ((↑b.size : Int) % (4 : Int)))}), ((1,3), {val := some (bl (true))}), ((2,1), {sym := true})]) (f := { ks := [0] }) (ps := [i64 ((↑b.size : Int).tmod (4 : Int)) = i64 ((↑b.size : Int) % (4 : Int)), bl ((↑b.size : Int) % (4 : Int) != (0 : Int)) = bl (true), decide (b.size + (1 : Nat) ≤ (9223372036854775807 : Nat)) = true, true = true]) (by kernel_rfl) ⟨(intE (Int.tmod_eq_emod_of_nonneg (by omega))), (neF (by omega)), (by (simp; omega)), rfl, trivial⟩
theorem fi_end (b : ByteArray) (hb : b.size ≤ 1000010) (h : b.size % 4 = 0) : LoopT C1 fiB (fiS b) (.exit 0) (fiS b) := by
  exact LoopT.fin (hs := hint [((1,2), {val := some (i64 ((↑b.size : Int) % (4 : Int)))}), ((1,3), {val := some (bl (false))})]) (f := { ks := [0] }) (ps := [i64 ((↑b.size : Int).tmod (4 : Int)) = i64 ((↑b.size : Int) % (4 : Int)), bl ((↑b.size : Int) % (4 : Int) != (0 : Int)) = bl (false), true = true]) (by kernel_rfl) ⟨(intE (Int.tmod_eq_emod_of_nonneg (by omega))), (neT (by omega)), rfl, trivial⟩ (by decide)
theorem fi_go (b c : ByteArray) (L : LoopT C1 fiB (fiS b) (.exit 0) (fiS c)) : Pu 34 [st b] (st c) := by
  exact pure_of (hs := hint [((1,1000), {loop := some ({ ks := [0] }, fiS b, Ex.exit (0 : Nat), fiS c)})]) (ps := [fiS b = fiS b, _, true = true]) (by kernel_rfl) ⟨rfl, L, rfl, trivial⟩
theorem rfill_ok (b : ByteArray) (hb : b.size ≤ 1000000) : Pu 34 [st b] (st (fillB b)) := by
  have L := LoopT.count (fun k => fiS (padB b k)) (padN b.size) (fun k hk => fi_step (padB b k) (by rw [padB_size]; unfold padN at hk; omega) (by rw [padB_size]; unfold padN at hk; omega)) (fi_end (padB b (padN b.size)) (by rw [padB_size]; unfold padN; omega) (by rw [padB_size]; unfold padN; omega)) 0 (Nat.zero_le _)
  exact fi_go b _ L
noncomputable def roB : Code := loopOf Tryd.prog 35 3
def roS (o z : Int) (l : List Int) (k n : Nat) (b : ByteArray) : St := ⟨mkT 32 [(0, i64 o), (1, i64 z), (2, slJ l), (7, .osl 0 0 n 1), (8, i64 k)], [.arr (n * 1) (bytesA b) 0]⟩
theorem ro_step (o z : Int) (l : List Int) (k n : Nat) (b s : ByteArray) (hk : k < l.length) (hl : l.length ≤ 65536) (hn : b.size = n) (h1 : n ≤ 900000) (h4 : s.size ≤ 4) (hp : Pu 33 [i64 o, i64 z, i64 (nth l k)] (st s)) : Tri C1 roB (roS o z l k n b) .normal (roS o z l (k + 1) (n + s.size) (b ++ s)) := by
  have e := bytes_app b s
  exact runF_ok (hs := hint [((3,3), {val := some (bl (true))}), ((5,5), {cells := some (eJ (nth l k) ++ List.flatMap eJ (List.drop (k + (1 : Nat)) l)), sym := true}), ((5,7), {call := some ((st s))}), ((5,8), { sym := true, cells := some (bytesA (b ++ s)) }), ((4,1), {val := some (i64 ((↑k : Int) + (1 : Int)))})]) (f := { ks := [0, 1, 2, 7, 8], l := [1] }) (ps := [bl (decide ((↑k : Int) < (↑l.length : Int))) = bl (true), decide ((0 : Int) ≤ (↑k : Int) ∧ (↑k : Int) < (↑l.length : Int)) = true, ((List.drop ((↑k : Int).toNat * (1 : Nat)) (List.flatMap eJ l)) : List AV) = (eJ (nth l k) ++ List.flatMap eJ (List.drop (k + (1 : Nat)) l)), _, decide (n * (1 : Nat) = n * (1 : Nat) ∧ (0 : Nat) ≤ n * (1 : Nat) ∧ n * (1 : Nat) = (bytesA b).length) = true, decide ((n + s.size) * (1 : Nat) ≤ (140737488355328 : Nat)) = true, decide ((bytesA s).length = s.size * (1 : Nat)) = true, ((bytesA b ++ bytesA s) : List AV) = (bytesA (b ++ s)), i64 (IntKind.i64.wrap ((↑k : Int) + (1 : Int))) = i64 ((↑k : Int) + (1 : Int)), true = true, pureB (Bk.arr ((n + s.size) * (1 : Nat)) (bytesA (b ++ s)) (0 : Fz)) = true]) (by kernel_rfl) ⟨(bdT (by omega)), (by exact decide_t (by omega)), (by exact flat_nth (sz := 1) (k := k) (fun _ => rfl) (by omega)), (hp), (by (first | exact e | exact decide_t (by rw [bytesA_len]; omega) | exact decide_t (by omega) | exact decide_t ⟨by omega, by omega, by rw [bytesA_len]; omega⟩)), (by (first | exact e | exact decide_t (by rw [bytesA_len]; omega) | exact decide_t (by omega) | exact decide_t ⟨by omega, by omega, by rw [bytesA_len]; omega⟩)), (by (first | exact e | exact decide_t (by rw [bytesA_len]; omega) | exact decide_t (by omega) | exact decide_t ⟨by omega, by omega, by rw [bytesA_len]; omega⟩)), (by (first | exact e | exact decide_t (by rw [bytesA_len]; omega) | exact decide_t (by omega) | exact decide_t ⟨by omega, by omega, by rw [bytesA_len]; omega⟩)), (intE (by exact wrap_i64 (by omega) (by omega))), rfl, (by exact bytesA_pure _ _ _), trivial⟩
theorem ro_end (o z : Int) (l : List Int) (n : Nat) (b : ByteArray) : LoopT C1 roB (roS o z l l.length n b) (.exit 0) (roS o z l l.length n b) := by
  exact LoopT.fin (hs := hint [((3,3), {val := some (bl (false))})]) (f := { ks := [0, 1, 2, 7, 8], l := [0] }) (ps := [bl (decide ((↑l.length : Int) < (↑l.length : Int))) = bl (false), true = true, pureB (Bk.arr (n * (1 : Nat)) (bytesA b) (0 : Fz)) = true]) (by kernel_rfl) ⟨(bdF (by omega)), rfl, (by exact bytesA_pure _ _ _), trivial⟩ (by decide)
theorem ro_go (o z : Int) (l : List Int) (w m : Int) (n : Nat) (b : ByteArray) (hw : Pu 39 [i64 z] (i64 w)) (hl : l.length ≤ 65536) (hm : l.length * w = m) (m0 : 0 ≤ m) (m1 : m ≤ 262144) (hn : b.size = n) (L : LoopT C1 roB (roS o z l 0 0 eB) (.exit 0) (roS o z l l.length n b)) : Pu 35 [i64 o, i64 z, slJ l] (st b) := by
  have t1 : List.take (n * 1) (List.drop 0 (bytesA b)) = bytesA b := by rw [List.drop_zero]; exact List.take_of_length_le (by rw [bytesA_len]; omega)
  exact pure_of (hs := hint [((1,3), {call := some ((i64 w))}), ((1,4), { val := some (i64 m) }), ((1,5), {sym := true}), ((3,1000), {loop := some ({ ks := [0, 1, 2, 7, 8], l := [0] }, roS o z l (0 : Nat) (0 : Nat) eB, Ex.exit (0 : Nat), roS o z l l.length n b)}), ((6,1), { sym := true, val := some (st b) })]) (ps := [_, i64 (IntKind.i64.wrap ((↑l.length : Int) * w)) = i64 (m), decide ((0 : Int) ≤ (0 : Int) ∧ (0 : Int) ≤ m ∧ m * (1 : Int) ≤ (140737488355328 : Int) ∧ m ≤ (140737488355328 : Int)) = true, roS o z l (0 : Nat) (0 : Nat) eB = roS o z l (0 : Nat) (0 : Nat) eB, _, true = true, true = true, decide ((List.take (n * (1 : Nat)) (List.drop (0 : Nat) (bytesA b))).length = n) = true, (List.take (n * (1 : Nat)) (List.drop (0 : Nat) (bytesA b))).all isU8 = true, st (strA (List.take (n * (1 : Nat)) (List.drop (0 : Nat) (bytesA b)))) = st (b)]) (by kernel_rfl) ⟨(hw), (by exact intE (by first | exact hm | (rw [wrap_i64 (by omega) (by omega)]; exact hm))), (by (simp; omega)), rfl, L, rfl, rfl, (by (first | (rw [t1]; exact congrArg (fun x => AV.s (Value.string x)) (strA_bytes b)) | (rw [t1]; exact decide_t (by rw [bytesA_len]; exact hn)) | (rw [t1]; exact bytesA_u8 b))), (by (first | (rw [t1]; exact congrArg (fun x => AV.s (Value.string x)) (strA_bytes b)) | (rw [t1]; exact decide_t (by rw [bytesA_len]; exact hn)) | (rw [t1]; exact bytesA_u8 b))), (by (first | (rw [t1]; exact congrArg (fun x => AV.s (Value.string x)) (strA_bytes b)) | (rw [t1]; exact decide_t (by rw [bytesA_len]; exact hn)) | (rw [t1]; exact bytesA_u8 b))), trivial⟩
noncomputable def rpB : Code := loopOf Tryd.prog 12 10
def rpS (o : Int) (f : Fm) (x : Fl) (k : Nat) (s : ByteArray) : St := ⟨mkT 141 [(0, i64 o), (4, .ptr 0 0), (5, .ptr 1 0), (9, st s), (10, i64 k)], fbk f x⟩
def rpH : St := ⟨mkT 141 [(6, st ⟨#[]⟩), (7, i64 1)], []⟩
theorem rp_step (o : Int) (f : Fm) (x : Fl) (k : Nat) (s c : ByteArray) (hk : k < x.N.length) (hl : x.N.length = f.fixed.length) (h16 : f.fixed.length ≤ 16) (hs : s.size ≤ 1000) (hc : c.size ≤ 4) (hf : Pu 32 [i64 (nth f.fixed k), i64 (nth x.N k)] (bl true)) (hn : Pu 33 [i64 o, i64 (nth f.fixed k), i64 (nth x.N k)] (st c)) : Tri C1 rpB (rpS o f x k s) .normal (rpS o f x (k + 1) (s ++ c)) := by
  exact runF_ok (hs := hint [((10,4), {val := some (bl (true))}), ((12,3), {cells := some (eJ (nth f.fixed k) ++ List.flatMap eJ (List.drop (k + (1 : Nat)) f.fixed)), sym := true}), ((12,8), {cells := some (eJ (nth x.N k) ++ List.flatMap eJ (List.drop (k + (1 : Nat)) x.N)), sym := true}), ((12,10), {call := some ((bl true))}), ((14,5), {cells := some (eJ (nth f.fixed k) ++ List.flatMap eJ (List.drop (k + (1 : Nat)) f.fixed)), sym := true}), ((14,10), {cells := some (eJ (nth x.N k) ++ List.flatMap eJ (List.drop (k + (1 : Nat)) x.N)), sym := true}), ((14,12), {call := some ((st c))}), ((14,13), {sym := true}), ((11,1), {val := some (i64 ((↑k : Int) + (1 : Int)))})]) (f := { ks := [0, 4, 5, 9, 10], l := [0, 1] }) (ps := [bl (decide ((↑k : Int) < (↑x.N.length : Int))) = bl (true), decide ((0 : Int) ≤ (↑k : Int) ∧ (↑k : Int) < (↑f.fixed.length : Int)) = true, ((List.drop ((↑k : Int).toNat * (1 : Nat)) (List.flatMap eJ f.fixed)) : List AV) = (eJ (nth f.fixed k) ++ List.flatMap eJ (List.drop (k + (1 : Nat)) f.fixed)), decide ((0 : Int) ≤ (↑k : Int) ∧ (↑k : Int) < (↑x.N.length : Int)) = true, ((List.drop ((↑k : Int).toNat * (1 : Nat)) (List.flatMap eJ x.N)) : List AV) = (eJ (nth x.N k) ++ List.flatMap eJ (List.drop (k + (1 : Nat)) x.N)), _, decide ((0 : Int) ≤ (↑k : Int) ∧ (↑k : Int) < (↑f.fixed.length : Int)) = true, ((List.drop ((↑k : Int).toNat * (1 : Nat)) (List.flatMap eJ f.fixed)) : List AV) = (eJ (nth f.fixed k) ++ List.flatMap eJ (List.drop (k + (1 : Nat)) f.fixed)), decide ((0 : Int) ≤ (↑k : Int) ∧ (↑k : Int) < (↑x.N.length : Int)) = true, ((List.drop ((↑k : Int).toNat * (1 : Nat)) (List.flatMap eJ x.N)) : List AV) = (eJ (nth x.N k) ++ List.flatMap eJ (List.drop (k + (1 : Nat)) x.N)), _, decide (s.size + c.size ≤ (9223372036854775807 : Nat)) = true, i64 (IntKind.i64.wrap ((↑k : Int) + (1 : Int))) = i64 ((↑k : Int) + (1 : Int)), true = true, true = true, true = true]) (by kernel_rfl) ⟨(bdT (by omega)), (by exact decide_t (by omega)), (by exact flat_nth (sz := 1) (k := k) (fun _ => rfl) (by omega)), (by exact decide_t (by omega)), (by exact flat_nth (sz := 1) (k := k) (fun _ => rfl) (by omega)), (hf), (by exact decide_t (by omega)), (by exact flat_nth (sz := 1) (k := k) (fun _ => rfl) (by omega)), (by exact decide_t (by omega)), (by exact flat_nth (sz := 1) (k := k) (fun _ => rfl) (by omega)), (hn), (by (simp; omega)), (intE (by exact wrap_i64 (by omega) (by omega))), rfl, rfl, rfl, trivial⟩
theorem rp_hit (o : Int) (f : Fm) (x : Fl) (k : Nat) (s : ByteArray) (hk : k < x.N.length) (hl : x.N.length = f.fixed.length) (h16 : f.fixed.length ≤ 16) (hf : Pu 32 [i64 (nth f.fixed k), i64 (nth x.N k)] (bl false)) : LoopT C1 rpB (rpS o f x k s) .ret rpH := by
  exact LoopT.fin (hs := hint [((10,4), {val := some (bl (true))}), ((12,3), {cells := some (eJ (nth f.fixed k) ++ List.flatMap eJ (List.drop (k + (1 : Nat)) f.fixed)), sym := true}), ((12,8), {cells := some (eJ (nth x.N k) ++ List.flatMap eJ (List.drop (k + (1 : Nat)) x.N)), sym := true}), ((12,10), {call := some ((bl false))})]) (f := { ks := [6, 7] }) (ps := [bl (decide ((↑k : Int) < (↑x.N.length : Int))) = bl (true), decide ((0 : Int) ≤ (↑k : Int) ∧ (↑k : Int) < (↑f.fixed.length : Int)) = true, ((List.drop ((↑k : Int).toNat * (1 : Nat)) (List.flatMap eJ f.fixed)) : List AV) = (eJ (nth f.fixed k) ++ List.flatMap eJ (List.drop (k + (1 : Nat)) f.fixed)), decide ((0 : Int) ≤ (↑k : Int) ∧ (↑k : Int) < (↑x.N.length : Int)) = true, ((List.drop ((↑k : Int).toNat * (1 : Nat)) (List.flatMap eJ x.N)) : List AV) = (eJ (nth x.N k) ++ List.flatMap eJ (List.drop (k + (1 : Nat)) x.N)), _, true = true]) (by kernel_rfl) ⟨(bdT (by omega)), (by exact decide_t (by omega)), (by exact flat_nth (sz := 1) (k := k) (fun _ => rfl) (by omega)), (by exact decide_t (by omega)), (by exact flat_nth (sz := 1) (k := k) (fun _ => rfl) (by omega)), (hf), rfl, trivial⟩ (by decide)
theorem rp_end (o : Int) (f : Fm) (x : Fl) (s : ByteArray) : LoopT C1 rpB (rpS o f x x.N.length s) (.exit 0) (rpS o f x x.N.length s) := by
  exact LoopT.fin (hs := hint [((10,4), {val := some (bl (false))})]) (f := { ks := [0, 4, 5, 9, 10], l := [0, 1] }) (ps := [bl (decide ((↑x.N.length : Int) < (↑x.N.length : Int))) = bl (false), true = true, true = true, true = true]) (by kernel_rfl) ⟨(bdF (by omega)), rfl, rfl, rfl, trivial⟩ (by decide)
noncomputable def rlB : Code := loopOf Tryd.prog 12 24
def rlS (o : Int) (f : Fm) (x : Fl) (k : Nat) (s : ByteArray) : St := ⟨mkT 141 [(0, i64 o), (4, .ptr 0 0), (5, .ptr 1 0), (9, st s), (11, i64 k)], fbk f x⟩
theorem rl_step (o : Int) (f : Fm) (x : Fl) (k : Nat) (s : ByteArray) (hk : k < x.L.length) (hl : x.L.length ≤ 65536) (hf : Pu 32 [i64 f.list, i64 (nth x.L k)] (bl true)) : Tri C1 rlB (rlS o f x k s) .normal (rlS o f x (k + 1) s) := by
  exact runF_ok (hs := hint [((24,4), {val := some (bl (true))}), ((26,5), {cells := some (eJ (nth x.L k) ++ List.flatMap eJ (List.drop (k + (1 : Nat)) x.L)), sym := true}), ((26,7), {call := some ((bl true))}), ((25,1), {val := some (i64 ((↑k : Int) + (1 : Int)))})]) (f := { ks := [0, 4, 5, 9, 11], l := [0, 1] }) (ps := [bl (decide ((↑k : Int) < (↑x.L.length : Int))) = bl (true), decide ((0 : Int) ≤ (↑k : Int) ∧ (↑k : Int) < (↑x.L.length : Int)) = true, ((List.drop ((↑k : Int).toNat * (1 : Nat)) (List.flatMap eJ x.L)) : List AV) = (eJ (nth x.L k) ++ List.flatMap eJ (List.drop (k + (1 : Nat)) x.L)), _, i64 (IntKind.i64.wrap ((↑k : Int) + (1 : Int))) = i64 ((↑k : Int) + (1 : Int)), true = true, true = true, true = true]) (by kernel_rfl) ⟨(bdT (by omega)), (by exact decide_t (by omega)), (by exact flat_nth (sz := 1) (k := k) (fun _ => rfl) (by omega)), (hf), (intE (by exact wrap_i64 (by omega) (by omega))), rfl, rfl, rfl, trivial⟩
theorem rl_hit (o : Int) (f : Fm) (x : Fl) (k : Nat) (s : ByteArray) (hk : k < x.L.length) (hl : x.L.length ≤ 65536) (hf : Pu 32 [i64 f.list, i64 (nth x.L k)] (bl false)) : LoopT C1 rlB (rlS o f x k s) .ret rpH := by
  exact LoopT.fin (hs := hint [((24,4), {val := some (bl (true))}), ((26,5), {cells := some (eJ (nth x.L k) ++ List.flatMap eJ (List.drop (k + (1 : Nat)) x.L)), sym := true}), ((26,7), {call := some ((bl false))})]) (f := { ks := [6, 7] }) (ps := [bl (decide ((↑k : Int) < (↑x.L.length : Int))) = bl (true), decide ((0 : Int) ≤ (↑k : Int) ∧ (↑k : Int) < (↑x.L.length : Int)) = true, ((List.drop ((↑k : Int).toNat * (1 : Nat)) (List.flatMap eJ x.L)) : List AV) = (eJ (nth x.L k) ++ List.flatMap eJ (List.drop (k + (1 : Nat)) x.L)), _, true = true]) (by kernel_rfl) ⟨(bdT (by omega)), (by exact decide_t (by omega)), (by exact flat_nth (sz := 1) (k := k) (fun _ => rfl) (by omega)), (hf), rfl, trivial⟩ (by decide)
theorem rl_end (o : Int) (f : Fm) (x : Fl) (s : ByteArray) : LoopT C1 rlB (rlS o f x x.L.length s) (.exit 2) (rlS o f x x.L.length s) := by
  exact LoopT.fin (hs := hint [((24,4), {val := some (bl (false))})]) (f := { ks := [0, 4, 5, 9, 11], l := [0, 1] }) (ps := [bl (decide ((↑x.L.length : Int) < (↑x.L.length : Int))) = bl (false), true = true, true = true, true = true]) (by kernel_rfl) ⟨(bdF (by omega)), rfl, rfl, rfl, trivial⟩ (by decide)
end Go.Proofs.YtjgjcpbkmeillaaDoor
