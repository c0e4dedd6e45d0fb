/- Numbers of their own: whole. By the prover of this seat. -/
import Derived.Test.YtdcoomeagbjhlaaXn
set_option linter.unusedVariables false
set_option linter.unusedSimpArgs false
set_option maxRecDepth 100000
set_option maxHeartbeats 4000000
namespace Go.Proofs.Ytdcoomeagbjhlaa
open Go.RowKit Go.Pm
theorem nth_set_eq {α : Type} [Inhabited α] {l : List α} {k : Nat} {v : α} (h : k < l.length) : nth (List.set l k v) k = v := by simp [nth, List.getD_eq_getElem?_getD, h]
theorem nth_set_ne {α : Type} [Inhabited α] {l : List α} {j k : Nat} {v : α} (h : j ≠ k) : nth (List.set l k v) j = nth l j := by
  simp [nth, List.getD_eq_getElem?_getD, List.getElem?_set, Ne.symm h]
theorem fits_u8 {cs : List AV} (h : Fits (.int .u8) cs) : ∃ n : Int, cs = [u8 n] ∧ 0 ≤ n ∧ n ≤ 255 := by
  obtain ⟨n, rfl, hw⟩ := h
  simp [Lit.wf, IntKind.min, IntKind.max, IntKind.signed, IntKind.bits] at hw
  exact ⟨n, rfl, by omega, by omega⟩
theorem idaw_ok : Pu 13 [] (bl true) := by
  have h := new0_ok 3 (by omega) (by omega)
  have q := fresh_ok 0 3 0 "l\x01\x00\x00".toUTF8 (by omega) (by omega) (by omega) (by omega)
  exact pure_of (hs := hint [((1,0), {call := some (AV.tup [(A (stbL (0 : Int) (3 : Int) (0 : Int) "l\x01\x00\x00".toUTF8)), (i64 (0 : Int))])}), ((2,1), {call := some (AV.tup [(A (stbL (0 : Int) (3 : Int) ((0 : Int) + (1 : Int)) "l\x01\x00\x00".toUTF8)), (u32 ((3 : Int) * (1048576 : Int) + ((0 : Int) + (1 : Int)))), (i64 (0 : Int))])})]) (ps := [_, _]) (by kernel_rfl) ⟨(h), (q), trivial⟩
/-- what holds ahead of a round -/
structure IdOk (sts : List Stu) (L : List Idr) (N : List Cn) : Prop where
  sl : sts.length = 8
  sc : ∀ j, j < 8 → (nth sts j).c = j + 1 ∧ (nth sts j).k = ownC (j + 1) L
  ap : keysApart idR L
  ok : ∀ y ∈ L, IOk y
  kk : ∀ y ∈ L, y.k ≤ ownC y.c L
  na : keysApart Cn.c N
  nc : ∀ x ∈ N, 1 ≤ x.c ∧ x.c ≤ 8
  nn : ∀ c, cntN N c = ownC c L
theorem own_le (c : Int) (L : List Idr) : ownC c L ≤ L.length := List.length_filter_le _ _
theorem own_snoc (c : Int) (L : List Idr) (x : Idr) : ownC c (L ++ [x]) = ownC c L + if x.c = c then 1 else 0 := by
  unfold ownC
  rw [List.filter_append, List.length_append]
  by_cases h : x.c = c <;> simp [h]
theorem cnt_put (N : List Cn) (x : Cn) (c : Int) : cntN (putM Cn.c N x) c = if x.c = c then x.n else cntN N c := by
  unfold cntN
  rw [find_put]
  by_cases h : x.c = c
  · rw [if_pos h, if_pos h]
  · rw [if_neg h, if_neg h]
theorem id_round (ws ks : List Int) (hw : ws.length ≤ 40) (bw : ∀ x ∈ ws, 0 ≤ x ∧ x ≤ 255) (bk : ∀ x ∈ ks, 0 ≤ x ∧ x ≤ 255) (i : Nat) (hi : i < ws.length) (sts : List Stu) (L : List Idr) (N : List Cn) (hL : L.length = i) (h : IdOk sts L N) :
    ∃ sts' L' N', Tri C0 ioB (idS ws ks sts L N i) .normal (idS ws ks sts' L' N' (i + 1)) ∧ L'.length = i + 1 ∧ IdOk sts' L' N' := by
  obtain ⟨w, ew⟩ : ∃ w, nth ws i = w := ⟨_, rfl⟩
  have w0 := bw _ (nth_mem hi)
  rw [ew] at w0
  obtain ⟨j, hj⟩ : ∃ j : Nat, (j : Int) = w % 8 := ⟨(w % 8).toNat, by omega⟩
  have hj8 : j < 8 := by omega
  obtain ⟨s1, s2⟩ := h.sc j hj8
  have hj1 : j < sts.length := by rw [h.sl]; exact hj8
  have ec : (j : Int) + 1 = w % 8 + 1 := by omega
  rw [ec] at s1 s2
  have ho := own_le (w % 8 + 1) L
  rcases hst : nth sts j with ⟨o, c, k, b⟩
  rw [hst] at s1 s2
  simp only at s1 s2
  subst s1
  obtain ⟨kd, hkd, d0, d1⟩ : ∃ kd : Int, (kd = if i < ks.length then nth ks i % 3 + 2 else 2) ∧ 2 ≤ kd ∧ kd ≤ 4 := by
    refine ⟨_, rfl, ?_, ?_⟩
    · split
      · have := bk _ (nth_mem (by assumption)); omega
      · omega
    · split
      · have := bk _ (nth_mem (by assumption)); omega
      · omega
  have hx : IOk ⟨w % 8 + 1, k + 1, kd⟩ := ⟨by simp only; omega, by simp only; omega, by simp only; omega, by simp only; omega, d0, d1⟩
  have hf : ∀ y ∈ L, idR y ≠ idR ⟨w % 8 + 1, k + 1, kd⟩ := fun y hy e => by
    have hy1 := h.ok y hy
    have hy2 := h.kk y hy
    obtain ⟨a0, a1, a2, a3, a4, a5⟩ := hy1
    unfold idR at e
    simp only at e
    have hc : y.c = w % 8 + 1 := by omega
    rw [hc] at hy2
    omega
  have q1 := kind_ok L ⟨w % 8 + 1, k + 1, kd⟩ h.ok hx hf
  have q2 := add_yes L ⟨w % 8 + 1, k + 1, kd⟩ h.ap h.ok hx hf (by omega)
  have e0 : 0 + (w % 8 + 1).toNat * 10 = (j + 1) * 10 := by omega
  have e1 := stu_at sts j _ e0 hj1
  rw [hst] at e1
  have e2 := stu_set sts j _ ⟨o, w % 8 + 1, k + 1, b⟩ e0 hj1
  have e3 := look_N N (w % 8 + 1)
  rw [h.nn] at e3
  have e4 := mput_row (ev := evN) ke_N h.na ⟨w % 8 + 1, (ownC (w % 8 + 1) L : Int) + 1⟩
  have e5 : kwf Try.prog 3 (i64 (w % 8 + 1)) = true := kwf_N (by omega) (by omega)
  have e6 : allK Try.prog 3 (N.map rowN) = true := allK_row fun x hx => kwf_N (by have := h.nc x hx; omega) (by have := h.nc x hx; omega)
  have Lp := ii_all ws ks (List.set sts j ⟨o, w % 8 + 1, k + 1, b⟩) L N i ⟨w % 8 + 1, k + 1, kd⟩ h.ap h.ok hx hf (by omega)
  refine ⟨List.set sts j ⟨o, w % 8 + 1, k + 1, b⟩, L ++ [⟨w % 8 + 1, k + 1, kd⟩], putM Cn.c N ⟨w % 8 + 1, (ownC (w % 8 + 1) L : Int) + 1⟩, ?_, by simp [hL], ?_⟩
  · by_cases hi2 : i < ks.length
    · rw [if_pos hi2] at hkd
      exact io_m ws ks sts L N i j o k w kd (ownC (w % 8 + 1) L) b hi hw ew w0 hi2 (bk _ (nth_mem hi2)) hkd (by omega) (by omega) (by omega) (by omega) e1 e2 e3 e4 e5 e6 q1 q2 Lp
    · rw [if_neg hi2] at hkd
      exact io_n ws ks sts L N i j o k w kd (ownC (w % 8 + 1) L) b hi hw ew w0 hi2 hkd (by omega) (by omega) (by omega) (by omega) e1 e2 e3 e4 e5 e6 q1 q2 Lp
  · refine ⟨by rw [List.length_set]; exact h.sl, fun j' hj' => ?_, ?_, ?_, ?_, apart_put h.na _, ?_, fun c => ?_⟩
    · rw [own_snoc]
      by_cases e : j' = j
      · subst e
        rw [nth_set_eq hj1]
        refine ⟨ec.symm, ?_⟩
        show k + 1 = _
        rw [if_pos (by show w % 8 + 1 = _; omega), show ((j' : Int) + 1) = w % 8 + 1 from ec]
        omega
      · rw [nth_set_ne e]
        rw [if_neg (by show ¬ w % 8 + 1 = _; omega)]
        exact h.sc j' hj'
    · refine List.pairwise_append.2 ⟨h.ap, List.pairwise_singleton _ _, fun a ha b hb => ?_⟩
      rw [List.mem_singleton.1 hb]
      exact hf a ha
    · intro y hy
      rcases List.mem_append.1 hy with hy | hy
      · exact h.ok y hy
      · rw [List.mem_singleton.1 hy]; exact hx
    · intro y hy
      rw [own_snoc]
      rcases List.mem_append.1 hy with hy | hy
      · have := h.kk y hy; omega
      · rw [List.mem_singleton.1 hy]
        show k + 1 ≤ _
        rw [if_pos rfl]
        show k + 1 ≤ ((ownC (w % 8 + 1) L + 1 : Nat) : Int)
        omega
    · intro x hx
      rcases List.mem_append.1 hx with hx | hx
      · exact h.nc x (mem_dropM.1 hx).1
      · rw [List.mem_singleton.1 hx]; show 1 ≤ w % 8 + 1 ∧ w % 8 + 1 ≤ 8; omega
    · rw [cnt_put, own_snoc, h.nn]
      show (if w % 8 + 1 = c then (ownC (w % 8 + 1) L : Int) + 1 else _) = ((ownC c L + if w % 8 + 1 = c then 1 else 0 : Nat) : Int)
      split
      · rename_i e; subst e; omega
      · omega
noncomputable def ieB : Code := loopOf Try.prog 4 40
def ieS (ws : List Int) (L : List Idr) (N : List Cn) (c : Int) : St := ⟨mkT 142 [(0, slB ws), (6, .ptr 0 0), (7, .omp 1), (21, i64 c)], [.arr 1 [.mp (L.map rowI)] 0, .map (N.map rowN) false]⟩
theorem ie_step (ws : List Int) (L : List Idr) (N : List Cn) (c : Int) (n : Nat) (c0 : 1 ≤ c) (c1 : c ≤ 8) (q : Pu 19 [hldA L, i64 c] (.sl n [])) (e3 : lookV false (mfind (N.map rowN) (i64 c)) (i64 0) = i64 n) (e5 : kwf Try.prog 3 (i64 c) = true) (e6 : allK Try.prog 3 (N.map rowN) = true) : Tri C0 ieB (ieS ws L N c) .normal (ieS ws L N (c + 1)) := by
  exact runF_ok (hs := hint [((40,1), {val := some (bl (true))}), ((42,2), {call := some (AV.sl (n) [])}), ((42,6), { sym := true, val := some (i64 n) }), ((42,7), {val := some (bl (false))}), ((41,1), {val := some (i64 (c + (1 : Int)))})]) (f := { ks := [0, 6, 7, 21], l := [0, 1] }) (ps := [bl (decide (c ≤ (8 : Int))) = bl (true), _, true = true, kwf C0.P (3 : Nat) (AV.s (Value.int IntKind.i64 c)) = true, allK C0.P (3 : Nat) (List.map rowN N) = true, (match mfind (List.map rowN N) (AV.s (Value.int IntKind.i64 c)) with
  | some v => if false = true then AV.tup [v, AV.s (Value.bool true)] else v
  | none => if false = true then AV.tup [ofV (Value.int IntKind.i64 (0 : Int)), AV.s (Value.bool false)] else ofV (Value.int IntKind.i64 (0 : Int))) = i64 ((↑n : Int)), bl ((↑n : Int) != (↑n : Int)) = bl (false), i64 (IntKind.i64.wrap (c + (1 : Int))) = i64 (c + (1 : Int)), true = true, true = true, pureB (Bk.map (List.map rowN N) false) = true]) (by kernel_rfl) ⟨(bdT (by assumption)), (q), (by (first | assumption | exact e3 | rfl)), (by (first | assumption | exact e3 | rfl)), (by (first | assumption | exact e3 | rfl)), (by (first | assumption | exact e3 | rfl)), (neT (by omega)), (intE (by exact wrap_i64 (by omega) (by omega))), rfl, rfl, (by exact pureB_N _ _), trivial⟩
theorem ie_end (ws : List Int) (L : List Idr) (N : List Cn) : LoopT C0 ieB (ieS ws L N 9) (.exit 6) (ieS ws L N 9) := by
  exact LoopT.fin (hs := hint []) (f := { ks := [0, 6, 7, 21], l := [0, 1] }) (ps := [true = true, true = true, pureB (Bk.map (List.map rowN N) false) = true]) (by kernel_rfl) ⟨rfl, rfl, (by exact pureB_N _ _), trivial⟩ (by decide)
theorem ie_all (ws : List Int) (sts : List Stu) (L : List Idr) (N : List Cn) (h : IdOk sts L N) (hL : L.length ≤ 40) : LoopT C0 ieB (ieS ws L N 1) (.exit 6) (ieS ws L N 9) := by
  have h := LoopT.count (C := C0) (c := ieB) (e := .exit 6) (st' := ieS ws L N 9) (fun k => ieS ws L N ((k : Int) + 1)) 8 (fun k hk => ?_) (by rw [show (((8 : Nat) : Int) + 1) = 9 from rfl]; exact ie_end ws L N) 0 (by omega)
  · exact h
  · have e : ((k + 1 : Nat) : Int) + 1 = ((k : Int) + 1) + 1 := by omega
    show Tri C0 ieB (ieS ws L N ((k : Int) + 1)) .normal (ieS ws L N (((k + 1 : Nat) : Int) + 1))
    rw [e]
    have e3 := look_N N ((k : Int) + 1)
    rw [h.nn] at e3
    exact ie_step ws L N _ _ (by omega) (by omega) (of_ok L _ h.ok hL) e3 (kwf_N (by omega) (by omega)) (allK_row fun x hx => kwf_N (by have := h.nc x hx; omega) (by have := h.nc x hx; omega))
def sts0 : List Stu := [⟨1, 1, 0, "B\x01\x00\x00".toUTF8⟩, ⟨0, 2, 0, "l\x01\x00\x00".toUTF8⟩, ⟨1, 3, 0, "B\x01\x00\x00".toUTF8⟩, ⟨0, 4, 0, "l\x01\x00\x00".toUTF8⟩, ⟨1, 5, 0, "B\x01\x00\x00".toUTF8⟩, ⟨0, 6, 0, "l\x01\x00\x00".toUTF8⟩, ⟨1, 7, 0, "B\x01\x00\x00".toUTF8⟩, ⟨0, 8, 0, "l\x01\x00\x00".toUTF8⟩]
theorem ok0 : IdOk sts0 [] [] := by
  refine ⟨rfl, fun j hj => ?_, List.Pairwise.nil, by simp, by simp, List.Pairwise.nil, by simp, fun c => rfl⟩
  match j, hj with
  | 0, _ => exact ⟨rfl, rfl⟩
  | 1, _ => exact ⟨rfl, rfl⟩
  | 2, _ => exact ⟨rfl, rfl⟩
  | 3, _ => exact ⟨rfl, rfl⟩
  | 4, _ => exact ⟨rfl, rfl⟩
  | 5, _ => exact ⟨rfl, rfl⟩
  | 6, _ => exact ⟨rfl, rfl⟩
  | 7, _ => exact ⟨rfl, rfl⟩
theorem ioz_end (ws ks : List Int) (sts : List Stu) (L : List Idr) (N : List Cn) : LoopT C0 ioB (idS ws ks sts L N ws.length) (.exit 2) (idS ws ks sts L N ws.length) := by
  exact LoopT.fin (hs := hint [((16,0), {val := some (bl (false))})]) (f := { ks := [0, 1, 5, 6, 7, 44, 45, 46], l := [0, 1, 2] }) (ps := [bl (decide ((↑ws.length : Int) < (↑ws.length : Int))) = bl (false), true = true, pureB (Bk.arr (90 : Nat) (AV.s (Value.int IntKind.i64 (0 : Int)) :: AV.s (Value.int IntKind.i64 (0 : Int)) :: AV.s (Value.bool false) :: AV.s (Value.int IntKind.i64 (0 : Int)) :: AV.s (Value.int IntKind.i64 (0 : Int)) :: AV.s (Value.int IntKind.i64 (0 : Int)) :: AV.s (Value.string { data := { toList := [] : Array UInt8 } : ByteArray }) :: AV.s (Value.string { data := { toList := [] : Array UInt8 } : ByteArray }) :: AV.nsl :: AV.mp [] :: List.flatMap stuL sts) (0 : Fz)) = true, true = true, pureB (Bk.map (List.map rowN N) false) = true]) (by kernel_rfl) ⟨(bdF (by omega)), rfl, (by exact pureB_st _ _ _), rfl, (by exact pureB_N _ _), trivial⟩ (by decide)
theorem ioz_all (ws ks : List Int) (hw : ws.length ≤ 40) (bw : ∀ x ∈ ws, 0 ≤ x ∧ x ≤ 255) (bk : ∀ x ∈ ks, 0 ≤ x ∧ x ≤ 255) : ∀ (d i : Nat) (sts : List Stu) (L : List Idr) (N : List Cn), i + d = ws.length → L.length = i → IdOk sts L N →
    ∃ sts' L' N', LoopT C0 ioB (idS ws ks sts L N i) (.exit 2) (idS ws ks sts' L' N' ws.length) ∧ L'.length = ws.length ∧ IdOk sts' L' N' := by
  intro d
  induction d with
  | zero =>
    intro i sts L N hi hL h
    obtain rfl : i = ws.length := by omega
    exact ⟨sts, L, N, ioz_end ws ks sts L N, hL, h⟩
  | succ d ih =>
    intro i sts L N hi hL h
    obtain ⟨sts1, L1, N1, T, hL1, h1⟩ := id_round ws ks hw bw bk i (by omega) sts L N hL h
    obtain ⟨sts2, L2, N2, T2, hL2, h2⟩ := ih (i + 1) sts1 L1 N1 (by omega) hL1 h1
    exact ⟨sts2, L2, N2, LoopT.next T T2, hL2, h2⟩
theorem ids_big (ws ks : List Int) (hw : 40 < ws.length) (hl : ws.length ≤ 9223372036854775807) : Pu 4 [slB ws, slB ks] (bl true) := by
  have a := idaw_ok
  exact pure_of (hs := hint [((1,0), {call := some ((bl true))}), ((3,2), {val := some (bl (true))})]) (ps := [_, bl (decide ((↑ws.length : Int) > (40 : Int))) = bl (true)]) (by kernel_rfl) ⟨(a), (bdT (by omega)), trivial⟩
theorem ids_go (ws ks : List Int) (hw : ws.length ≤ 40) (sts : List Stu) (L : List Idr) (N : List Cn) (hL : L.length = ws.length) (L1 : LoopT C0 ioB (idS ws ks sts0 [] [] 0) (.exit 2) (idS ws ks sts L N ws.length)) (L2 : LoopT C0 ieB (ieS ws L N 1) (.exit 6) (ieS ws L N 9)) : Pu 4 [slB ws, slB ks] (bl true) := by
  have a := idaw_ok
  have n1 := new1_ok 1 (by omega) (by omega)
  have n2 := new0_ok 2 (by omega) (by omega)
  have n3 := new1_ok 3 (by omega) (by omega)
  have n4 := new0_ok 4 (by omega) (by omega)
  have n5 := new1_ok 5 (by omega) (by omega)
  have n6 := new0_ok 6 (by omega) (by omega)
  have n7 := new1_ok 7 (by omega) (by omega)
  have n8 := new0_ok 8 (by omega) (by omega)
  have ln := hlen_ok L
  exact pure_cast (pure_of (hs := hint [((1,0), {call := some ((bl true))}), ((3,2), {val := some (bl (false))}), ((11001,3), {call := some (AV.tup [(A (stbL (1 : Int) (1 : Int) (0 : Int) "B\x01\x00\x00".toUTF8)), (i64 (0 : Int))])}), ((11002,3), {call := some (AV.tup [(A (stbL (0 : Int) (2 : Int) (0 : Int) "l\x01\x00\x00".toUTF8)), (i64 (0 : Int))])}), ((11003,3), {call := some (AV.tup [(A (stbL (1 : Int) (3 : Int) (0 : Int) "B\x01\x00\x00".toUTF8)), (i64 (0 : Int))])}), ((11004,3), {call := some (AV.tup [(A (stbL (0 : Int) (4 : Int) (0 : Int) "l\x01\x00\x00".toUTF8)), (i64 (0 : Int))])}), ((11005,3), {call := some (AV.tup [(A (stbL (1 : Int) (5 : Int) (0 : Int) "B\x01\x00\x00".toUTF8)), (i64 (0 : Int))])}), ((11006,3), {call := some (AV.tup [(A (stbL (0 : Int) (6 : Int) (0 : Int) "l\x01\x00\x00".toUTF8)), (i64 (0 : Int))])}), ((11007,3), {call := some (AV.tup [(A (stbL (1 : Int) (7 : Int) (0 : Int) "B\x01\x00\x00".toUTF8)), (i64 (0 : Int))])}), ((11008,3), {call := some (AV.tup [(A (stbL (0 : Int) (8 : Int) (0 : Int) "l\x01\x00\x00".toUTF8)), (i64 (0 : Int))])}), ((9,1000), {unroll := 9}), ((16,1000), {loop := some ({ ks := [0, 1, 5, 6, 7, 44, 45, 46], l := [0, 1, 2] }, idS ws ks sts0 [] [] (0 : Nat), Ex.exit (2 : Nat), idS ws ks sts L N ws.length)}), ((40,1000), {loop := some ({ ks := [0, 6, 7, 21], l := [1, 2] }, ieS ws L N (1 : Int), Ex.exit (6 : Nat), ieS ws L N (9 : Int))}), ((44,1), {call := some ((i64 (↑L.length : Int)))})]) (r := bl ((↑L.length : Int) == (↑ws.length : Int))) (ps := [_, bl (decide ((↑ws.length : Int) > (40 : Int))) = bl (false), _, _, _, _, _, _, _, _, idS ws ks sts0 [] [] (0 : Nat) = idS ws ks sts0 [] [] (0 : Nat), _, true = true, true = true, true = true, true = true, ieS ws L N (1 : Int) = ieS ws L N (1 : Int), _, true = true, true = true, pureB (Bk.map (List.map rowN N) false) = true, _]) (by kernel_rfl) ⟨(a), (bdF (by omega)), (n1), (n2), (n3), (n4), (n5), (n6), (n7), (n8), rfl, L1, rfl, rfl, rfl, rfl, rfl, L2, rfl, rfl, (by exact pureB_N _ _), (ln), trivial⟩) (by (simp; omega))
theorem ids_ok (ws ks : List Int) (hl : ws.length ≤ 9223372036854775807) (bw : ∀ x ∈ ws, 0 ≤ x ∧ x ≤ 255) (bk : ∀ x ∈ ks, 0 ≤ x ∧ x ≤ 255) : Pu 4 [slB ws, slB ks] (bl true) := by
  by_cases hw : ws.length ≤ 40
  · obtain ⟨sts, L, N, L1, hL, h⟩ := ioz_all ws ks hw bw bk ws.length 0 sts0 [] [] (by omega) rfl ok0
    exact ids_go ws ks hw sts L N hL L1 (ie_all ws sts L N h (by omega))
  · exact ids_big ws ks (by omega) hl
theorem fits_bs {cs : List AV} (h : Fits (.sl (.int .u8)) cs) : ∃ l : List Int, cs = [slB l] ∧ l.length ≤ 9223372036854775807 ∧ ∀ x ∈ l, 0 ≤ x ∧ x ≤ 255 := by
  obtain ⟨l, h1, h3, h2⟩ := fits_list (enc := eB) (Q := fun x => 0 ≤ x ∧ x ≤ 255) (fun cs hc => by obtain ⟨n, rfl, a, b⟩ := fits_u8 hc; exact ⟨n, rfl, a, b⟩) h
  exact ⟨l, h1, Nat.le_trans h3 (by decide), h2⟩
end Go.Proofs.Ytdcoomeagbjhlaa
