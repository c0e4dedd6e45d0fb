/- The line: what a packet does, what is read then. By the prover of this seat. The line: a pick, plainly. By the prover of this seat. The line: a pick, joined. By the prover of this seat. The line: a pick, joined (packets that come); all picks. By the prover of this seat. The line: what is left is sent; calm. By the prover of this seat. Whatever the line does: the law. By the prover of this seat. What the row's list gives: the cells of the table; what comes in. By the prover of this seat. -/
import Derived.Test.YtdcoomeagbjhlaaDoorEy
import Derived.Test.YtdcoomeagbjhlaaDoorRows
set_option linter.unusedVariables false
set_option linter.unusedSimpArgs false
set_option maxRecDepth 100000
set_option maxHeartbeats 4000000
namespace Go.Proofs.YtdcoomeagbjhlaaDoor.Lk
open Go.RowKit Go.Pm
open Go.Proofs.YtdcoomeagbjhlaaDoor.Or (G1 C1 Pu)
open Go.Proofs.YtdcoomeagbjhlaaDoor.Ca (eS slS cacheA outP)
theorem cat_count : ∀ P : List ByteArray, (∀ p ∈ P, 1 ≤ p.size) → P.length ≤ (catB P).size
  | [], _ => Nat.zero_le _
  | x :: P, h => by
    have h1 := cat_count P fun p hp => h p (List.mem_cons_of_mem _ hp)
    have h2 := h x (List.mem_cons_self ..)
    have e : (catB (x :: P)).size = x.size + (catB P).size := ByteArray.size_append
    rw [e, List.length_cons]
    omega
theorem AI.bounds {m : Nat} {l : List ByteArray} (h : Msgs m l) {most sent : Nat} {P : List ByteArray} {A : En} {lo : Nat} (hA : AI most (catB ((frs m l).take sent)) P A lo) : P.length ≤ 2460 ∧ (catB P).size + A.rest.size ≤ 2460 ∧ (catB P).size ≤ offs (frs m l) sent := by
  have h1 := frs_size h
  have h2 := offs_le (frs m l) sent
  have h3 := congrArg ByteArray.size hA.cat
  rw [ByteArray.size_append] at h3
  have h4 := cat_count P fun p hp => (hA.sz p hp).1
  have h5 : (catB ((frs m l).take sent)).size = offs (frs m l) sent := rfl
  exact ⟨by omega, by omega, by omega⟩
theorem sumK_bd {most lo : Nat} {Z : ByteArray} {P : List ByteArray} {A : En} (hA : AI most Z P A lo) : ∀ k, k ≤ A.way.length → sumK A.way k ≤ k * most
  | 0, _ => Nat.zero_le _
  | k + 1, hk => by
    have h1 := sumK_bd hA k (by omega)
    have h2 := (hA.num k (by omega)).2
    have h3 := hA.sz _ (nth_mem (show lo + k < P.length by have := hA.len; omega))
    show sumK A.way k + (nth A.way k).b.size ≤ _
    rw [h2, Nat.succ_mul]
    omega
theorem BJ.asd_le {most : Nat} {P : List ByteArray} {B : En} {E0 : Nat} (hB : BJ most P B E0) (hs : ∀ p ∈ P, 1 ≤ p.size ∧ p.size ≤ most) (hm : most ≤ 9) (i : Nat) : (B.asd i).size ≤ 1024 := by
  rcases hB.asd i with q | ⟨_, q2, q3⟩
  · rw [q]; exact Nat.zero_le _
  · rw [q3]
    have := (hs _ (nth_mem q2)).2
    omega
/-- a receiver gets a packet -/
theorem b_got {most : Nat} {P : List ByteArray} {B : En} {E0 lo : Nat} {q : ByteArray} (hB : BI most P B E0) (hq : PkA P q) (hs : ∀ p ∈ P, 1 ≤ p.size ∧ p.size ≤ most) (hm1 : 1 ≤ most) (hm : most ≤ 9) (hlo : lo ≤ B.exp) (hl : P.length ≤ lo + 16) (hP : (catB P).size ≤ 2460) : ∃ B', Pu 22 [enA B, st q] (.tup [enA B', i64 0]) ∧ BI most P B' E0 ∧ B.exp ≤ B'.exp ∧ (∀ k, q = pkB 0 k 0 (nth P k) → k < P.length → k ≤ B.exp → k + 1 ≤ B'.exp ∧ B'.ack = true) := by
  have hc := cat_count P fun p hp => (hs p hp).1
  have hrd : B.read.size ≤ 2460 := by
    have a := congrArg ByteArray.size hB.rd
    rw [ByteArray.size_append] at a
    have b := offs_le P B.exp
    have c : (catB (P.take B.exp)).size = offs P B.exp := rfl
    omega
  have hmo := hB.mo
  have hex := hB.exp
  rcases hq with ⟨k, hk, rfl⟩ | rfl
  · have hp := hs _ (nth_mem hk)
    have hg := got_data B k 0 (nth P k) (by omega) (Nat.zero_le _) hp.1 (by omega) (by omega) (by omega) (by omega) (by omega) (by rw [hB.way]; exact Nat.zero_le _) (by rw [hB.nx]; omega) (by rw [hB.rest]; exact Nat.zero_le _) (hB.asd_le hs hm) (by omega)
    obtain ⟨t1, t2, t3, t4⟩ := take_ok hB hk (by omega) hp.1
    rw [gotD_b hB ⟨t1.way, t1.rest⟩ 0] at hg
    refine ⟨_, hg, t1, t2, fun k' e hk' hle => ?_⟩
    by_cases hkk : k' = k
    · subst hkk
      exact ⟨t3 hle, t4⟩
    · refine ⟨?_, t4⟩
      -- the packet of k' is that of k only if both are one
      have h1 := (pk_is 0 k 0 (nth P k) (by omega) (by omega) (by omega) (by omega)).num
      have h2 := (pk_is 0 k' 0 (nth P k') (by omega) (by omega) (by omega) (by have := hs _ (nth_mem hk'); omega)).num
      have a1 : (pkB 0 k 0 (nth P k)).extract 3 5 = strA [u8 ((k : Int) / 256), u8 ((k : Int) % 256)] := by
        unfold pkB
        rw [strA_ext]
        rfl
      have a2 : (pkB 0 k' 0 (nth P k')).extract 3 5 = strA [u8 ((k' : Int) / 256), u8 ((k' : Int) % 256)] := by
        unfold pkB
        rw [strA_ext]
        rfl
      rw [e, a2] at a1
      have b0 : byN (strA [u8 ((k' : Int) / 256), u8 ((k' : Int) % 256)]) 0 = byN (strA [u8 ((k : Int) / 256), u8 ((k : Int) % 256)]) 0 := by rw [a1]
      have b1 : byN (strA [u8 ((k' : Int) / 256), u8 ((k' : Int) % 256)]) 1 = byN (strA [u8 ((k : Int) / 256), u8 ((k : Int) % 256)]) 1 := by rw [a1]
      rw [strA_at _ 0 _ (by omega) rfl, strA_at _ 0 _ (by omega) rfl] at b0
      rw [strA_at _ 1 _ (by omega) rfl, strA_at _ 1 _ (by omega) rfl] at b1
      omega
  · have hg := got_ack B 0 (Nat.zero_le _) (by omega) (by omega) (by omega) (by rw [hB.way]; exact Nat.zero_le _) (by rw [hB.nx]; omega) (by rw [hB.rest]; exact Nat.zero_le _)
    rw [gotA_b hB 0] at hg
    refine ⟨B, hg, hB, Nat.le_refl _, fun k e hk hle => ?_⟩
    exfalso
    have a : byN (pkB 1 0 0 e0) 0 = 1 := by unfold pkB; exact strA_at _ 0 _ (by omega) rfl
    have b : byN (pkB 0 k 0 (nth P k)) 0 = 0 := by unfold pkB; exact strA_at _ 0 _ (by omega) rfl
    rw [e, b] at a
    omega
/-- a sender gets one -/
theorem a_got {m : Nat} {l : List ByteArray} (h : Msgs m l) {most sent : Nat} {P : List ByteArray} {A : En} {lo E : Nat} {q : ByteArray} (hA : AI most (catB ((frs m l).take sent)) P A lo) (hm1 : 1 ≤ most) (hm : most ≤ 9) (hE : lo ≤ E) (hE2 : E ≤ P.length) (hq : PkB E q) : ∃ t, t ≤ E ∧ q = pkB 1 0 t e0 ∧ Pu 22 [enA A, st q] (.tup [enA (gotA A t), i64 0]) := by
  obtain ⟨t, ht, rfl⟩ := hq
  obtain ⟨b1, b2, b3⟩ := hA.bounds h
  have hmo := hA.mo
  have hw := hA.w16
  exact ⟨t, ht, rfl, got_ack A t (by rw [hA.nx]; omega) (by omega) (by omega) (by rw [hA.ex]; omega) (by omega) (by rw [hA.nx]; omega) (by omega)⟩
theorem over1 (e e' : En) (q : ByteArray) (h : Pu 22 [enA e, st q] (.tup [enA e', i64 0])) : Pu 9 [enA e, slS [q]] (.tup [enA e', bl true]) :=
  over_ok [q] (fun k => if k = 0 then e else e') (by simp) (fun k hk => by
    have : k = 0 := by simp at hk; exact hk
    subst this
    exact h)
theorem Rw.Ok.one {w : Rw} {th : List ByteArray} (h : w.Ok th) {i : Nat} (hi : i < w.n) : AV.sl 1 (List.take (1 * 1) (List.drop (w.off + i) w.cs)) = slS [nth th i] := by
  rw [h.part i 1 (by omega)]
  have hn := h.n
  rw [drop_nth (show i < th.length by omega)]
  rfl
theorem whole_sent {m : Nat} {l : List ByteArray} (h : Msgs m l) {c sent : Nat} (hs : sent ≤ l.length) (hc : c ≤ offs (frs m l) sent) : whole (frs m l) c ≤ sent := by
  obtain ⟨w1, w2, w3⟩ := whole_le (frs m l) c
  rw [frs_len] at w1
  rcases Nat.lt_or_ge sent (whole (frs m l) c) with q | q
  · have h1 := offs_succ (X := frs m l) (k := sent) (by rw [frs_len]; omega)
    rw [frs_nth (by omega)] at h1
    have h2 := (h.fr (show sent < l.length by omega)).1
    have h3 := offs_mono (X := frs m l) (i := sent + 1) (j := whole (frs m l) c) q (by rw [frs_len]; exact w1)
    omega
  · exact q
def mkL (m : Nat) (l : List ByteArray) (sent : Nat) : List Int := (List.range (sent + 1)).map fun j => Ca.markD (kc m l j)
theorem mkL_len (m : Nat) (l : List ByteArray) (sent : Nat) : (mkL m l sent).length = sent + 1 := by unfold mkL; rw [List.length_map, List.length_range]
theorem mkL_nth (m : Nat) (l : List ByteArray) {sent j : Nat} (h : j ≤ sent) : nth (mkL m l sent) j = Ca.markD (kc m l j) := by
  unfold mkL nth
  simp [show j < sent + 1 by omega]
theorem mkL_succ (m : Nat) (l : List ByteArray) (sent : Nat) : mkL m l (sent + 1) = mkL m l sent ++ [Ca.markD (kc m l (sent + 1))] := by
  unfold mkL
  rw [List.range_succ, List.map_append]
  rfl
theorem mark_kc {m : Nat} {l : List ByteArray} (h : Msgs m l) {j : Nat} (hj : j ≤ l.length) : Pu 6 [cacheA m (kc m l j)] (u64v (Ca.markD (kc m l j))) :=
  Ca.mark_ok m (kc m l j) (by have := kc_len h j; omega) (fun x hx => by have := kc_size h hj x hx; omega)
/-- what is read behind a pick -/
theorem tail_ok {m : Nat} {l : List ByteArray} (h : Msgs m l) {most sent : Nat} {P : List ByteArray} {A B : En} {lo E0 : Nat} (hA : AI most (catB ((frs m l).take sent)) P A lo) (hs : sent ≤ l.length) (hB : BI most P B E0) :
    Pu 12 [leA (bLe m l (whole (frs m l) (offs P E0)) (offs P E0) B)] (.tup [leA (bLe m l (whole (frs m l) (offs P B.exp)) (offs P B.exp) { B with read := e0 }), bl true]) ∧ BI most P { B with read := e0 } B.exp ∧
    Pu 13 [slS (l.take (whole (frs m l) (offs P B.exp))), slS (l.take sent)] (bl true) ∧ whole (frs m l) (offs P B.exp) ≤ sent ∧ (l.take (whole (frs m l) (offs P B.exp))).length = whole (frs m l) (offs P B.exp) := by
  have hcat : catB P ++ (A.rest ++ catB ((frs m l).drop sent)) = catB (frs m l) := by
    rw [← ByteArray.append_assoc, hA.cat, ← cat_split]
  obtain ⟨r1, r2⟩ := read_all h hcat hB
  obtain ⟨b1, b2, b3⟩ := hA.bounds h
  have hg := whole_sent h hs (Nat.le_trans (offs_le P B.exp) b3)
  have hgl : (l.take (whole (frs m l) (offs P B.exp))).length = whole (frs m l) (offs P B.exp) := by rw [List.length_take]; omega
  refine ⟨r1, r2, begins_ok _ _ (by rw [hgl, List.length_take]; omega) (by rw [hgl]; have := h.len; omega) (fun k hk => ?_), hg, hgl⟩
  rw [hgl] at hk
  unfold nth
  rw [List.getD_eq_getElem?_getD, List.getD_eq_getElem?_getD, List.getElem?_take, List.getElem?_take, if_pos hk, if_pos (by omega)]
end Go.Proofs.YtdcoomeagbjhlaaDoor.Lk
set_option linter.unusedVariables false
set_option linter.unusedSimpArgs false
set_option maxRecDepth 100000
set_option maxHeartbeats 4000000
namespace Go.Proofs.YtdcoomeagbjhlaaDoor.Lk
open Go.RowKit Go.Pm
open Go.Proofs.YtdcoomeagbjhlaaDoor.Or (G1 C1 Pu)
open Go.Proofs.YtdcoomeagbjhlaaDoor.Ca (eS slS cacheA outP)
def bS (m : Nat) (l : List ByteArray) (P : List ByteArray) (B : En) : Le := bLe m l (whole (frs m l) (offs P B.exp)) (offs P B.exp) B
structure TI (m most : Nat) (l : List ByteArray) (k sent : Nat) (A B : En) (P : List ByteArray) (lo : Nat) (th bk : List ByteArray) : Prop where
  hA : AI most (catB ((frs m l).take sent)) P A lo
  hs : sent ≤ l.length
  hB : BI most P B B.exp
  lo : lo ≤ B.exp
  thP : ∀ q ∈ th, PkA P q
  bkP : ∀ q ∈ bk, PkB B.exp q
  thn : th.length ≤ 17 * k
  bkn : bk.length ≤ k
theorem offs_app {P P' : List ByteArray} {e : Nat} (h : e ≤ P.length) : offs (P ++ P') e = offs P e := by
  unfold offs
  rw [List.take_append_of_le_length h]
theorem PkB.mono {E E' : Nat} {q : ByteArray} (h : PkB E q) (hE : E ≤ E') : PkB E' q := by
  obtain ⟨t, h1, h2⟩ := h
  exact ⟨t, by omega, h2⟩
section
variable {m most : Nat} {l : List ByteArray} (h : Msgs m l) (hm1 : 1 ≤ most) (hm9 : most ≤ 9)
include h
/-- the reading behind a pick, as the round asks for it -/
theorem tail2 {sent' : Nat} {A' B B1 : En} {P P' : List ByteArray} {lo' : Nat} (hA : AI most (catB ((frs m l).take sent')) (P ++ P') A' lo') (hs : sent' ≤ l.length) (hE : B.exp ≤ P.length) (hB : BI most (P ++ P') B1 B.exp) :
    Pu 12 [leA { bS m l P B with ln := B1 }] (.tup [leA (bS m l (P ++ P') { B1 with read := e0 }), bl true]) ∧
    Pu 13 [slS (bS m l (P ++ P') { B1 with read := e0 }).got, slS (l.take sent')] (bl true) ∧
    Pu 6 [cacheA (bS m l (P ++ P') { B1 with read := e0 }).m (bS m l (P ++ P') { B1 with read := e0 }).kl] (u64v (Ca.markD (kc m l (whole (frs m l) (offs (P ++ P') B1.exp))))) ∧
    (bS m l (P ++ P') { B1 with read := e0 }).got.length ≤ sent' ∧
    nth (mkL m l sent') (bS m l (P ++ P') { B1 with read := e0 }).got.length = Ca.markD (kc m l (whole (frs m l) (offs (P ++ P') B1.exp))) ∧
    BI most (P ++ P') { B1 with read := e0 } ({ B1 with read := e0 } : En).exp := by
  obtain ⟨t1, t2, t3, t4, t5⟩ := tail_ok h hA hs hB
  rw [offs_app hE] at t1
  refine ⟨t1, t3, mark_kc h (show whole (frs m l) (offs (P ++ P') B1.exp) ≤ l.length from Nat.le_trans t4 hs), ?_, ?_, t2⟩
  · show (l.take (whole (frs m l) (offs (P ++ P') B1.exp))).length ≤ sent'
    rw [t5]
    exact t4
  · show nth (mkL m l sent') (l.take (whole (frs m l) (offs (P ++ P') B1.exp))).length = _
    rw [t5]
    exact mkL_nth m l t4
end
/-- one of many states, round by round -/
theorem rounds {c : Code} {e : Ex} (Q : Nat → St → Prop) (n : Nat) (step : ∀ k, k < n → ∀ s, Q k s → ∃ s', Tri C1 c s .normal s' ∧ Q (k + 1) s') (fin : ∀ s, Q n s → LoopT C1 c s e s) : ∀ d k s, k + d = n → Q k s → ∃ s', LoopT C1 c s e s' ∧ Q n s'
  | 0, k, s, hd, hq => by
    have : k = n := by omega
    subst this
    exact ⟨s, fin s hq, hq⟩
  | d + 1, k, s, hd, hq => by
    obtain ⟨s1, h1, h2⟩ := step k (by omega) s hq
    obtain ⟨s2, h3, h4⟩ := rounds Q n step fin d (k + 1) s1 (by omega) h2
    exact ⟨s2, LoopT.next h1 h3, h4⟩
theorem Rw.Ok.app {w : Rw} {th : List ByteArray} (h : w.Ok th) (due : List ByteArray) (hb : w.n + due.length ≤ 100000) : Rw.Ok ⟨(w.n + due.length) * 1, 0, w.n + due.length, w.f - w.off, w.cs.drop w.off ++ due.flatMap eS⟩ (th ++ due) := by
  have h1 := h.len
  have h2 := h.cl
  have h3 := h.row
  have h4 := h.n
  have h5 := h.f
  have hp : (w.cs.drop w.off ++ due.flatMap eS).all pureC = true := by
    rw [h3, List.all_append]
    rw [show (th.flatMap eS).all pureC = true from row_pureB (fun _ => rfl) th 0 0, show (due.flatMap eS).all pureC = true from row_pureB (fun _ => rfl) due 0 0]
    rfl
  refine ⟨rfl, ?_, ?_, by show w.n + due.length = _; rw [List.length_append, h4], by show w.f - w.off ≤ (w.n + due.length) * 1; omega, hp, hb, Nat.zero_le _⟩
  · show (w.cs.drop w.off ++ due.flatMap eS).length = (w.n + due.length) * 1
    rw [List.length_append, List.length_drop, row_len (sz := 1) (fun _ => rfl)]
    omega
  · show w.cs.drop w.off ++ due.flatMap eS = _
    rw [h3, List.flatMap_append]
theorem w0_ok : Rw.Ok ⟨0, 0, 0, 0, []⟩ [] := ⟨rfl, rfl, rfl, rfl, Nat.le_refl _, rfl, Nat.zero_le _, Nat.zero_le _⟩
/-- a row without one of its elements -/
theorem Rw.Ok.del {w : Rw} {th : List ByteArray} (h : w.Ok th) {i : Nat} (hi : i < w.n) :
    let c1 := (th.take i).flatMap eS
    let cs' := (th.eraseIdx i).flatMap eS
    cs'.all pureC = true ∧ c1.length = i ∧ [] ++ List.take (i * 1) (List.drop w.off w.cs) = c1 ∧ (List.take (i * 1) (List.drop w.off w.cs)).length = i * 1 ∧ c1 ++ List.take ((w.n - (i + 1)) * 1) (List.drop (w.off + (i + 1)) w.cs) = cs' ∧ (List.take ((w.n - (i + 1)) * 1) (List.drop (w.off + (i + 1)) w.cs)).length = (w.n - (i + 1)) * 1 ∧ Rw.Ok ⟨(0 + i + (w.n - (i + 1))) * 1, 0, 0 + i + (w.n - (i + 1)), 0, cs'⟩ (th.eraseIdx i) := by
  intro c1 cs'
  have h4 := h.n
  have hb := h.big
  have hp : cs'.all pureC = true := row_pureB (fun _ => rfl) (th.eraseIdx i) 0 0
  have e1 := h.part 0 i (by omega)
  rw [Nat.add_zero, List.drop_zero] at e1
  have e2 := h.part (i + 1) (w.n - (i + 1)) (by omega)
  have e3 : (th.drop (i + 1)).take (w.n - (i + 1)) = th.drop (i + 1) := List.take_of_length_le (by rw [List.length_drop]; omega)
  rw [e3] at e2
  have l1 := h.len2 0 i (by omega)
  rw [Nat.add_zero] at l1
  have el : (th.eraseIdx i).length = 0 + i + (w.n - (i + 1)) := by rw [List.length_eraseIdx, if_pos (by omega)]; omega
  refine ⟨hp, ?_, e1, l1, ?_, h.len2 (i + 1) _ (by omega), ⟨rfl, ?_, rfl, el.symm, Nat.zero_le _, hp, by show 0 + i + (w.n - (i + 1)) ≤ _; omega, Nat.zero_le _⟩⟩
  · show ((th.take i).flatMap eS).length = i
    rw [row_len (sz := 1) (fun _ => rfl), List.length_take]
    omega
  · rw [e2]
    show (th.take i).flatMap eS ++ (th.drop (i + 1)).flatMap eS = (th.eraseIdx i).flatMap eS
    rw [List.eraseIdx_eq_take_drop_succ, List.flatMap_append]
  · show ((th.eraseIdx i).flatMap eS).length = (0 + i + (w.n - (i + 1))) * 1
    rw [row_len (sz := 1) (fun _ => rfl), el]
theorem Rw.Ok.cut {w : Rw} {th : List ByteArray} (h : w.Ok th) (d : Nat) (hd : d ≤ w.n) (ho : w.off + d ≤ 100000) : Rw.Ok { w with off := w.off + d, n := w.n - d } (th.drop d) := by
  have h1 := h.len
  have h4 := h.n
  have hb := h.big
  refine ⟨by show w.L = (w.n - d) * 1 + (w.off + d); omega, h.cl, ?_, by show w.n - d = _; rw [List.length_drop, h4], h.f, h.pu, by show w.n - d ≤ _; omega, ho⟩
  show w.cs.drop (w.off + d) = _
  rw [← List.drop_drop, h.row]
  have := flat_drop (sz := 1) (enc := eS) (fun _ => rfl) th d
  rw [Nat.mul_one] at this
  exact this
theorem Rw.Ok.frz {w : Rw} {th : List ByteArray} (h : w.Ok th) : Rw.Ok { w with f := w.L } th := ⟨h.len, h.cl, h.row, h.n, Nat.le_refl _, h.pu, h.big, h.bo⟩
end Go.Proofs.YtdcoomeagbjhlaaDoor.Lk
set_option linter.unusedVariables false
set_option linter.unusedSimpArgs false
set_option maxRecDepth 100000
set_option maxHeartbeats 4000000
namespace Go.Proofs.YtdcoomeagbjhlaaDoor.Lk
open Go.RowKit Go.Pm
open Go.Proofs.YtdcoomeagbjhlaaDoor.Or (G1 C1 Pu)
open Go.Proofs.YtdcoomeagbjhlaaDoor.Ca (eS slS cacheA outP)
section
variable {m most : Nat} {l : List ByteArray}
theorem AI.pcs (h : Msgs m l) {sent : Nat} {P : List ByteArray} {A : En} {lo : Nat} (hm9 : most ≤ 9) (hA : AI most (catB ((frs m l).take sent)) P A lo) : ∀ p ∈ A.way, PcOk p := by
  intro p hp
  obtain ⟨b1, b2, b3⟩ := hA.bounds h
  obtain ⟨i, hi, rfl⟩ := List.getElem_of_mem hp
  obtain ⟨a, b⟩ := hA.num i hi
  rw [nth_eq hi] at a b
  have hl := hA.len
  have hs := hA.sz _ (nth_mem (show lo + i < P.length by omega))
  exact ⟨by omega, by rw [b]; exact hs.1, by rw [b]; omega⟩
theorem tail3 (h : Msgs m l) {sent : Nat} {A' B B1 : En} {P : List ByteArray} {lo' : Nat} (hA : AI most (catB ((frs m l).take sent)) P A' lo') (hs : sent ≤ l.length) (hE : B.exp ≤ P.length) (hB : BI most P B1 B.exp) :
    Pu 12 [leA { bS m l P B with ln := B1 }] (.tup [leA (bS m l P { B1 with read := e0 }), bl true]) ∧
    Pu 13 [slS (bS m l P { B1 with read := e0 }).got, slS (l.take sent)] (bl true) ∧
    Pu 6 [cacheA (bS m l P { B1 with read := e0 }).m (bS m l P { B1 with read := e0 }).kl] (u64v (Ca.markD (kc m l (whole (frs m l) (offs P B1.exp))))) ∧
    (bS m l P { B1 with read := e0 }).got.length ≤ sent ∧
    nth (mkL m l sent) (bS m l P { B1 with read := e0 }).got.length = Ca.markD (kc m l (whole (frs m l) (offs P B1.exp))) ∧
    BI most P { B1 with read := e0 } ({ B1 with read := e0 } : En).exp := by
  have := tail2 h (P' := []) (by rw [List.append_nil]; exact hA) hs hE (by rw [List.append_nil]; exact hB)
  rw [List.append_nil] at this
  exact this
theorem BI.flags {P : List ByteArray} {B : En} {E0 : Nat} (hB : BI most P B E0) (f : Pc → Pc) (c : Bool) : BI most P { B with way := B.way.map f, ack := c } E0 := by
  have e : B.way.map f = [] := by rw [hB.way]; rfl
  exact ⟨⟨hB.mo, e, hB.nx, hB.rest, hB.exp, hB.asd, hB.e0, hB.rd⟩, hB.as0⟩
/-- what holds between two picks -/
def PS (m most : Nat) (l : List ByteArray) (ps : List Int) (k : Nat) (s : St) : Prop := ∃ (sent : Nat) (A B : En) (P : List ByteArray) (lo : Nat) (w v : Rw) (th bk : List ByteArray), s = tpS l ps k sent (aLe m l sent A) (bS m l P B) (sent + 1) (mkL m l sent) w v ∧ TI m most l k sent A B P lo th bk ∧ w.Ok th ∧ v.Ok bk ∧ w.off ≤ 3 * k
theorem send_walk (h : Msgs m l) (hm1 : 1 ≤ most) (hm9 : most ≤ 9) {sent : Nat} {P : List ByteArray} {A : En} {lo : Nat} (hA : AI most (catB ((frs m l).take sent)) P A lo) (hs : sent < l.length) : Pu 7 [leA (aLe m l sent A), st (nth l sent)] (.tup [leA (aLe m l (sent + 1) (sendD A (fr m l sent))), bl true]) ∧ ∃ P', AI most (catB ((frs m l).take (sent + 1))) (P ++ P') (sendD A (fr m l sent)) lo := by
  obtain ⟨b1, b2, b3⟩ := hA.bounds h
  obtain ⟨p1, p2, p3⟩ := h.put hs
  obtain ⟨d1, d2, d3⟩ := h.hd hs
  obtain ⟨f1, f2, f3⟩ := h.fr hs
  have hmo := hA.mo
  have hw := hA.w16
  have hsum := sumK_bd hA A.way.length (Nat.le_refl _)
  have hmul : A.way.length * most ≤ 16 * 9 := Nat.mul_le_mul hw hm9
  constructor
  · have hP := Ca.put_ok m (kc m l sent) (nth l sent) (h.cok sent)
    rw [p1] at hP
    exact send7 (aLe m l sent A) (nth l sent) (sh m l sent) (hd m l sent) (kc m l (sent + 1)) (sendD A (fr m l sent)) (by omega) (by omega) hP d2 (send_ok A (fr m l sent) (by omega) (by omega) (by omega) (by omega) (by rw [hA.nx]; omega))
  · obtain ⟨P', hq⟩ := hA.send hm1 (fr m l sent)
    refine ⟨P', ?_⟩
    have e : catB ((frs m l).take (sent + 1)) = catB ((frs m l).take sent) ++ fr m l sent := by
      rw [take_nth (show sent < (frs m l).length by rw [frs_len]; exact hs), cat_app, frs_nth hs]
      show _ ++ (_ ++ ByteArray.empty) = _
      rw [ByteArray.append_empty]
    rw [e]
    exact hq
end
section
variable {m most : Nat} {l : List ByteArray} {ps : List Int} {k sent : Nat} {A B : En} {P : List ByteArray} {lo : Nat} {w v : Rw} {th bk : List ByteArray} (h : Msgs m l) (hm1 : 1 ≤ most) (hm9 : most ≤ 9) (hT : TI m most l k sent A B P lo th bk) (hw : w.Ok th) (hv : v.Ok bk) (ho : w.off ≤ 3 * k) (hk : k < ps.length) (hps : ps.length ≤ 200) {n : Int} (hn : (nth ps k).tdiv 8 = n) (hn0 : 0 ≤ n ∧ n ≤ 31)
include h hT hw hv ho hk hps hn hn0
theorem r_0b {c : Int} (hc : (nth ps k).tmod 8 = c) (hcv : c = 0) (hse : ¬ sent < l.length) : ∃ s', Tri C1 tpB (tpS l ps k sent (aLe m l sent A) (bS m l P B) (sent + 1) (mkL m l sent) w v) .normal s' ∧ PS m most l ps (k + 1) s' := by
  obtain ⟨t1, t2, t3, t4, t5, t6⟩ := tail3 h hT.hA hT.hs hT.hB.exp hT.hB
  have h12 := h.len
  refine ⟨_, pk_0b l ps k sent _ _ _ _ w v th bk hw hv hk hps h12 hT.hs (mkL_len m l sent).symm rfl c n hc hcv hn hn0 hse _ _ t1 t2 t3 t4 t5, sent, A, _, P, lo, w, v, th, bk, rfl, ⟨hT.hA, hT.hs, t6, hT.lo, hT.thP, hT.bkP, by have := hT.thn; omega, by have := hT.bkn; omega⟩, hw, hv, by omega⟩
include hm1 hm9
theorem r_0a {c : Int} (hc : (nth ps k).tmod 8 = c) (hcv : c = 0) (hse : sent < l.length) : ∃ s', Tri C1 tpB (tpS l ps k sent (aLe m l sent A) (bS m l P B) (sent + 1) (mkL m l sent) w v) .normal s' ∧ PS m most l ps (k + 1) s' := by
  obtain ⟨s1, P', s2⟩ := send_walk h hm1 hm9 hT.hA hse
  obtain ⟨t1, t2, t3, t4, t5, t6⟩ := tail2 h s2 (by omega) hT.hB.exp hT.hB.mono
  have h12 := h.len
  rw [mkL_succ] at t5
  have hp := pk_0a l ps k sent _ _ _ _ w v th bk hw hv hk hps h12 hT.hs (mkL_len m l sent).symm rfl c n hc hcv hn hn0 hse _ _ s1 (mark_kc h (show sent + 1 ≤ l.length by omega)) _ _ t1 t2 t3 t4 t5
  rw [← mkL_succ] at hp
  refine ⟨_, hp, sent + 1, _, _, P ++ P', lo, w, v, th, bk, rfl, ⟨s2, by omega, t6, hT.lo, fun q hq => (hT.thP q hq).mono, hT.bkP, by have := hT.thn; omega, by have := hT.bkn; omega⟩, hw, hv, by omega⟩
theorem r_1 {c : Int} (hc : (nth ps k).tmod 8 = c) (hcv : c = 1) : ∃ s', Tri C1 tpB (tpS l ps k sent (aLe m l sent A) (bS m l P B) (sent + 1) (mkL m l sent) w v) .normal s' ∧ PS m most l ps (k + 1) s' := by
  have u_hm1 := hm1
  have u_ho := ho
  have h16 := hT.hA.w16
  have hD := due_ok A (by omega) (hT.hA.pcs h hm9) (by rw [hT.hA.ex]; omega)
  have hA' := hT.hA.flags duP (fun x => ⟨rfl, rfl⟩) false
  obtain ⟨t1, t2, t3, t4, t5, t6⟩ := tail3 h hA' hT.hs hT.hB.exp hT.hB
  have h12 := h.len
  have hd : (dueR A).length ≤ 17 := by
    unfold dueR
    split
    · simp
    · have := due_le A.exp A.way A.way.length
      rw [List.take_length] at this
      omega
  have hn1 := hT.thn
  have hwn := hw.n
  have hap := hw.app (dueR A) (by omega)
  refine ⟨_, pk_1 l ps k sent _ _ _ _ w v th bk hw hv hk hps h12 hT.hs (mkL_len m l sent).symm rfl c n hc hcv hn hn0 _ _ _ (by omega) hD hap.pu rfl _ _ t1 t2 t3 t4 t5, sent, _, _, P, lo, _, v, _, bk, rfl, ⟨hA', hT.hs, t6, hT.lo, fun q hq => ?_, hT.bkP, by rw [List.length_append]; omega, by have := hT.bkn; omega⟩, hap, hv, Nat.zero_le _⟩
  rcases List.mem_append.1 hq with hq | hq
  · exact hT.thP q hq
  · exact hT.hA.due q hq
theorem r_2 {c : Int} (hc : (nth ps k).tmod 8 = c) (hcv : c = 2) : ∃ s', Tri C1 tpB (tpS l ps k sent (aLe m l sent A) (bS m l P B) (sent + 1) (mkL m l sent) w v) .normal s' ∧ PS m most l ps (k + 1) s' := by
  have u_hm1 := hm1
  have u_hm9 := hm9
  obtain ⟨b1, b2, b3⟩ := hT.hA.bounds h
  have hE := hT.hB.exp
  have hD := due_ok B (by rw [hT.hB.way]; exact Nat.zero_le _) (by rw [hT.hB.way]; intro p hp; cases hp) (by omega)
  have hB' := hT.hB.flags duP false
  obtain ⟨t1, t2, t3, t4, t5, t6⟩ := tail3 h hT.hA hT.hs hT.hB.exp hB'
  have h12 := h.len
  have hdr : ∀ q ∈ dueR B, PkB B.exp q := by
    intro q hq
    unfold dueR at hq
    have e : dueL B.exp B.way = [] := by rw [hT.hB.way]; rfl
    rw [e] at hq
    split at hq
    · rw [List.mem_singleton.1 hq]
      exact ⟨B.exp, Nat.le_refl _, rfl⟩
    · cases hq
  have hd : (dueR B).length ≤ 1 := by
    unfold dueR
    have e : dueL B.exp B.way = [] := by rw [hT.hB.way]; rfl
    rw [e]
    split <;> simp
  have hn1 := hT.bkn
  have hwn := hv.n
  have hap := hv.app (dueR B) (by omega)
  refine ⟨_, pk_2 l ps k sent _ _ _ _ w v th bk hw hv hk hps h12 hT.hs (mkL_len m l sent).symm rfl c n hc hcv hn hn0 _ _ _ (by omega) hD hap.pu rfl _ _ t1 t2 t3 t4 t5, sent, A, _, P, lo, w, _, th, _, rfl, ⟨hT.hA, hT.hs, t6, hT.lo, hT.thP, fun q hq => ?_, by have := hT.thn; omega, by rw [List.length_append]; omega⟩, hw, hap, by omega⟩
  rcases List.mem_append.1 hq with hq | hq
  · exact hT.bkP q hq
  · exact hdr q hq
theorem r_6 {c : Int} (hc : (nth ps k).tmod 8 = c) (hcv : c = 6) : ∃ s', Tri C1 tpB (tpS l ps k sent (aLe m l sent A) (bS m l P B) (sent + 1) (mkL m l sent) w v) .normal s' ∧ PS m most l ps (k + 1) s' := by
  have h16 := hT.hA.w16
  have h12 := h.len
  have ha := hT.hA.mo
  have hb := hT.hB.mo
  obtain ⟨r, hr⟩ : ∃ r : Nat, n.tmod 4 = (r : Nat) := ⟨(n.tmod 4).toNat, by rw [Int.tmod_eq_emod_of_nonneg hn0.1]; omega⟩
  by_cases hr0 : r = 0
  · have hA' := hT.hA.flags tkP (fun x => ⟨rfl, rfl⟩) true
    have hB' := hT.hB.flags tkP true
    obtain ⟨t1, t2, t3, t4, t5, t6⟩ := tail3 h hA' hT.hs hT.hB.exp hB'
    refine ⟨_, pk_6c l ps k sent _ _ _ _ w v th bk hw hv hk hps h12 hT.hs (mkL_len m l sent).symm rfl c n hc hcv hn hn0 r _ _ hr hr0 (cut_ok A (by omega) (by omega)) (cut_ok B (by omega) (by rw [hT.hB.way]; exact Nat.zero_le _)) _ _ t1 t2 t3 t4 t5, sent, _, _, P, lo, _, _, [], [], rfl, ⟨hA', hT.hs, t6, hT.lo, (fun q hq => by cases hq), (fun q hq => by cases hq), Nat.zero_le _, Nat.zero_le _⟩, w0_ok, w0_ok, Nat.zero_le _⟩
  · have hA' := hT.hA.flags tkP (fun x => ⟨rfl, rfl⟩) A.ack
    obtain ⟨t1, t2, t3, t4, t5, t6⟩ := tail3 h hA' hT.hs hT.hB.exp hT.hB
    refine ⟨_, pk_6t l ps k sent _ _ _ _ w v th bk hw hv hk hps h12 hT.hs (mkL_len m l sent).symm rfl c n hc hcv hn hn0 r _ hr hr0 (tick_ok A (by omega)) _ _ t1 t2 t3 t4 t5, sent, _, _, P, lo, w, v, th, bk, rfl, ⟨hA', hT.hs, t6, hT.lo, hT.thP, hT.bkP, by have := hT.thn; omega, by have := hT.bkn; omega⟩, hw, hv, by omega⟩
theorem r_7 {c : Int} (hc : (nth ps k).tmod 8 = c) (hcv : c = 7) : ∃ s', Tri C1 tpB (tpS l ps k sent (aLe m l sent A) (bS m l P B) (sent + 1) (mkL m l sent) w v) .normal s' ∧ PS m most l ps (k + 1) s' := by
  have u_hm1 := hm1
  have u_hm9 := hm9
  obtain ⟨t1, t2, t3, t4, t5, t6⟩ := tail3 h hT.hA hT.hs hT.hB.exp hT.hB
  have h12 := h.len
  obtain ⟨r, hr⟩ : ∃ r : Nat, n.tmod 3 = (r : Nat) := ⟨(n.tmod 3).toNat, by rw [Int.tmod_eq_emod_of_nonneg hn0.1]; omega⟩
  have hr2 : r ≤ 2 := by rw [Int.tmod_eq_emod_of_nonneg hn0.1] at hr; omega
  have hcut := hw.cut (min w.n r) (by omega) (by omega)
  refine ⟨_, pk_7 l ps k sent _ _ _ _ w v th bk hw hv hk hps h12 hT.hs (mkL_len m l sent).symm rfl c n hc hcv hn hn0 r _ hr rfl _ _ t1 t2 t3 t4 t5, sent, A, _, P, lo, _, v, _, bk, rfl, ⟨hT.hA, hT.hs, t6, hT.lo, fun q hq => hT.thP q (List.mem_of_mem_drop hq), hT.bkP, by rw [List.length_drop]; have := hT.thn; omega, by have := hT.bkn; omega⟩, hcut, hv, by show w.off + min w.n r ≤ _; omega⟩
end
end Go.Proofs.YtdcoomeagbjhlaaDoor.Lk
set_option linter.unusedVariables false
set_option linter.unusedSimpArgs false
set_option maxRecDepth 100000
set_option maxHeartbeats 4000000
namespace Go.Proofs.YtdcoomeagbjhlaaDoor.Lk
open Go.RowKit Go.Pm
open Go.Proofs.YtdcoomeagbjhlaaDoor.Or (G1 C1 Pu)
open Go.Proofs.YtdcoomeagbjhlaaDoor.Ca (eS slS cacheA outP)
section
variable {m most : Nat} {l : List ByteArray} {ps : List Int} {k sent : Nat} {A B : En} {P : List ByteArray} {lo : Nat} {w v : Rw} {th bk : List ByteArray} (h : Msgs m l) (hm1 : 1 ≤ most) (hm9 : most ≤ 9) (hT : TI m most l k sent A B P lo th bk) (hw : w.Ok th) (hv : v.Ok bk) (ho : w.off ≤ 3 * k) (hk : k < ps.length) (hps : ps.length ≤ 200) {n : Int} (hn : (nth ps k).tdiv 8 = n) (hn0 : 0 ≤ n ∧ n ≤ 31)
include h hm1 hm9 hT hw hv ho hk hps hn hn0
theorem r_3 {c : Int} (hc : (nth ps k).tmod 8 = c) (hcv : c = 3) : ∃ s', Tri C1 tpB (tpS l ps k sent (aLe m l sent A) (bS m l P B) (sent + 1) (mkL m l sent) w v) .normal s' ∧ PS m most l ps (k + 1) s' := by
  have h12 := h.len
  have hwn := hw.n
  obtain ⟨b1, b2, b3⟩ := hT.hA.bounds h
  have h16 := hT.hA.w16
  have hlen := hT.hA.len
  by_cases h0 : w.n = 0
  · obtain ⟨t1, t2, t3, t4, t5, t6⟩ := tail3 h hT.hA hT.hs hT.hB.exp hT.hB
    exact ⟨_, pk_3n l ps k sent _ _ _ _ w v th bk hw hv hk hps h12 hT.hs (mkL_len m l sent).symm rfl c n hc hcv hn hn0 h0 _ _ t1 t2 t3 t4 t5, sent, A, _, P, lo, w, v, th, bk, rfl, ⟨hT.hA, hT.hs, t6, hT.lo, hT.thP, hT.bkP, by have := hT.thn; omega, by have := hT.bkn; omega⟩, hw, hv, by omega⟩
  obtain ⟨i, hi⟩ : ∃ i : Nat, n.tmod (w.n : Int) = (i : Nat) := ⟨(n.tmod w.n).toNat, by have := Int.tmod_nonneg (a := n) (w.n : Int) hn0.1; omega⟩
  have hi2 : i < w.n := by
    have := Int.tmod_lt_of_pos n (b := (w.n : Int)) (by omega)
    omega
  obtain ⟨r, hr⟩ : ∃ r : Nat, n.tmod 3 = (r : Nat) := ⟨(n.tmod 3).toNat, by rw [Int.tmod_eq_emod_of_nonneg hn0.1]; omega⟩
  have hmem : nth th i ∈ th := nth_mem (by omega)
  obtain ⟨B', g1, g2, g3, _⟩ := b_got hT.hB (hT.thP _ hmem) hT.hA.sz hm1 hm9 hT.lo (by omega) (by omega)
  have hO := over1 _ _ _ g1
  rw [← hw.one hi2] at hO
  obtain ⟨t1, t2, t3, t4, t5, t6⟩ := tail3 h hT.hA hT.hs hT.hB.exp g2
  have hlo := hT.lo
  have hthn := hT.thn
  have hbkn := hT.bkn
  by_cases hr0 : r = 0
  · exact ⟨_, pk_3k l ps k sent _ _ _ _ w v th bk hw hv hk hps h12 hT.hs (mkL_len m l sent).symm rfl c n hc hcv hn hn0 i r B' hi hi2 hr hO hr0 _ _ t1 t2 t3 t4 t5, sent, A, _, P, lo, _, v, th, bk, rfl, ⟨hT.hA, hT.hs, t6, (by show lo ≤ B'.exp; omega), hT.thP, fun q hq => (hT.bkP q hq).mono g3, by omega, by omega⟩, hw.frz, hv, by show w.off ≤ _; omega⟩
  · obtain ⟨e1, e2, e3, e4, e5, e6, e7⟩ := hw.del hi2
    exact ⟨_, pk_3d l ps k sent _ _ _ _ w v th bk hw hv hk hps h12 hT.hs (mkL_len m l sent).symm rfl c n hc hcv hn hn0 i r B' hi hi2 hr hO (by omega) _ _ e1 e2 e3 e4 e5 e6 _ _ t1 t2 t3 t4 t5, sent, A, _, P, lo, _, v, _, bk, rfl, ⟨hT.hA, hT.hs, t6, (by show lo ≤ B'.exp; omega), fun q hq => hT.thP q (List.mem_of_mem_eraseIdx hq), fun q hq => (hT.bkP q hq).mono g3, by rw [List.length_eraseIdx]; split <;> omega, by omega⟩, e7, hv, Nat.zero_le _⟩
theorem r_4 {c : Int} (hc : (nth ps k).tmod 8 = c) (hcv : c = 4) : ∃ s', Tri C1 tpB (tpS l ps k sent (aLe m l sent A) (bS m l P B) (sent + 1) (mkL m l sent) w v) .normal s' ∧ PS m most l ps (k + 1) s' := by
  have h12 := h.len
  have hwn := hw.n
  obtain ⟨b1, b2, b3⟩ := hT.hA.bounds h
  have h16 := hT.hA.w16
  have hlen := hT.hA.len
  by_cases h0 : w.n = 0
  · obtain ⟨t1, t2, t3, t4, t5, t6⟩ := tail3 h hT.hA hT.hs hT.hB.exp hT.hB
    exact ⟨_, pk_4n l ps k sent _ _ _ _ w v th bk hw hv hk hps h12 hT.hs (mkL_len m l sent).symm rfl c n hc hcv hn hn0 h0 _ _ t1 t2 t3 t4 t5, sent, A, _, P, lo, w, v, th, bk, rfl, ⟨hT.hA, hT.hs, t6, hT.lo, hT.thP, hT.bkP, by have := hT.thn; omega, by have := hT.bkn; omega⟩, hw, hv, by omega⟩
  obtain ⟨i, hi⟩ : ∃ i : Nat, n.tmod (w.n : Int) = (i : Nat) := ⟨(n.tmod w.n).toNat, by have := Int.tmod_nonneg (a := n) (w.n : Int) hn0.1; omega⟩
  have hi2 : i < w.n := by
    have := Int.tmod_lt_of_pos n (b := (w.n : Int)) (by omega)
    omega
  obtain ⟨r, hr⟩ : ∃ r : Nat, n.tmod 3 = (r : Nat) := ⟨(n.tmod 3).toNat, by rw [Int.tmod_eq_emod_of_nonneg hn0.1]; omega⟩
  have hmem : nth th i ∈ th := nth_mem (by omega)
  obtain ⟨B', g1, g2, g3, _⟩ := b_got hT.hB (hT.thP _ hmem) hT.hA.sz hm1 hm9 hT.lo (by omega) (by omega)
  have hO := over1 _ _ _ g1
  rw [← hw.one hi2] at hO
  obtain ⟨t1, t2, t3, t4, t5, t6⟩ := tail3 h hT.hA hT.hs hT.hB.exp g2
  have hlo := hT.lo
  have hthn := hT.thn
  have hbkn := hT.bkn
  by_cases hr0 : r = 0
  · exact ⟨_, pk_4k l ps k sent _ _ _ _ w v th bk hw hv hk hps h12 hT.hs (mkL_len m l sent).symm rfl c n hc hcv hn hn0 i r B' hi hi2 hr hO hr0 _ _ t1 t2 t3 t4 t5, sent, A, _, P, lo, _, v, th, bk, rfl, ⟨hT.hA, hT.hs, t6, (by show lo ≤ B'.exp; omega), hT.thP, fun q hq => (hT.bkP q hq).mono g3, by omega, by omega⟩, hw.frz, hv, by show w.off ≤ _; omega⟩
  · obtain ⟨e1, e2, e3, e4, e5, e6, e7⟩ := hw.del hi2
    exact ⟨_, pk_4d l ps k sent _ _ _ _ w v th bk hw hv hk hps h12 hT.hs (mkL_len m l sent).symm rfl c n hc hcv hn hn0 i r B' hi hi2 hr hO (by omega) _ _ e1 e2 e3 e4 e5 e6 _ _ t1 t2 t3 t4 t5, sent, A, _, P, lo, _, v, _, bk, rfl, ⟨hT.hA, hT.hs, t6, (by show lo ≤ B'.exp; omega), fun q hq => hT.thP q (List.mem_of_mem_eraseIdx hq), fun q hq => (hT.bkP q hq).mono g3, by rw [List.length_eraseIdx]; split <;> omega, by omega⟩, e7, hv, Nat.zero_le _⟩
theorem r_5 {c : Int} (hc : (nth ps k).tmod 8 = c) (hcv : c = 5) : ∃ s', Tri C1 tpB (tpS l ps k sent (aLe m l sent A) (bS m l P B) (sent + 1) (mkL m l sent) w v) .normal s' ∧ PS m most l ps (k + 1) s' := by
  have h12 := h.len
  have hvn := hv.n
  obtain ⟨b1, b2, b3⟩ := hT.hA.bounds h
  have hthn := hT.thn
  have hbkn := hT.bkn
  by_cases h0 : v.n = 0
  · obtain ⟨t1, t2, t3, t4, t5, t6⟩ := tail3 h hT.hA hT.hs hT.hB.exp hT.hB
    exact ⟨_, pk_5n l ps k sent _ _ _ _ w v th bk hw hv hk hps h12 hT.hs (mkL_len m l sent).symm rfl c n hc hcv hn hn0 h0 _ _ t1 t2 t3 t4 t5, sent, A, _, P, lo, w, v, th, bk, rfl, ⟨hT.hA, hT.hs, t6, hT.lo, hT.thP, hT.bkP, by omega, by omega⟩, hw, hv, by omega⟩
  obtain ⟨i, hi⟩ : ∃ i : Nat, n.tmod (v.n : Int) = (i : Nat) := ⟨(n.tmod v.n).toNat, by have := Int.tmod_nonneg (a := n) (v.n : Int) hn0.1; omega⟩
  have hi2 : i < v.n := by
    have := Int.tmod_lt_of_pos n (b := (v.n : Int)) (by omega)
    omega
  have hmem : nth bk i ∈ bk := nth_mem (by omega)
  obtain ⟨t, ht, _, g1⟩ := a_got h hT.hA hm1 hm9 hT.lo hT.hB.exp (hT.bkP _ hmem)
  obtain ⟨P', lo', N, g2, g3, g4, _⟩ := hT.hA.ack hm1 hT.lo ht
  have hO := over1 _ _ _ g1
  rw [← hv.one hi2] at hO
  obtain ⟨t1, t2, t3, t4, t5, t6⟩ := tail2 h g4 hT.hs hT.hB.exp hT.hB.mono
  obtain ⟨e1, e2, e3, e4, e5, e6, e7⟩ := hv.del hi2
  exact ⟨_, pk_5d l ps k sent _ _ _ _ w v th bk hw hv hk hps h12 hT.hs (mkL_len m l sent).symm rfl c n hc hcv hn hn0 i _ hi hi2 hO _ _ e1 e2 e3 e4 e5 e6 _ _ t1 t2 t3 t4 t5, sent, _, _, P ++ P', lo', w, _, th, _, rfl, ⟨g4, hT.hs, t6, g2, fun q hq => (hT.thP q hq).mono, fun q hq => hT.bkP q (List.mem_of_mem_eraseIdx hq), by omega, by rw [List.length_eraseIdx]; split <;> omega⟩, hw, e7, by omega⟩
end
theorem tp_end (l : List ByteArray) (ps : List Int) (sent : Nat) (a b : Le) (nm : Nat) (mk : List Int) (w v : Rw) (th bk : List ByteArray) (hw : w.Ok th) (hv : v.Ok bk) : LoopT C1 tpB (tpS l ps ps.length sent a b nm mk w v) (.exit 2) (tpS l ps ps.length sent a b nm mk w v) := by
  exact LoopT.fin (hs := hint [((19,0), {val := some (bl (false))})]) (f := { ks := [0, 11, 12, 17, 18, 20, 21, 78, 79, 80], l := [0, 1, 2, 3, 4] }) (ps := [bl (decide ((↑ps.length : Int) < (↑ps.length : Int))) = bl (false), true = true, true = true, true = true, pureB (Bk.arr (nm * (1 : Nat)) (List.flatMap eQ mk) (0 : Fz)) = true, pureB (Bk.arr w.L w.cs { n := w.f : Fz }) = true, pureB (Bk.arr v.L v.cs { n := v.f : Fz }) = true]) (by kernel_rfl) ⟨(bdF (by omega)), rfl, rfl, rfl, (by exact row_pureB (fun _ => rfl) _ _ _), (by exact hw.pb _), (by exact hv.pb _), trivial⟩ (by decide)
theorem picks {m most : Nat} {l : List ByteArray} {ps : List Int} (h : Msgs m l) (hm1 : 1 ≤ most) (hm9 : most ≤ 9) (hps : ps.length ≤ 200) (hp : ∀ x ∈ ps, 0 ≤ x ∧ x ≤ 255) (s : St) (h0 : PS m most l ps 0 s) : ∃ s', LoopT C1 tpB s (.exit 2) s' ∧ PS m most l ps ps.length s' := by
  refine rounds (PS m most l ps) ps.length (fun k hk s hs => ?_) (fun s hs => ?_) ps.length 0 s (by omega) h0
  · obtain ⟨sent, A, B, P, lo, w, v, th, bk, rfl, hT, hw, hv, ho⟩ := hs
    have hb := hp _ (nth_mem hk)
    obtain ⟨c, hc⟩ : ∃ c, (nth ps k).tmod 8 = c := ⟨_, rfl⟩
    obtain ⟨n, hn⟩ : ∃ n, (nth ps k).tdiv 8 = n := ⟨_, rfl⟩
    have hc2 : 0 ≤ c ∧ c ≤ 7 := by rw [← hc, Int.tmod_eq_emod_of_nonneg hb.1]; omega
    have hn0 : 0 ≤ n ∧ n ≤ 31 := by rw [← hn, Int.tdiv_eq_ediv_of_nonneg hb.1]; omega
    rcases (show c = 0 ∨ c = 1 ∨ c = 2 ∨ c = 3 ∨ c = 4 ∨ c = 5 ∨ c = 6 ∨ c = 7 by omega) with e | e | e | e | e | e | e | e
    · by_cases hse : sent < l.length
      · exact r_0a h hm1 hm9 hT hw hv ho hk hps hn hn0 hc e hse
      · exact r_0b h hT hw hv ho hk hps hn hn0 hc e hse
    · exact r_1 h hm1 hm9 hT hw hv ho hk hps hn hn0 hc e
    · exact r_2 h hm1 hm9 hT hw hv ho hk hps hn hn0 hc e
    · exact r_3 h hm1 hm9 hT hw hv ho hk hps hn hn0 hc e
    · exact r_4 h hm1 hm9 hT hw hv ho hk hps hn hn0 hc e
    · exact r_5 h hm1 hm9 hT hw hv ho hk hps hn hn0 hc e
    · exact r_6 h hm1 hm9 hT hw hv ho hk hps hn hn0 hc e
    · exact r_7 h hm1 hm9 hT hw hv ho hk hps hn hn0 hc e
  · obtain ⟨sent, A, B, P, lo, w, v, th, bk, rfl, hT, hw, hv, ho⟩ := hs
    exact tp_end l ps sent _ _ _ _ w v th bk hw hv
end Go.Proofs.YtdcoomeagbjhlaaDoor.Lk
set_option linter.unusedVariables false
set_option linter.unusedSimpArgs false
set_option maxRecDepth 100000
set_option maxHeartbeats 4000000
namespace Go.Proofs.YtdcoomeagbjhlaaDoor.Lk
open Go.RowKit Go.Pm
open Go.Proofs.YtdcoomeagbjhlaaDoor.Or (G1 C1 Pu)
open Go.Proofs.YtdcoomeagbjhlaaDoor.Ca (eS slS cacheA outP)
theorem sends {m most : Nat} {l : List ByteArray} (h : Msgs m l) (hm1 : 1 ≤ most) (hm9 : most ≤ 9) (b : Le) {lo : Nat} : ∀ (d sent : Nat) (A : En) (P : List ByteArray), sent + d = l.length → AI most (catB ((frs m l).take sent)) P A lo → ∃ A' P', LoopT C1 seB (seS l sent (aLe m l sent A) b (sent + 1) (mkL m l sent)) (.exit 5) (seS l l.length (aLe m l l.length A') b (l.length + 1) (mkL m l l.length)) ∧ AI most (catB ((frs m l).take l.length)) (P ++ P') A' lo
  | 0, sent, A, P, hd, hA => by
    have : sent = l.length := by omega
    subst this
    exact ⟨A, [], se_end l _ _ _ _ _ (by omega), by rw [List.append_nil]; exact hA⟩
  | d + 1, sent, A, P, hd, hA => by
    obtain ⟨s1, P1, s2⟩ := send_walk h hm1 hm9 hA (by omega)
    obtain ⟨A', P', q1, q2⟩ := sends h hm1 hm9 b d (sent + 1) _ _ (by omega) s2
    refine ⟨A', P1 ++ P', ?_, by rw [← List.append_assoc]; exact q2⟩
    have hs := se_step l sent (aLe m l sent A) b _ (sent + 1) (mkL m l sent) _ (by omega) h.len (mkL_len m l sent).symm rfl s1 (mark_kc h (show sent + 1 ≤ l.length by omega))
    rw [← mkL_succ] at hs
    exact LoopT.next hs q1
/-- many packets, one behind the other -/
theorem over_many {most : Nat} {P : List ByteArray} {B : En} {E0 lo : Nat} (qs : List ByteArray) (hB : BI most P B E0) (hq : ∀ q ∈ qs, PkA P q) (hs : ∀ p ∈ P, 1 ≤ p.size ∧ p.size ≤ most) (hm1 : 1 ≤ most) (hm : most ≤ 9) (hlo : lo ≤ B.exp) (hl : P.length ≤ lo + 16) (hP : (catB P).size ≤ 2460) (hqs : qs.length ≤ 1000) : ∃ B', Pu 9 [enA B, slS qs] (.tup [enA B', bl true]) ∧ BI most P B' E0 ∧ B.exp ≤ B'.exp ∧ ((∀ i, i < qs.length → lo + i < P.length ∧ nth qs i = pkB 0 (lo + i) 0 (nth P (lo + i))) → lo + qs.length ≤ B'.exp ∧ (0 < qs.length → B'.ack = true)) := by
  have key : ∀ n, n ≤ qs.length → ∃ f : Nat → En, f 0 = B ∧ (∀ k, k < n → Pu 22 [enA (f k), st (nth qs k)] (.tup [enA (f (k + 1)), i64 0])) ∧ BI most P (f n) E0 ∧ B.exp ≤ (f n).exp ∧ ((∀ i, i < qs.length → lo + i < P.length ∧ nth qs i = pkB 0 (lo + i) 0 (nth P (lo + i))) → lo + n ≤ (f n).exp ∧ (0 < n → (f n).ack = true)) := by
    intro n
    induction n with
    | zero => intro _; exact ⟨fun _ => B, rfl, fun k hk => absurd hk (by omega), hB, Nat.le_refl _, fun _ => ⟨hlo, fun q => absurd q (by omega)⟩⟩
    | succ n ih =>
      intro hn
      obtain ⟨f, f0, f1, f2, f3, f4⟩ := ih (by omega)
      obtain ⟨B', g1, g2, g3, g4⟩ := b_got f2 (hq _ (nth_mem (show n < qs.length by omega))) hs hm1 hm (by omega : lo ≤ (f n).exp) hl hP
      refine ⟨fun k => if k ≤ n then f k else B', by simp only [Nat.zero_le, if_true]; exact f0, fun k hk => ?_, ?_, ?_, fun hd => ?_⟩
      · by_cases e : k = n
        · subst e
          simp only [Nat.le_refl, if_true, if_neg (show ¬ k + 1 ≤ k by omega)]
          exact g1
        · simp only [if_pos (show k ≤ n by omega), if_pos (show k + 1 ≤ n by omega)]
          exact f1 k (by omega)
      · simp only [if_neg (show ¬ n + 1 ≤ n by omega)]
        exact g2
      · simp only [if_neg (show ¬ n + 1 ≤ n by omega)]
        omega
      · simp only [if_neg (show ¬ n + 1 ≤ n by omega)]
        obtain ⟨p1, p2⟩ := f4 hd
        obtain ⟨d1, d2⟩ := hd n (by omega)
        obtain ⟨r1, r2⟩ := g4 (lo + n) d2 d1 p1
        exact ⟨r1, fun _ => r2⟩
  obtain ⟨f, f0, f1, f2, f3, f4⟩ := key qs.length (Nat.le_refl _)
  have := over_ok qs f (by omega) f1
  rw [f0] at this
  exact ⟨_, this, f2, f3, f4⟩
/-- what holds between two calm rounds -/
def CS (m most : Nat) (l : List ByteArray) (r : Nat) (s : St) : Prop := ∃ (A B : En) (P : List ByteArray) (lo : Nat), s = caS l (aLe m l l.length A) (bS m l P B) r ∧ AI most (catB ((frs m l).take l.length)) P A lo ∧ BI most P B B.exp ∧ lo ≤ B.exp ∧ (∀ x ∈ A.way, x.d = true) ∧ A.rest.size ≤ 2464 - 16 * r ∧ (156 ≤ r → A.way = []) ∧ (1 ≤ r → A.ack = false ∧ B.ack = false)
theorem over0 (e : En) : Pu 9 [enA e, slS []] (.tup [enA e, bl true]) := over_ok [] (fun _ => e) (by simp) (fun k hk => absurd hk (by simp))
theorem calm_round {m most : Nat} {l : List ByteArray} (h : Msgs m l) (hm1 : 1 ≤ most) (hm9 : most ≤ 9) (r : Nat) (hr : r < 200) (s : St) (hs : CS m most l r s) : ∃ s', Tri C1 caB s .normal s' ∧ CS m most l (r + 1) s' := by
  obtain ⟨A, B, P, lo, rfl, hA, hB, hlo, hdu, hre, hwy, hac⟩ := hs
  obtain ⟨b1, b2, b3⟩ := hA.bounds h
  have h16 := hA.w16
  have hlen := hA.len
  have hE := hB.exp
  have hD1 := due_ok A (by omega) (hA.pcs h hm9) (by rw [hA.ex]; omega)
  have hA1 := hA.flags duP (fun x => ⟨rfl, rfl⟩) false
  have hw1 : ({ A with way := A.way.map duP, ack := false } : En).way.length = A.way.length := List.length_map ..
  have hdl : (dueR A).length ≤ 1000 := by
    unfold dueR
    split
    · simp
    · have := due_le A.exp A.way A.way.length
      rw [List.take_length] at this
      omega
  obtain ⟨B1, o1, o2, o3, o4⟩ := over_many (lo := lo) (dueR A) hB hA.due hA.sz hm1 hm9 hlo (by omega) (by omega) hdl
  have hE1 := o2.exp
  have hD2 := due_ok B1 (by rw [o2.way]; exact Nat.zero_le _) (by rw [o2.way]; intro p hp; cases hp) (by omega)
  have hB2 := o2.flags duP false
  have hd2 : dueR B1 = if B1.ack = true then [pkB 1 0 B1.exp e0] else [] := by
    unfold dueR
    have e : dueL B1.exp B1.way = [] := by rw [o2.way]; rfl
    rw [e]
    by_cases q : B1.ack = true
    · rw [if_pos ⟨rfl, q⟩, if_pos q]
    · rw [if_neg (fun z => q z.2), if_neg q]
  have hg := gone_le B1.exp ({ A with way := A.way.map duP, ack := false } : En).way
  by_cases hz : A.way = []
  · -- nothing is under way
    have hr0 : A.rest = ⟨#[]⟩ := by
      rcases hA.full with q | q
      · exact q
      · rw [hz] at q; exact absurd q (by simp)
    by_cases hk : B1.ack = true
    · rw [hd2, if_pos hk] at hD2
      obtain ⟨t, ht, _, g1⟩ := a_got h hA1 hm1 hm9 (show lo ≤ B1.exp by omega) hE1 ⟨B1.exp, Nat.le_refl _, rfl⟩
      obtain ⟨P', lo', N, g2, g3, g4, g5, g6, g7, g8, g9⟩ := hA1.ack hm1 (show lo ≤ B1.exp by omega) ht
      obtain ⟨t1, t2, t3, t4, t5, t6⟩ := tail2 h g4 (Nat.le_refl _) hB.exp hB2.mono
      obtain ⟨w1, w2⟩ := g9 hr0
      have hw0 : (gotA { A with way := A.way.map duP, ack := false } t).way = [] := by
        rw [w1]
        show (A.way.map duP).drop _ = []
        rw [hz]; rfl
      exact ⟨_, ca_step l _ _ _ _ _ _ _ _ _ r hr hD1 o1 hD2 (over1 _ _ _ g1) t1, _, _, P ++ P', lo', rfl, g4, t6, g2, (by rw [hw0]; intro x hx; cases hx), (by rw [w2]; exact Nat.zero_le _), fun _ => hw0, fun _ => ⟨g7, rfl⟩⟩
    · rw [hd2, if_neg hk] at hD2
      obtain ⟨t1, t2, t3, t4, t5, t6⟩ := tail3 h hA1 (Nat.le_refl _) hB.exp hB2
      have hw0 : ({ A with way := A.way.map duP, ack := false } : En).way = [] := by
        show A.way.map duP = []
        rw [hz]; rfl
      exact ⟨_, ca_step l _ _ _ _ _ _ _ _ _ r hr hD1 o1 hD2 (over0 _) t1, _, _, P, lo, rfl, hA1, t6, (by show lo ≤ B1.exp; omega), (by rw [hw0]; intro x hx; cases hx), (by show A.rest.size ≤ _; rw [hr0]; exact Nat.zero_le _), fun _ => hw0, fun _ => ⟨rfl, rfl⟩⟩
  · -- all that is under way comes, and is acknowledged
    have hdue : dueR A = A.way.map (pkP 0) := by
      unfold dueR
      rw [due_all A.exp A.way hdu, hA.ex]
      have : ¬ A.way.map (pkP 0) = [] := fun q => hz (List.map_eq_nil_iff.1 q)
      rw [if_neg (fun z => this z.1)]
    have hdn : (dueR A).length = A.way.length := by rw [hdue, List.length_map]
    have hpos : 0 < A.way.length := by
      rcases Nat.eq_zero_or_pos A.way.length with q | q
      · exact absurd (List.eq_nil_of_length_eq_zero q) hz
      · exact q
    obtain ⟨q1, q2⟩ := o4 (fun i hi => by
      rw [hdn] at hi
      obtain ⟨a, b⟩ := hA.num i hi
      refine ⟨by omega, ?_⟩
      rw [hdue]
      have : nth (A.way.map (pkP 0)) i = pkP 0 (nth A.way i) := by unfold nth; simp [hi]
      rw [this]
      unfold pkP
      rw [a, b])
    rw [hdn] at q1
    have hk : B1.ack = true := q2 (by omega)
    have hEP : B1.exp = P.length := by omega
    rw [hd2, if_pos hk] at hD2
    obtain ⟨t, ht, e, g1⟩ := a_got h hA1 hm1 hm9 (show lo ≤ B1.exp by omega) hE1 ⟨B1.exp, Nat.le_refl _, rfl⟩
    have htE : t = B1.exp := by
      have a1 : (pkB 1 0 B1.exp e0).extract 7 9 = strA [u8 ((B1.exp : Int) / 256), u8 ((B1.exp : Int) % 256)] := by
        unfold pkB
        rw [strA_ext]
        rfl
      have a2 : (pkB 1 0 t e0).extract 7 9 = strA [u8 ((t : Int) / 256), u8 ((t : Int) % 256)] := by
        unfold pkB
        rw [strA_ext]
        rfl
      rw [e, a2] at a1
      have b0 : byN (strA [u8 ((t : Int) / 256), u8 ((t : Int) % 256)]) 0 = byN (strA [u8 ((B1.exp : Int) / 256), u8 ((B1.exp : Int) % 256)]) 0 := by rw [a1]
      have b1 : byN (strA [u8 ((t : Int) / 256), u8 ((t : Int) % 256)]) 1 = byN (strA [u8 ((B1.exp : Int) / 256), u8 ((B1.exp : Int) % 256)]) 1 := by rw [a1]
      rw [strA_at _ 0 _ (by omega) rfl, strA_at _ 0 _ (by omega) rfl] at b0
      rw [strA_at _ 1 _ (by omega) rfl, strA_at _ 1 _ (by omega) rfl] at b1
      omega
    subst htE
    have hga := gone_all hA1 (t := B1.exp) (by omega)
    obtain ⟨P', lo', N, g2, g3, g4, g5, g6, g7, g8, g9⟩ := hA1.ack hm1 (show lo ≤ B1.exp by omega) ht
    obtain ⟨t1, t2, t3, t4, t5, t6⟩ := tail2 h g4 (Nat.le_refl _) hB.exp hB2.mono
    rw [hga, List.drop_length] at g5 g9
    rw [hga] at g8
    have hrest : ({ A with way := A.way.map duP, ack := false } : En).rest = A.rest := rfl
    rw [hrest] at g8 g9
    refine ⟨_, ca_step l _ _ _ _ _ _ _ _ _ r hr hD1 o1 hD2 (over1 _ _ _ g1) t1, _, _, P ++ P', lo', rfl, g4, t6, g2, (by rw [g5]; intro x hx; exact g6 x hx), (by omega), fun hr2 => ?_, fun _ => ⟨g7, rfl⟩⟩
    have : A.rest = ⟨#[]⟩ := ByteArray.size_eq_zero_iff.1 (by omega)
    exact (g9 this).1
theorem calm {m most : Nat} {l : List ByteArray} (h : Msgs m l) (hm1 : 1 ≤ most) (hm9 : most ≤ 9) (s : St) (h0 : CS m most l 0 s) : ∃ s', LoopT C1 caB s (.exit 7) s' ∧ CS m most l 200 s' :=
  rounds (CS m most l) 200 (fun k hk s hs => calm_round h hm1 hm9 k hk s hs) (fun s hs => by
    obtain ⟨A, B, P, lo, rfl, _⟩ := hs
    exact ca_end l _ _) 200 0 s (by omega) h0
end Go.Proofs.YtdcoomeagbjhlaaDoor.Lk
set_option linter.unusedVariables false
set_option linter.unusedSimpArgs false
set_option maxRecDepth 100000
set_option maxHeartbeats 4000000
namespace Go.Proofs.YtdcoomeagbjhlaaDoor.Lk
open Go.RowKit Go.Pm
open Go.Proofs.YtdcoomeagbjhlaaDoor.Or (G1 C1 Pu)
open Go.Proofs.YtdcoomeagbjhlaaDoor.Ca (eS slS cacheA outP)
theorem first_big (l : List ByteArray) : (∀ k, k < l.length → ¬ (nth l k).size > 200) ∨ ∃ k, k < l.length ∧ (nth l k).size > 200 ∧ ∀ j, j < k → ¬ (nth l j).size > 200 := by
  by_cases h : ∃ k, k < l.length ∧ (nth l k).size > 200
  · right
    have key : ∀ n k, k ≤ n → k < l.length → (nth l k).size > 200 → ∃ k, k < l.length ∧ (nth l k).size > 200 ∧ ∀ j, j < k → ¬ (nth l j).size > 200 := by
      intro n
      induction n with
      | zero => intro k h0 h1 h2; exact ⟨k, h1, h2, fun j hj => by omega⟩
      | succ n ih =>
        intro k h0 h1 h2
        by_cases q : ∃ j, j < k ∧ (nth l j).size > 200
        · obtain ⟨j, j1, j2⟩ := q
          exact ih j (by omega) (by omega) j2
        · exact ⟨k, h1, h2, fun j hj h3 => q ⟨j, hj, h3⟩⟩
    obtain ⟨k, h1, h2⟩ := h
    exact key k k (Nat.le_refl _) h1 h2
  · left
    exact fun k hk h2 => h ⟨k, hk, h2⟩
theorem lossy_ok (l : List ByteArray) (q1 q2 : Int) (ps : List Int) (hp : ∀ x ∈ ps, 0 ≤ x ∧ x ≤ 255) (a0 : 0 ≤ q1) (a1 : q1 ≤ 255) (c0 : 0 ≤ q2) (c1 : q2 ≤ 255) : Pu 3 [slS l, u8 q1, u8 q2, slB ps] (bl true) := by
  by_cases hl : l.length > 12 ∨ ps.length > 200
  · exact top_long l ps q1 q2 hl
  have h1 : ¬ l.length > 12 := fun q => hl (.inl q)
  have h2 : ¬ ps.length > 200 := fun q => hl (.inr q)
  rcases first_big l with hsm | ⟨k, hk, hbig, hlt⟩
  case inr =>
    have L := LoopT.count (fun i => ckS l ps q1 q2 i) k (fun i hi => ck_step l ps q1 q2 i (by omega) (by omega) (hlt i hi)) (ck_stop l ps q1 q2 k hk (by omega) hbig) 0 (by omega)
    exact top_stop l ps q1 q2 h1 h2 L
  have L1 := LoopT.count (fun i => ckS l ps q1 q2 i) l.length (fun i hi => ck_step l ps q1 q2 i hi (by omega) (hsm i hi)) (ck_end l ps q1 q2) 0 (by omega)
  obtain ⟨m, hm⟩ : ∃ m : Nat, 1 + q1.tmod 5 = (m : Int) := ⟨(1 + q1.tmod 5).toNat, by rw [Int.tmod_eq_emod_of_nonneg a0]; omega⟩
  obtain ⟨most, hmo⟩ : ∃ most : Nat, 1 + q2.tmod 9 = (most : Int) := ⟨(1 + q2.tmod 9).toNat, by rw [Int.tmod_eq_emod_of_nonneg c0]; omega⟩
  have hm2 : 1 ≤ m ∧ m ≤ 5 := by rw [Int.tmod_eq_emod_of_nonneg a0] at hm; omega
  have hmo2 : 1 ≤ most ∧ most ≤ 9 := by rw [Int.tmod_eq_emod_of_nonneg c0] at hmo; omega
  have h : Msgs m l := ⟨hm2.1, hm2.2, by omega, fun x hx => by
    obtain ⟨i, hi, rfl⟩ := List.getElem_of_mem hx
    have := hsm i hi
    rw [nth_eq hi] at this
    omega⟩
  have hN := Ca.new_ok (m : Nat)
  have eN : Ca.newD (m : Nat) = (((m : Nat) : Int), 0) := by unfold Ca.newD; rw [if_neg (by omega)]
  rw [eN] at hN
  -- at first
  have w00 : whole (frs m l) 0 = 0 := Nat.le_zero.1 (whole_sent h (Nat.zero_le _) (Nat.zero_le _))
  have hb0 : bS m l [] { en0 with most := most } = ⟨m, [], { en0 with most := most }, e0, []⟩ := by
    show bLe m l (whole (frs m l) 0) 0 _ = _
    rw [w00]
    refine le_eq ?_ rfl
    show (catB (frs m l)).extract 0 0 = e0
    exact ByteArray.extract_eq_empty_iff.2 (by omega)
  have hP0 : PS m most l ps 0 (tpS l ps 0 0 ⟨m, [], { en0 with most := most }, e0, []⟩ ⟨m, [], { en0 with most := most }, e0, []⟩ 1 [Ca.markD (kc m l 0)] w0 w0) := by
    refine ⟨0, { en0 with most := most }, { en0 with most := most }, [], 0, w0, w0, [], [], ?_, ⟨⟨⟨rfl, ?_, rfl, rfl, fun i hi => absurd hi (by simp [en0]), Nat.zero_le _, (fun p hp => by cases hp), rfl⟩, .inl rfl⟩, Nat.zero_le _, ⟨⟨rfl, rfl, rfl, rfl, Nat.le_refl _, fun j => .inl rfl, Nat.le_refl _, rfl⟩, rfl⟩, Nat.le_refl _, (fun q hq => by cases hq), (fun q hq => by cases hq), Nat.le_refl _, Nat.le_refl _⟩, w0_ok, w0_ok, Nat.le_refl _⟩
    · rw [hb0]
      rfl
    · show ByteArray.empty ++ e0 = ByteArray.empty
      exact ByteArray.append_empty
  obtain ⟨s1, L2, sent, A, B, P, lo, w, v, th, bk, rfl, hT, hw, hv, _⟩ := picks h hmo2.1 hmo2.2 (by omega) hp _ hP0
  obtain ⟨A', P', L5, hA5⟩ := sends h hmo2.1 hmo2.2 (bS m l P B) (l.length - sent) sent A P (by have := hT.hs; omega) hT.hA
  have h16 := hA5.w16
  have hTk := tick_ok A' (by omega)
  have hA6 := hA5.flags tkP (fun x => ⟨rfl, rfl⟩) A'.ack
  have hbP : bS m l P B = bS m l (P ++ P') B := by
    unfold bS
    rw [offs_app hT.hB.exp]
  have hC0 : CS m most l 0 (caS l { aLe m l l.length A' with ln := { A' with way := A'.way.map tkP } } (bS m l P B) 0) := by
    refine ⟨{ A' with way := A'.way.map tkP }, B, P ++ P', lo, by rw [hbP]; rfl, hA6, hT.hB.mono, hT.lo, fun x hx => ?_, ?_, fun q => absurd q (by omega), fun q => absurd q (by omega)⟩
    · obtain ⟨y, _, rfl⟩ := List.mem_map.1 hx
      rfl
    · obtain ⟨_, b2, _⟩ := hA6.bounds h
      show A'.rest.size ≤ 2464
      have : ({ A' with way := A'.way.map tkP } : En).rest.size = A'.rest.size := rfl
      have b3 : (catB (P ++ P')).size + A'.rest.size ≤ 2460 := b2
      omega
  obtain ⟨s7, L7, A3, B3, P3, lo3, rfl, hA3, hB3, hlo3, _, _, hw3, hac3⟩ := calm h hmo2.1 hmo2.2 _ hC0
  have hwy := hw3 (by omega)
  obtain ⟨ac1, ac2⟩ := hac3 (by omega)
  have hr3 : A3.rest = ⟨#[]⟩ := by
    rcases hA3.full with q | q
    · exact q
    · rw [hwy] at q; exact absurd q (by simp)
  have hlen3 := hA3.len
  rw [hwy] at hlen3
  have hE3 := hB3.exp
  have hex3 : B3.exp = P3.length := by
    have e : lo3 + ([] : List Pc).length = lo3 := rfl
    omega
  have hcat3 : catB P3 = catB (frs m l) := by
    have a := hA3.cat
    rw [hr3, ← frs_len (m := m) (l := l), List.take_length] at a
    have b : catB P3 ++ (⟨#[]⟩ : ByteArray) = catB P3 := ByteArray.append_empty
    rw [b] at a
    exact a
  have hoff : offs P3 B3.exp = (catB (frs m l)).size := by rw [hex3, offs_all, hcat3]
  have hwh : whole (frs m l) (offs P3 B3.exp) = l.length := by rw [hoff, whole_all, frs_len]
  have hb3 : bS m l P3 B3 = ⟨m, kc m l l.length, B3, e0, l⟩ := by
    unfold bS
    rw [hwh, hoff]
    refine le_eq ?_ List.take_length
    rw [← frs_len (m := m) (l := l), offs_all]
    exact ByteArray.extract_eq_empty_iff.2 (by omega)
  rw [hb3] at L7
  have hQa := quiet_ok A3
  rw [hwy, ac1] at hQa
  have hQb := quiet_ok B3
  rw [hB3.way, ac2] at hQb
  exact top_go l ps q1 q2 h1 h2 m most hm hm2 hmo hmo2 L1 hN (new_ok most hmo2.1 (by omega)) _ (mark_kc h (Nat.zero_le _)) _ _ _ (bS m l P B) _ _ _ sent l.length (sent + 1) (l.length + 1) _ _ w v th bk hw hv L2 L5 hTk L7 rfl (begins_ok l l (Nat.le_refl _) (by omega) (fun k _ => rfl)) rfl _ (mark_kc h (Nat.le_refl _)) (mark_kc h (Nat.le_refl _)) _ (Ca.len_ok m (kc m l l.length)) (Ca.len_ok m (kc m l l.length)) hQa hQb awake_ok
end Go.Proofs.YtdcoomeagbjhlaaDoor.Lk
set_option linter.unusedVariables false
set_option maxRecDepth 100000
namespace Go.Proofs.YtdcoomeagbjhlaaDoor.Lk
open Go.RowKit Go.Pm
open Go.Proofs.YtdcoomeagbjhlaaDoor.Or (G1 C1 Pu)
open Go.Proofs.YtdcoomeagbjhlaaDoor.Ca (eS slS)
def spansRows : List (List (IntKind × Int)) := Or.table.map fun s => [(.i64, s.size), (.i64, s.low), (.i64, s.high)]
def vsC : List Value := spansRows.flatMap fun r => r.map fun p => Value.int p.1 p.2
theorem spans_vs : Or.spansC = vsC.map AV.s := rfl
theorem glob_ok {W : World} (h : laidMet Tryd.prog Rows.topLossyRow.laid W) : GlobR G1 (memOf W) := by
  obtain ⟨ps, ⟨g', t', cs, fuel, p, q, hg', ht', hvar, hd, _, _⟩, _⟩ := h
  obtain rfl : g' = 0 := (Option.some.inj ((show Tryd.prog.globalNamed "glazier/order.spans" = some 0 by kernel_rfl).symm.trans hg')).symm
  obtain rfl : t' = 88 := (Option.some.inj ((show (Tryd.prog.globals[0]?).map (·.type) = some 88 by kernel_rfl).symm.trans ht')).symm
  obtain ⟨fs, hfs, hsz⟩ : ∃ fs, Tryd.prog.underlying 75 = some (.struct fs) ∧ (fs.size = 3 ∧ ∀ (i : Nat) f, fs[i]? = some f → f.offset = i ∧ Tryd.prog.cellsOf f.type = 1 ∧ ∃ k, Tryd.prog.underlying f.type = some (.int k)) := by
    refine ⟨_, Tryd.underlying75, rfl, fun i f hi => ?_⟩
    have hlt := (Array.getElem?_eq_some_iff.1 hi).1
    match i, hlt, hi with
    | 0, _, hi => cases hi; exact ⟨rfl, by kernel_rfl, _, Tryd.underlying3⟩
    | 1, _, hi => cases hi; exact ⟨rfl, by kernel_rfl, _, Tryd.underlying2⟩
    | 2, _, hi => cases hi; exact ⟨rfl, by kernel_rfl, _, Tryd.underlying2⟩
  have hc : cs.toList = vsC := rows_open (rows := spansRows) (sz := 3) Tryd.underlying88 hfs (by kernel_rfl) (by kernel_rfl) (by decide) hsz.1 hsz.2 hd
  intro g cs' hG
  unfold G1 at hG
  split at hG
  · rename_i e
    subst e
    cases hG
    have hcell : ∀ (i : Nat) c, Or.spansC[i]? = some c → ∃ v, vsC[i]? = some v ∧ c = .s v := by
      intro i c hi
      rw [spans_vs, List.getElem?_map, Option.map_eq_some_iff] at hi
      obtain ⟨v, h1, rfl⟩ := hi
      exact ⟨v, h1, rfl⟩
    refine .fptr (fun i => vsC.getD i undef) (fun i c hi => ?_) (fun i c hi => ?_)
    · obtain ⟨v, h1, rfl⟩ := hcell i c hi
      have hw := World.var?_cell (show Tryd.prog.globalNamed "glazier/order.spans" = some 0 by kernel_rfl) hvar i
      rw [← Array.getElem?_toList, hc, h1] at hw
      rw [Nat.zero_add, List.getD_eq_getElem?_getD, h1]
      refine memOf_cell hw ?_
      have : ∀ u ∈ vsC, u.oneCell' = true := by decide
      exact this v (List.mem_of_getElem? h1)
    · obtain ⟨v, h1, rfl⟩ := hcell i c hi
      rw [List.getD_eq_getElem?_getD, h1]
      exact .s _ _
  · cases hG
theorem bds8 {n : Int} (hw : (Lit.int .u8 n).wf = true) : 0 ≤ n ∧ n ≤ 255 := by
  simp [Lit.wf, IntKind.min, IntKind.max, IntKind.signed, IntKind.bits] at hw; omega
theorem fits_strs {cs : List AV} (h : Fits (.sl .str) cs) : ∃ l : List ByteArray, cs = [slS l] ∧ True := by
  obtain ⟨l, h1, _, _⟩ := fits_list (enc := eS) (Q := fun _ => True) (fun cs hc => by obtain ⟨s, rfl, _⟩ := hc; exact ⟨s, rfl, trivial⟩) h
  exact ⟨l, h1, trivial⟩
theorem fits_u8s {cs : List AV} (h : Fits (.sl (.int .u8)) cs) : ∃ l : List Int, cs = [slB l] ∧ ∀ x ∈ l, 0 ≤ x ∧ x ≤ 255 := by
  obtain ⟨l, h1, _, h2⟩ := fits_list (enc := eB) (Q := fun x : Int => 0 ≤ x ∧ x ≤ 255) (fun cs hc => by obtain ⟨n, rfl, hn⟩ := hc; exact ⟨n, rfl, bds8 hn⟩) h
  exact ⟨l, h1, h2⟩
end Go.Proofs.YtdcoomeagbjhlaaDoor.Lk
