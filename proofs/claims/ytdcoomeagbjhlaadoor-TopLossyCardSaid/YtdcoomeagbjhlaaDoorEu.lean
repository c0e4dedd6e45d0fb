/- Messages as frames; a whole reading. By the prover of this seat. -/
import Derived.Test.YtdcoomeagbjhlaaDoorEt
set_option linter.unusedVariables false
set_option linter.unusedSimpArgs false
set_option maxRecDepth 100000
set_option maxHeartbeats 4000000
namespace Go.Proofs.YtdcoomeagbjhlaaDoor.Lk
open Go.RowKit Go.Pm
open Go.Proofs.YtdcoomeagbjhlaaDoor.Or (G1 C1 Pu)
open Go.Proofs.YtdcoomeagbjhlaaDoor.Ca (eS slS cacheA outP)
section
variable (m : Nat) (l : List ByteArray)
def kc (k : Nat) : List ByteArray := Ca.kept m l k
def sh (k : Nat) : ByteArray := (Ca.putD m (kc m l k) (nth l k)).2.1
def hd (k : Nat) : ByteArray := (Or.putD 1 4 ((sh m l k).size : Nat)).1
def fr (k : Nat) : ByteArray := hd m l k ++ sh m l k
def frs : List ByteArray := (List.range l.length).map (fr m l)
end
/-- the messages and the caches' size -/
structure Msgs (m : Nat) (l : List ByteArray) : Prop where
  m1 : 1 ≤ m
  m2 : m ≤ 5
  len : l.length ≤ 12
  sz : ∀ x ∈ l, x.size ≤ 200
section
variable {m : Nat} {l : List ByteArray}
theorem frs_len : (frs m l).length = l.length := by unfold frs; rw [List.length_map, List.length_range]
theorem frs_nth {k : Nat} (hk : k < l.length) : nth (frs m l) k = fr m l k := by
  unfold frs nth
  simp [hk]
theorem Msgs.one (h : Msgs m l) {k : Nat} (hk : k < l.length) : (nth l k).size ≤ 200 := h.sz _ (nth_mem hk)
theorem Msgs.cok (h : Msgs m l) (k : Nat) : Ca.COk m (kc m l k) := Ca.kept_ok m (by have := h.m2; omega) l k
theorem Msgs.put (h : Msgs m l) {k : Nat} (hk : k < l.length) : Ca.putD m (kc m l k) (nth l k) = (kc m l (k + 1), sh m l k, 0) ∧ 1 ≤ (sh m l k).size ∧ (sh m l k).size ≤ 201 := by
  have h1 := h.m1
  have hs := h.one hk
  obtain ⟨_, q2, q3, q4, q5⟩ := Ca.put_back m (kc m l k) (nth l k) (h.cok k) (by omega) (by omega)
  refine ⟨Prod.ext q2 (Prod.ext rfl q3), q4, ?_⟩
  unfold sh
  omega
theorem Msgs.get (h : Msgs m l) {k : Nat} (hk : k < l.length) : Ca.getD m (kc m l k) (sh m l k) = (kc m l (k + 1), nth l k, 0) := by
  have h1 := h.m1
  have hs := h.one hk
  exact Ca.get_back m (kc m l k) (nth l k) (h.cok k) (by omega) (by omega)
theorem put4 (n : Nat) (h : n ≤ 1000) : (Or.putD 1 4 (n : Nat)).2 = 0 ∧ (Or.putD 1 4 (n : Nat)).1.size = 4 := by
  have e : Or.putD 1 4 (n : Nat) = (strA (Or.bytesOf 1 4 (n : Nat)), 0) := by
    show (if Or.hasD ⟨4, 0, 4294967295⟩ (n : Nat) = true then _ else _) = _
    rw [if_pos]
    · rfl
    · unfold Or.hasD
      simp
      omega
  rw [e]
  refine ⟨rfl, ?_⟩
  show (strA _).size = 4
  rw [strA_n]
  rfl
theorem Msgs.hd (h : Msgs m l) {k : Nat} (hk : k < l.length) : (hd m l k).size = 4 ∧ Pu 18 [i64 1, i64 4, i64 ((sh m l k).size : Nat)] (.tup [st (Lk.hd m l k), i64 0]) ∧ Pu 24 [i64 1, i64 4, st (Lk.hd m l k)] (.tup [i64 ((sh m l k).size : Nat), i64 0]) := by
  obtain ⟨_, _, q⟩ := h.put hk
  obtain ⟨e1, e2⟩ := put4 (sh m l k).size (by omega)
  refine ⟨e2, ?_, ?_⟩
  · have := Or.put_all 1 4 ((sh m l k).size : Nat)
    unfold Or.putR at this
    rw [e1] at this
    exact this
  · have := Or.get_all 1 4 (Lk.hd m l k)
    unfold Lk.hd at this ⊢
    rw [Or.get_put _ _ _ e1] at this
    exact this
theorem Msgs.fr (h : Msgs m l) {k : Nat} (hk : k < l.length) : (fr m l k).size = 4 + (sh m l k).size ∧ (fr m l k).extract 0 4 = Lk.hd m l k ∧ (fr m l k).extract 4 (4 + (sh m l k).size) = sh m l k := by
  obtain ⟨e1, _⟩ := h.hd hk
  have es : (Lk.fr m l k).size = 4 + (sh m l k).size := by unfold Lk.fr; rw [ByteArray.size_append, e1]
  refine ⟨es, ?_, ?_⟩
  · unfold Lk.fr
    exact ByteArray.extract_append_eq_left e1.symm
  · unfold Lk.fr
    exact ByteArray.extract_append_eq_right e1.symm (by rw [e1])
theorem kc_size (h : Msgs m l) {k : Nat} (hk : k ≤ l.length) : ∀ x ∈ kc m l k, x.size ≤ 200 := Ca.kept_size m l 200 h.sz k hk
theorem kc_len (h : Msgs m l) (k : Nat) : (kc m l k).length ≤ 5 := by have := (h.cok k).len; have := h.m2; omega
theorem frs_size (h : Msgs m l) : (catB (frs m l)).size ≤ 2460 := by
  have key : ∀ k, k ≤ l.length → offs (frs m l) k ≤ k * 205 := by
    intro k
    induction k with
    | zero => intro _; exact Nat.zero_le _
    | succ k ih =>
      intro hk
      have h1 := ih (by omega)
      have h2 := offs_succ (X := frs m l) (k := k) (by rw [frs_len]; omega)
      rw [frs_nth (by omega)] at h2
      have h3 := (h.fr (show k < l.length by omega)).1
      have h4 := (h.put (show k < l.length by omega)).2.2
      omega
  have := key l.length (Nat.le_refl _)
  rw [← frs_len (m := m) (l := l), offs_all] at this
  rw [frs_len] at this
  have := h.len
  omega
theorem le_eq {m : Nat} {kl : List ByteArray} {ln : En} {r r' : ByteArray} {g g' : List ByteArray} (hr : r = r') (hg : g = g') : Le.mk m kl ln r g = Le.mk m kl ln r' g' := by
  subst hr hg
  rfl
def aLe (m : Nat) (l : List ByteArray) (sent : Nat) (A : En) : Le := ⟨m, kc m l sent, A, e0, []⟩
/-- what an end has read of the first c bytes -/
def bLe (m : Nat) (l : List ByteArray) (g c : Nat) (B : En) : Le := ⟨m, kc m l g, B, (catB (frs m l)).extract (offs (frs m l) g) c, l.take g⟩
theorem offs_mono {X : List ByteArray} {i j : Nat} (h : i ≤ j) (hj : j ≤ X.length) : offs X i ≤ offs X j := by
  induction j with
  | zero => rw [Nat.le_zero.1 h]; exact Nat.le_refl _
  | succ j ih =>
    by_cases e : i = j + 1
    · subst e; exact Nat.le_refl _
    · have := ih (by omega) (by omega)
      have h2 := offs_succ (X := X) (k := j) (by omega)
      omega
theorem offs_pre {X : List ByteArray} {Y Z : ByteArray} (h : catB X ++ Y = Z) (e : Nat) : catB (X.take e) = Z.extract 0 (offs X e) := by
  have := cat_split X e
  rw [← h, this, ByteArray.append_assoc]
  exact (ByteArray.extract_append_eq_left rfl).symm
theorem bstep (h : Msgs m l) {g c : Nat} (B : En) (hc : c ≤ (catB (frs m l)).size) (hg : g < whole (frs m l) c) : ∃ kl' z msg, RdStep (bLe m l g c B) (bLe m l (g + 1) c B) kl' z msg := by
  obtain ⟨w1, w2, w3⟩ := whole_le (frs m l) c
  rw [frs_len] at w1
  have hgl : g < l.length := by omega
  have hz := frs_size h
  have h0 := offs_succ (X := frs m l) (k := g) (by rw [frs_len]; exact hgl)
  rw [frs_nth hgl] at h0
  obtain ⟨f1, f2, f3⟩ := h.fr hgl
  obtain ⟨p1, p2, p3⟩ := h.put hgl
  obtain ⟨d1, d2, d3⟩ := h.hd hgl
  have hm := offs_mono (X := frs m l) (i := g + 1) (j := whole (frs m l) c) (by omega) (by rw [frs_len]; exact w1)
  have hrs : ((catB (frs m l)).extract (offs (frs m l) g) c).size = c - offs (frs m l) g := by rw [ByteArray.size_extract]; omega
  have seg : ∀ a b, b ≤ (fr m l g).size → ((catB (frs m l)).extract (offs (frs m l) g) c).extract a b = (fr m l g).extract a b := by
    intro a b hb
    rw [ByteArray.extract_extract, Nat.min_eq_left (by omega)]
    have := cat_seg (X := frs m l) (k := g) (by rw [frs_len]; exact hgl) a b (by rw [frs_nth hgl]; exact hb)
    rw [frs_nth hgl] at this
    exact this
  refine ⟨kc m l (g + 1), (sh m l g).size, nth l g, ?_⟩
  refine ⟨?_, ?_, ?_, ?_, ?_, ?_, ?_⟩
  · show (l.take g).length ≤ 900
    rw [List.length_take]; have := h.len; omega
  · show 4 ≤ (ByteArray.extract _ _ _).size
    rw [hrs]; omega
  · show (ByteArray.extract _ _ _).size ≤ _
    rw [hrs]; omega
  · show _ ≤ (ByteArray.extract _ _ _).size
    rw [hrs]; omega
  · show Pu 24 [i64 1, i64 4, st (((catB (frs m l)).extract (offs (frs m l) g) c).extract 0 4)] _
    rw [seg 0 4 (by omega), f2]
    exact d3
  · show Pu 25 [cacheA m (kc m l g), st (((catB (frs m l)).extract (offs (frs m l) g) c).extract 4 (4 + (sh m l g).size))] _
    rw [seg 4 _ (by omega), f3]
    have := Ca.get_ok m (kc m l g) (sh m l g) (h.cok g) (by omega) (fun x hx => by have := kc_size h (show g ≤ l.length by omega) x hx; omega)
    rw [h.get hgl] at this
    exact this
  · refine le_eq ?_ ?_
    · show (catB (frs m l)).extract (offs (frs m l) (g + 1)) c = ((catB (frs m l)).extract (offs (frs m l) g) c).extract (4 + (sh m l g).size) ((catB (frs m l)).extract (offs (frs m l) g) c).size
      rw [hrs, ByteArray.extract_extract, h0, f1]
      congr 1
      omega
    · exact take_nth hgl
theorem bend (h : Msgs m l) {c : Nat} (B : En) (hc : c ≤ (catB (frs m l)).size) : RdEnd (bLe m l (whole (frs m l) c) c B) := by
  obtain ⟨w1, w2, w3⟩ := whole_le (frs m l) c
  have hz := frs_size h
  have hrs : ((catB (frs m l)).extract (offs (frs m l) (whole (frs m l) c)) c).size = c - offs (frs m l) (whole (frs m l) c) := by rw [ByteArray.size_extract]; omega
  by_cases hw : whole (frs m l) c < (frs m l).length
  · have h3 := w3 hw
    rw [frs_len] at hw
    have h0 := offs_succ (X := frs m l) (k := whole (frs m l) c) (by rw [frs_len]; exact hw)
    rw [frs_nth hw] at h0
    obtain ⟨f1, f2, f3⟩ := h.fr hw
    obtain ⟨p1, p2, p3⟩ := h.put hw
    obtain ⟨d1, d2, d3⟩ := h.hd hw
    by_cases h4 : c - offs (frs m l) (whole (frs m l) c) < 4
    · left
      show (ByteArray.extract _ _ _).size < 4
      rw [hrs]; exact h4
    · right
      refine ⟨(sh m l (whole (frs m l) c)).size, ?_, ?_, ?_, by omega, ?_⟩
      · show 4 ≤ (ByteArray.extract _ _ _).size
        rw [hrs]; omega
      · show (ByteArray.extract _ _ _).size ≤ _
        rw [hrs]; omega
      · show ¬ _ ≤ (ByteArray.extract _ _ _).size
        rw [hrs]; omega
      · show Pu 24 [i64 1, i64 4, st (((catB (frs m l)).extract (offs (frs m l) (whole (frs m l) c)) c).extract 0 4)] _
        have seg : ((catB (frs m l)).extract (offs (frs m l) (whole (frs m l) c)) c).extract 0 4 = (Lk.fr m l (whole (frs m l) c)).extract 0 4 := by
          rw [ByteArray.extract_extract, Nat.min_eq_left (by omega)]
          have := cat_seg (X := frs m l) (k := whole (frs m l) c) (by rw [frs_len]; exact hw) 0 4 (by rw [frs_nth hw]; omega)
          rw [frs_nth hw] at this
          exact this
        rw [seg, f2]
        exact d3
  · left
    show (ByteArray.extract _ _ _).size < 4
    have e : whole (frs m l) c = (frs m l).length := by omega
    rw [hrs, e, offs_all]
    omega
/-- all that has come is read -/
theorem read_all (h : Msgs m l) {most : Nat} {P : List ByteArray} {B : En} {E0 : Nat} {Y : ByteArray} (hP : catB P ++ Y = catB (frs m l)) (hB : BI most P B E0) : Pu 12 [leA (bLe m l (whole (frs m l) (offs P E0)) (offs P E0) B)] (.tup [leA (bLe m l (whole (frs m l) (offs P B.exp)) (offs P B.exp) { B with read := e0 }), bl true]) ∧ BI most P { B with read := e0 } B.exp := by
  have hz := frs_size h
  have hPs : (catB P).size ≤ (catB (frs m l)).size := by rw [← hP, ByteArray.size_append]; omega
  have c0 := offs_le P E0
  have c1 := offs_le P B.exp
  have cm := offs_mono hB.e0 hB.exp
  obtain ⟨w1, w2, w3⟩ := whole_le (frs m l) (offs P E0)
  obtain ⟨v1, v2, v3⟩ := whole_le (frs m l) (offs P B.exp)
  have hww : whole (frs m l) (offs P E0) ≤ whole (frs m l) (offs P B.exp) := by
    rcases Nat.lt_or_ge (whole (frs m l) (offs P B.exp)) (whole (frs m l) (offs P E0)) with q | q
    · have a := v3 (by omega)
      have b := offs_mono (X := frs m l) (i := whole (frs m l) (offs P B.exp) + 1) (j := whole (frs m l) (offs P E0)) (by omega) w1
      omega
    · exact q
  have hrd := hB.rd
  have e1 := offs_pre hP E0
  have e2 := offs_pre hP B.exp
  have hrs : B.read.size = offs P B.exp - offs P E0 := by
    have := congrArg ByteArray.size hrd
    rw [ByteArray.size_append] at this
    have a : (catB (P.take E0)).size = offs P E0 := rfl
    have b : (catB (P.take B.exp)).size = offs P B.exp := rfl
    omega
  have hrest : (catB (frs m l)).extract (offs (frs m l) (whole (frs m l) (offs P E0))) (offs P E0) ++ B.read = (catB (frs m l)).extract (offs (frs m l) (whole (frs m l) (offs P E0))) (offs P B.exp) := by
    have a : B.read = (catB (frs m l)).extract (offs P E0) (offs P B.exp) := by
      have : (catB (P.take E0) ++ B.read).extract (offs P E0) (offs P B.exp) = B.read := ByteArray.extract_append_eq_right rfl (by rw [hrs]; show _ = offs P E0 + _; omega)
      rw [← this, hrd, e2, ByteArray.extract_extract, Nat.zero_add, Nat.zero_add, Nat.min_self]
    rw [a, ByteArray.extract_append_extract]
    congr 1 <;> omega
  refine ⟨?_, ⟨⟨hB.mo, hB.way, hB.nx, hB.rest, hB.exp, hB.asd, Nat.le_refl _, by show catB _ ++ ByteArray.empty = _; rw [ByteArray.append_empty]⟩, hB.as0⟩⟩
  have hR := read_ok B
  have := read12 (bLe m l (whole (frs m l) (offs P E0)) (offs P E0) B) _ _ (fun i => bLe m l (whole (frs m l) (offs P E0) + i) (offs P B.exp) { B with read := e0 }) (whole (frs m l) (offs P B.exp) - whole (frs m l) (offs P E0)) (by
    show (ByteArray.extract _ _ _).size + B.read.size ≤ _
    rw [ByteArray.size_extract, hrs]; omega) hR (by
    exact le_eq hrest.symm rfl) (fun i hi => by
    have := bstep h (g := whole (frs m l) (offs P E0) + i) (c := offs P B.exp) { B with read := e0 } (by omega) (by omega)
    exact this) (by
    show RdEnd (bLe m l (whole (frs m l) (offs P E0) + (whole (frs m l) (offs P B.exp) - whole (frs m l) (offs P E0))) _ _)
    rw [show whole (frs m l) (offs P E0) + (whole (frs m l) (offs P B.exp) - whole (frs m l) (offs P E0)) = whole (frs m l) (offs P B.exp) by omega]
    exact bend h _ (by omega))
  rw [show whole (frs m l) (offs P E0) + (whole (frs m l) (offs P B.exp) - whole (frs m l) (offs P E0)) = whole (frs m l) (offs P B.exp) by omega] at this
  exact this
end
end Go.Proofs.YtdcoomeagbjhlaaDoor.Lk
