/- Requests among bytes; the iterator's law. By the prover of this seat. -/
import Derived.Test.YtcnlgdbmcdlknaaDoorZd
import Derived.Test.YtcnlgdbmcdlknaaDoorZe
set_option linter.unusedVariables false
set_option linter.unusedSimpArgs false
set_option maxRecDepth 100000
set_option maxHeartbeats 4000000
namespace Go.Proofs.YtcnlgdbmcdlknaaDoor.Fo
open Go.RowKit Go.Pm
def rqX (at_ nk : Nat → Nat) (m : Nat) : List (AV × AV) := (List.range m).map fun (k : Nat) => (i64 (at_ k : Int), i64 (nk k : Int))
theorem rqX_len (at_ nk : Nat → Nat) (m : Nat) : (rqX at_ nk m).length = m := by unfold rqX; rw [List.length_map, List.length_range]
theorem rqX_at (at_ nk : Nat → Nat) (m k : Nat) (y : AV × AV) (h : (rqX at_ nk m)[k]? = some y) : k < m ∧ y = (i64 (at_ k : Int), i64 (nk k : Int)) := by
  unfold rqX at h
  rw [List.getElem?_map, Option.map_eq_some_iff] at h
  obtain ⟨i, h1, rfl⟩ := h
  obtain ⟨h2, h3⟩ := List.getElem?_eq_some_iff.1 h1
  rw [List.length_range] at h2
  rw [List.getElem_range] at h3
  subst h3
  exact ⟨h2, rfl⟩
theorem rqX_get (at_ nk : Nat → Nat) (m k : Nat) (h : k < m) : (rqX at_ nk m)[k]? = some (i64 (at_ k : Int), i64 (nk k : Int)) := by
  unfold rqX
  rw [List.getElem?_map, List.getElem?_range h]
  rfl
theorem inv_fptr1 {M : Mem} {x v : Value} (h : VR M Nm.none (.fptr [.s x]) v) : ∃ b o, v = .pointer (some ⟨b, o, none⟩) ∧ M.cell b o = some x := by
  cases h with
  | fptr f p1 p2 =>
    have e1 := p1 0 _ rfl
    rw [(p2 0 _ rfl).inv_s, Nat.add_zero] at e1
    exact ⟨_, _, rfl, e1⟩
theorem reqs_iter (b : ByteArray) (o : Int) (at_ nk : Nat → Nat) (m : Nat) (hR : Rqs o b at_ nk m) : IterG Tryd.prog G1 51 [.fptr [st b], .fptr [i64 o]] (rqX at_ nk m) := by
  intro l M vals hG J Jx W hv hJ hY h0
  have hl : vals.length = 2 := hv.len.symm
  match vals, hl with
  | [p, q], _ =>
    obtain ⟨bb, ob, rfl, e1⟩ := inv_fptr1 (hv.at_ 0 _ _ rfl rfl)
    obtain ⟨bo, oo, rfl, e2⟩ := inv_fptr1 (hv.at_ 1 _ _ rfl rfl)
    refine (reqs1 l bb ob bo oo b o at_ nk m hR M hG e1 e2 J Jx hJ (fun k V hk h => ?_) W h0).mono ?_
    · exact hY k _ V _ _ (rqX_get at_ nk m k hk) h (.s _ _) (.s _ _)
    · rintro e V ⟨h1, h2⟩
      refine ⟨h1, ?_⟩
      rw [rqX_len]
      exact h2
theorem reqs_enter (args : Array Value) (w : World) : (callFunc 51 args).run Tryd.prog w = .ok (.enter 51 args) w := enters_of Tryd.func51 (by kernel_rfl) rfl args w
/-- how many requests' heads are within the first c bytes -/
def reqn (X : List ByteArray) (c : Nat) : Nat := if whole X c < X.length ∧ offs X (whole X c) + 4 ≤ c then whole X c + 1 else whole X c
theorem offs_mono {X : List ByteArray} {i j : Nat} (h : i ≤ j) (hj : j ≤ X.length) : offs X i ≤ offs X j := by
  induction j with
  | zero => rw [Nat.le_zero.1 h]; exact Nat.le_refl _
  | succ j ih =>
    by_cases e : i = j + 1
    · subst e; exact Nat.le_refl _
    · have := ih (by omega) (by omega)
      have h2 := offs_succ (X := X) (k := j) (by omega)
      omega
theorem offs_bd {X : List ByteArray} {n : Nat} (hX : ∀ k, k < X.length → (nth X k).size ≤ n) : ∀ k, k ≤ X.length → offs X k ≤ k * n
  | 0, _ => Nat.zero_le _
  | k + 1, hk => by
    have h1 := offs_bd hX k (by omega)
    have h2 := offs_succ (X := X) (k := k) (by omega)
    have h3 := hX k (by omega)
    rw [Nat.succ_mul]
    omega
/-- requests that say how long they are -/
def Frms (o : Int) (X : List ByteArray) (v : Nat → Int) : Prop := X.length ≤ 20 ∧ ∀ k, k < X.length → Frm o (nth X k) (v k)
theorem Frms.size {o : Int} {X : List ByteArray} {v : Nat → Int} (h : Frms o X v) {k : Nat} (hk : k < X.length) : 4 ≤ (nth X k).size ∧ (nth X k).size ≤ 400 ∧ ((nth X k).size : Int) = 4 * v k ∧ 1 ≤ v k ∧ v k ≤ 100 := by
  have h1 := (h.2 k hk).size
  have h2 := (h.2 k hk).v1
  have h3 := (h.2 k hk).v2
  omega
theorem Frms.bd {o : Int} {X : List ByteArray} {v : Nat → Int} (h : Frms o X v) : (catB X).size ≤ 8000 := by
  have h1 := offs_bd (X := X) (n := 400) (fun k hk => (h.size hk).2.1) X.length (Nat.le_refl _)
  rw [offs_all] at h1
  have h2 := h.1
  have : X.length * 400 ≤ 20 * 400 := Nat.mul_le_mul_right _ h2
  omega
theorem beg_size {Z : ByteArray} {c : Nat} (hc : c ≤ Z.size) : (Z.extract 0 c).size = c := by rw [ByteArray.size_extract]; omega
theorem beg_ext {Z : ByteArray} {c i j : Nat} (h : j ≤ c) : (Z.extract 0 c).extract i j = Z.extract i j := by
  rw [ByteArray.extract_extract, Nat.zero_add, Nat.zero_add, Nat.min_eq_left h]
theorem reqn_room {o : Int} {X : List ByteArray} {v : Nat → Int} (h : Frms o X v) {c k : Nat} (hc : c ≤ (catB X).size) (hk : k < reqn X c) : k < X.length ∧ offs X k + 4 ≤ c := by
  obtain ⟨w1, w2, w3⟩ := whole_le X c
  unfold reqn at hk
  by_cases q : whole X c < X.length ∧ offs X (whole X c) + 4 ≤ c
  · rw [if_pos q] at hk
    by_cases e : k = whole X c
    · subst e; exact q
    · have h1 := offs_succ (X := X) (k := k) (by omega)
      have h2 := offs_mono (X := X) (i := k + 1) (j := whole X c) (by omega) w1
      have h3 := (h.size (k := k) (by omega)).1
      exact ⟨by omega, by omega⟩
  · rw [if_neg q] at hk
    have h1 := offs_succ (X := X) (k := k) (by omega)
    have h2 := offs_mono (X := X) (i := k + 1) (j := whole X c) (by omega) w1
    have h3 := (h.size (k := k) (by omega)).1
    exact ⟨by omega, by omega⟩
theorem rqs_of {o : Int} {X : List ByteArray} {v : Nat → Int} (h : Frms o X v) (ho : o = 0 ∨ o = 1) {c : Nat} (hc : c ≤ (catB X).size) : Rqs o ((catB X).extract 0 c) (offs X) (fun k => (nth X k).size) (reqn X c) := by
  have hb := h.bd
  obtain ⟨w1, w2, w3⟩ := whole_le X c
  refine ⟨by rw [beg_size hc]; omega, offs_zero X, fun k hk => offs_succ (reqn_room h hc hk).1, fun k hk => ?_, fun k hk => ?_, fun k hk => ?_, ?_⟩
  · have := h.size (reqn_room h hc hk).1
    exact ⟨by omega, by omega⟩
  · rw [beg_size hc]; exact (reqn_room h hc hk).2
  · obtain ⟨h1, h2⟩ := reqn_room h hc hk
    obtain ⟨s1, s2, s3, s4, s5⟩ := h.size h1
    rw [beg_size hc, beg_ext (Nat.le_refl c)]
    have e : ((catB X).extract (offs X k) c).extract 2 4 = (nth X k).extract 2 4 := by
      rw [ByteArray.extract_extract, Nat.min_eq_left h2]
      exact cat_seg h1 2 4 s1
    have sz : ((catB X).extract (offs X k) c).size = c - offs X k := by rw [ByteArray.size_extract]; omega
    have hg := get_all o 2 (((catB X).extract (offs X k) c).extract 2 4)
    rw [e, (h.2 k h1).get] at hg
    rw [s3]
    exact len_ok o (v k) _ ho (by rw [sz]; omega) (by rw [sz]; omega) (by omega) (by omega) (by omega) (by rw [e]; exact hg)
  · rw [beg_size hc]
    unfold reqn
    by_cases q : whole X c < X.length ∧ offs X (whole X c) + 4 ≤ c
    · rw [if_pos q]; have := w3 q.1; omega
    · rw [if_neg q]
      by_cases e : whole X c < X.length
      · omega
      · have : whole X c = X.length := by omega
        rw [this, offs_all]
        omega
theorem seg_beg {X : List ByteArray} {c k : Nat} (hc : c ≤ (catB X).size) (hk : k < whole X c) : ((catB X).extract 0 c).extract (offs X k) (offs X k + (nth X k).size) = nth X k := by
  obtain ⟨w1, w2, w3⟩ := whole_le X c
  have h1 := offs_succ (X := X) (k := k) (by omega)
  have h2 := offs_mono (X := X) (i := k + 1) (j := whole X c) (by omega) w1
  rw [beg_ext (by omega)]
  have := cat_seg (X := X) (k := k) (by omega) 0 (nth X k).size (Nat.le_refl _)
  rw [Nat.add_zero] at this
  rw [this, ByteArray.extract_zero_size]
end Go.Proofs.YtcnlgdbmcdlknaaDoor.Fo
