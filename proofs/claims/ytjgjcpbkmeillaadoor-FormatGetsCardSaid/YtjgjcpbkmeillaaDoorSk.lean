/- strings.Builder: the laws of copyCheck and String upon own blocks. By the prover of this seat. -/
import Derived.Test.YtjgjcpbkmeillaaDoorSj
set_option linter.unusedVariables false
set_option linter.unusedSimpArgs false
set_option maxRecDepth 100000
namespace Go.Proofs.YtjgjcpbkmeillaaDoor
open Go.RowKit Go.Pm
def nilP : AV := .s (.pointer none)
def nilS : AV := .s (.slice none 0 0)
theorem inv_ptr {M : Mem} {ρ : Nm} {i o : Nat} {v : Value} (h : VR M ρ (.ptr i o) v) : ∃ b s, ρ i = some (b, s) ∧ v = .pointer (some ⟨b, o, none⟩) := by
  cases h with
  | ptr h => exact ⟨_, _, h, rfl⟩
theorem frozen_no {W : World} {b o : Nat} {cur : Array Value} {e : TypeId} {fr : Nat × Nat} (h : W.heap[b]? = some (.cells cur e fr)) (hf : (decide (fr.1 ≤ o) && decide (o < fr.2)) = false) : W.frozen? ⟨b, o, none⟩ = false := by
  simp only [World.frozen?, h]
  exact hf
theorem setCell_at {W : World} {b o : Nat} {cur : Array Value} {e : TypeId} {fr : Nat × Nat} (h : W.heap[b]? = some (.cells cur e fr)) (v : Value) : (W.setCell ⟨b, o, none⟩ v).heap[b]? = some (.cells (cur.setIfInBounds o v) e fr) := by
  simp [World.setCell, Array.getElem?_modify, h]
theorem setCell_off {W : World} {b o k : Nat} (v : Value) (hk : k ≠ b) : (W.setCell ⟨b, o, none⟩ v).heap[k]? = W.heap[k]? := by
  simp [World.setCell, Array.getElem?_modify]
  intro e
  exact absurd e.symm hk
theorem cc_law_used (H : List Bk) (i : Nat) (x : AV) (L : Nat) (fz : Fz) (hB : H[i]? = some (.arr L [.ptr i 0, x] fz)) : CallH Tryd.prog G1 52 [.ptr i 0] H (.tup []) H := by
  refine ⟨by kernel_rfl, fun w0 ρ M W vals hw hg hv => ?_⟩
  have hl : vals.length = 1 := hv.len.symm
  match vals, hl with
  | [v], _ =>
    obtain ⟨b, s, h1, rfl⟩ := inv_ptr (hv.at_ 0 _ _ rfl rfl)
    obtain ⟨c1, c2, ⟨cur, e, fr, k3, k4, k5, k6⟩, k7, k8⟩ := hw.blk i b s _ h1 hB
    obtain ⟨u, u1, u2, u3⟩ := k6 0 _ rfl
    obtain ⟨b', s', h2, rfl⟩ := inv_ptr u3
    rw [h1] at h2
    cases h2
    refine (cc_used b W (by rw [Lib.cell_of_heap k3]; exact u1)).mono fun e W' hh => ?_
    obtain ⟨rfl, rfl⟩ := hh
    exact ⟨_, ρ, M, rfl, Mem.le.refl M, Nm.le.refl ρ, hw, .mkTup (vs := []) L2.nil, Fresh.refl _ _⟩
theorem cc_law_fresh (H : List Bk) (i : Nat) (x : AV) (hB : H[i]? = some (.arr 2 [nilP, x] ⟨0, some 58⟩)) : CallH Tryd.prog G1 52 [.ptr i 0] H (.tup []) (Go.Pm.putB H (i, .arr 2 [.ptr i 0, x] ⟨0, some 58⟩)) := by
  refine ⟨by kernel_rfl, fun w0 ρ M W vals hw hg hv => ?_⟩
  have hl : vals.length = 1 := hv.len.symm
  match vals, hl with
  | [v], _ =>
    obtain ⟨b, s, h1, rfl⟩ := inv_ptr (hv.at_ 0 _ _ rfl rfl)
    obtain ⟨c1, c2, ⟨cur, e, fr, k3, k4, k5, k6⟩, k7, k8⟩ := hw.blk i b s _ h1 hB
    obtain ⟨u, u1, u2, u3⟩ := k6 0 _ rfl
    have u3 := u3.inv_s
    subst u3
    obtain ⟨cur', fr', q⟩ := k8 58 rfl
    have q2 := k3.symm.trans q
    injection q2 with q2
    injection q2 with _ he _
    subst he
    refine (cc_fresh b cur.size W (by rw [Lib.cell_of_heap k3]; exact u1) (by unfold World.shape?; rw [k3]) (by omega) (frozen_no k3 (k5 0 (by omega)))).mono fun e W' hh => ?_
    obtain ⟨rfl, rfl⟩ := hh
    have hset := hw.setRow h1 hB (off := 0) (xs := [.ptr i 0]) (vs := [.pointer (some ⟨b, 0, none⟩)]) (L2.cons (.ptr h1) L2.nil) (by simp [Value.oneCell']) (by simp) (by simp) k3 (cur' := cur.setIfInBounds 0 (.pointer (some ⟨b, 0, none⟩))) (by simp)
      (fun j => by
        by_cases hj : j = 0
        · subst hj
          have h0 : 0 < cur.size := by omega
          rw [if_pos (by simp), Array.getElem?_setIfInBounds, if_pos rfl, if_pos h0]
          rfl
        · rw [if_neg (by simp; omega), Array.getElem?_setIfInBounds, if_neg (fun e => hj e.symm)]) (setCell_at k3 _) (fun k hk => setCell_off _ hk) ⟨rfl, rfl, rfl, by simp [World.setCell]⟩
    exact ⟨_, ρ, M, rfl, Mem.le.refl M, Nm.le.refl ρ, hset, .mkTup (vs := []) L2.nil, Fresh.refl _ _⟩
theorem str_law_nil (H : List Bk) (i : Nat) (x : AV) (L : Nat) (fz : Fz) (hB : H[i]? = some (.arr L [x, nilS] fz)) : CallH Tryd.prog G1 31 [.ptr i 0] H (st ⟨#[]⟩) H := by
  refine ⟨by kernel_rfl, fun w0 ρ M W vals hw hg hv => ?_⟩
  have hl : vals.length = 1 := hv.len.symm
  match vals, hl with
  | [v], _ =>
    obtain ⟨b, s, h1, rfl⟩ := inv_ptr (hv.at_ 0 _ _ rfl rfl)
    obtain ⟨c1, c2, ⟨cur, e, fr, k3, k4, k5, k6⟩, k7, k8⟩ := hw.blk i b s _ h1 hB
    obtain ⟨u, u1, u2, u3⟩ := k6 1 _ rfl
    have u3 := u3.inv_s
    subst u3
    refine (str_nil b e fr cur W k3 u1).mono fun e W' hh => ?_
    obtain ⟨rfl, rfl⟩ := hh
    exact ⟨_, ρ, M, rfl, Mem.le.refl M, Nm.le.refl ρ, hw.drew, .s _ _, Fresh.refl _ _⟩
theorem freeze_off {W : World} {b k n : Nat} (hk : k ≠ b) : (W.freeze ⟨b, 0, none⟩ n).heap[k]? = W.heap[k]? := by
  unfold World.freeze
  split
  · rfl
  · simp [Array.getElem?_modify]
    intro e
    exact absurd e.symm hk
theorem freeze_rest (W : World) (b n : Nat) : (W.freeze ⟨b, 0, none⟩ n).os = W.os ∧ (W.freeze ⟨b, 0, none⟩ n).tape = W.tape ∧ (W.freeze ⟨b, 0, none⟩ n).output = W.output ∧ W.heap.size ≤ (W.freeze ⟨b, 0, none⟩ n).heap.size := by
  unfold World.freeze
  split
  · exact ⟨rfl, rfl, rfl, Nat.le_refl _⟩
  · exact ⟨rfl, rfl, rfl, by simp⟩
theorem u8_inv {cs : List AV} (h : cs.all isU8 = true) {j : Nat} {c : AV} (hj : cs[j]? = some c) : ∃ n : Int, c = .s (.int .u8 n) ∧ 0 ≤ n ∧ n < 256 := by
  have := List.all_eq_true.1 h c (List.mem_of_getElem? hj)
  unfold isU8 at this
  split at this
  · rename_i n
    simp at this
    exact ⟨n, rfl, this⟩
  · cases this
theorem str_law (H : List Bk) (i k : Nat) (x : AV) (L L2 n : Nat) (cs : List AV) (fz : Fz) (hB : H[i]? = some (.arr L [x, .osl k 0 n 1] fz)) (hK : H[k]? = some (.arr L2 cs ⟨0, some 5⟩)) (hcl : cs.length = n) (hcs : cs.all isU8 = true) (hn : 0 < n) (hn2 : n ≤ 281474976710656) : CallH Tryd.prog G1 31 [.ptr i 0] H (st (strA cs)) (Go.Pm.putB H (k, .dead)) := by
  refine ⟨by kernel_rfl, fun w0 ρ M W vals hw hg hv => ?_⟩
  have hl : vals.length = 1 := hv.len.symm
  match vals, hl with
  | [v], _ =>
    obtain ⟨b, s, h1, rfl⟩ := inv_ptr (hv.at_ 0 _ _ rfl rfl)
    obtain ⟨c1, c2, ⟨cur, e, fr, k3, k4, k5, k6⟩, k7, k8⟩ := hw.blk i b s _ h1 hB
    obtain ⟨u, u1, u2, u3⟩ := k6 1 _ rfl
    cases u3 with
    | osl_e => omega
    | osl g1 g2 g3 =>
      rename_i g m cap
      obtain ⟨d1, d2, ⟨curg, eg, frg, j3, j4, j5, j6⟩, j7, j8⟩ := hw.blk k g m _ g1 hK
      obtain ⟨cur', fr', q⟩ := j8 5 rfl
      have q2 := j3.symm.trans q
      injection q2 with q2
      injection q2 with _ he _
      subst he
      obtain ⟨l, hll⟩ : ∃ l : List UInt8, l = cs.map toByte := ⟨_, rfl⟩
      have hlen : l.length = n := by rw [hll, List.length_map]; exact hcl
      have hcell : ∀ j y, l[j]? = some y → W.cell? ((⟨g, 0, none⟩ : Addr).add j) = some (.int .u8 y.toNat) := by
        intro j y hy
        rw [hll, List.getElem?_map, Option.map_eq_some_iff] at hy
        obtain ⟨c, hc, rfl⟩ := hy
        obtain ⟨z, rfl, z0, z1⟩ := u8_inv hcs hc
        obtain ⟨w, w1, w2, w3⟩ := j6 j _ hc
        have w3 := w3.inv_s
        subst w3
        have e1 : ((⟨g, 0, none⟩ : Addr).add j) = ⟨g, j, none⟩ := by rw [add_flat, Nat.zero_add]
        rw [e1, Lib.cell_of_heap j3]
        show curg[j]? = _
        rw [w1]
        congr 2
        show z = ((UInt8.ofNat z.toNat).toNat : Int)
        rw [UInt8.toNat_ofNat', Nat.mod_eq_of_lt (by omega)]
        omega
      refine (str_row b g cap curg.size (.bool true) e fr cur l W (fun e => by rw [e] at hlen; simp at hlen; omega) (by omega) (by omega) (by unfold World.shape?; rw [j3]) (by omega) k3 (by rw [hlen]; exact u1) hcell).mono fun e W' hh => ?_
      obtain ⟨rfl, rfl⟩ := hh
      have hnc : ∀ o v, M.cell g o ≠ some v := fun o v h => absurd (j7 o v h).1 (Nat.not_lt_zero _)
      have hnm : ∀ kv, M.map g ≠ some kv := fun kv h => by
        have := (hw.fro.map g kv h).1
        rw [j3] at this
        cases this
      have hset := hw.drew.setBlk g1 hK trivial (B' := .dead) (W' := W.drew.freeze ⟨g, 0, none⟩ l.length) (fun k hk => freeze_off hk) (freeze_rest _ _ _) hnc hnm trivial
      refine ⟨_, ρ, M, rfl, Mem.le.refl M, Nm.le.refl ρ, hset, ?_, Fresh.refl _ _⟩
      rw [hll]
      exact .s _ _
end Go.Proofs.YtjgjcpbkmeillaaDoor
