/- requests, the iterator: the walk, whole. By the prover of this seat. -/
import Derived.RangeFuncNested
import Derived.RangeFuncBound
import Derived.RangeFuncCalls
import Derived.RangeFuncLeaves
import Derived.Shelf.Abstract
import Derived.Shelf.RegionOpen
import Derived.WalkKit
import Derived.OwnWalkIn
import Derived.TacticsInMore
import Derived.LoopNIn
import Derived.LoopIn
import Derived.Test.YtcnlgdbmcdlknaaDoorZc
set_option linter.unusedVariables false
set_option linter.unusedSimpArgs false
set_option maxRecDepth 100000
set_option maxHeartbeats 4000000
namespace Go.Proofs.YtcnlgdbmcdlknaaDoor.Fo
open Go.RowKit Go.Shelf Go.Pm
attribute [local go_sem] Oper.semAt_some
/-- where the requests of b begin, and how long they are -/
structure Rqs (o : Int) (b : ByteArray) (at_ nk : Nat → Nat) (m : Nat) : Prop where
  size : b.size ≤ 100000
  zero : at_ 0 = 0
  next : ∀ k, k < m → at_ (k + 1) = at_ k + nk k
  pos : ∀ k, k < m → 1 ≤ nk k ∧ nk k ≤ 1000
  room : ∀ k, k < m → at_ k + 4 ≤ b.size
  len : ∀ k, k < m → Pu 36 [i64 o, st (b.extract (at_ k) b.size)] (.tup [i64 (nk k : Int), i64 0])
  stop : b.size < at_ m + 4
theorem Rqs.le {o : Int} {b : ByteArray} {at_ nk : Nat → Nat} {m : Nat} (h : Rqs o b at_ nk m) : ∀ k, k ≤ m → at_ k ≤ 101000 := by
  intro k hk
  cases k with
  | zero => rw [h.zero]; omega
  | succ k =>
    have h1 := h.next k (by omega)
    have h2 := h.pos k (by omega)
    have h3 := h.room k (by omega)
    have h4 := h.size
    omega
theorem rel_it {w0 W : World} {M : Mem} {b : ByteArray} {o : Int} {p : Nat} {bb ob bo oo : Nat} (hG : GlobR G1 M) (hF : Fro M W) (e1 : M.cell bb ob = some (.string b)) (e2 : M.cell bo oo = some (.int .i64 o)) {t : Array Value} (ht : t.size = 32)
    (t1 : t[1]? = some (.pointer (some ⟨bb, ob, none⟩))) (t2 : t[2]? = some (.pointer (some ⟨bo, oo, none⟩))) (t4 : t[4]? = some (.int .i64 (p : Int))) : Rel C1 W Nm.none M (itT b o p) { tmps := t, defers := [] } W := by
  refine ⟨⟨?_, fun i c v hc hv => ?_⟩, ⟨Below.refl _ W, hF, (fun i x h => by cases h), (fun i j b s t B B' h => by cases h), (fun i b s B h => by cases h), (fun i b s B h => by cases h), (fun i b s B h => by cases h)⟩, hG, Nat.zero_le _, Marks.nil _⟩
  · show (mkT 32 _).length = t.toList.length
    have e : t.toList.length = 32 := by rw [Array.length_toList]; exact ht
    rw [e]
    rfl
  · have hv' : t[i]? = some v := by simpa using hv
    have hi : i < 32 := by have := (Array.getElem?_eq_some_iff.1 hv').1; omega
    have any : c = .any → VR M Nm.none c v := fun e => by rw [e]; exact .any _ _
    by_cases h1 : i = 1
    · subst h1
      rw [t1] at hv'
      cases hv'
      cases hc
      refine .fptr (fun _ => .string b) (fun j c hj => ?_) (fun j c hj => ?_)
      · have : j = 0 := by have := (List.getElem?_eq_some_iff.1 hj).1; simp at this; exact this
        subst this
        exact e1
      · have : j = 0 := by have := (List.getElem?_eq_some_iff.1 hj).1; simp at this; exact this
        subst this
        cases hj
        exact .s _ _
    · by_cases h2 : i = 2
      · subst h2
        rw [t2] at hv'
        cases hv'
        cases hc
        refine .fptr (fun _ => .int .i64 o) (fun j c hj => ?_) (fun j c hj => ?_)
        · have : j = 0 := by have := (List.getElem?_eq_some_iff.1 hj).1; simp at this; exact this
          subst this
          exact e2
        · have : j = 0 := by have := (List.getElem?_eq_some_iff.1 hj).1; simp at this; exact this
          subst this
          cases hj
          exact .s _ _
      · by_cases h4 : i = 4
        · subst h4
          rw [t4] at hv'
          cases hv'
          cases hc
          exact .s _ _
        · refine any ?_
          have hn : ∀ j, j < 32 → j ≠ 1 → j ≠ 2 → j ≠ 4 → (mkT 32 [(1, .fptr [st b]), (2, .fptr [i64 o]), (4, i64 (p : Int))])[j]? = some .any := by
            intro j hj a1 a2 a4
            unfold mkT
            rw [List.getElem?_map, List.getElem?_range hj]
            simp [Ne.symm a1, Ne.symm a2, Ne.symm a4]
          have := hn i hi h1 h2 h4
          have hc' : (mkT 32 [(1, AV.fptr [st b]), (2, AV.fptr [i64 o]), (4, i64 (p : Int))])[i]? = some c := hc
          rw [this] at hc'
          cases hc'
          rfl
theorem reg_its (X : Array Oper) (hX : X = itOps) {Q : Exit → Act → World → Prop} {a : Act} {W : World} (h : Code.wpIn Fence.wide 0 Tryd.prog (Code.region 2 itOps true) Q a W) : Code.wpIn Fence.wide 0 Tryd.prog (Code.region 2 X true) Q a W := by subst hX; exact h
theorem reqs1 (l bb ob bo oo : Nat) (b : ByteArray) (o : Int) (at_ nk : Nat → Nat) (m : Nat) (hR : Rqs o b at_ nk m) (M : Mem) (hG : GlobR G1 M) (e1 : M.cell bb ob = some (.string b)) (e2 : M.cell bo oo = some (.int .i64 o)) (J Jx : Nat → World → Prop)
    (hJ : ∀ k W, J k W → Fro M W ∧ ∀ W', Below W.heap.size W W' → J k W')
    (hY : ∀ k W, k < m → J k W → YieldAt Fence.wide 0 Tryd.prog l #[.int .i64 (at_ k : Int), .int .i64 (nk k : Int)] W fun e W' => (e = .returned (.bool true) ∧ J (k + 1) W') ∨ (e = .returned (.bool false) ∧ Jx k W'))
    (W : World) (h0 : J 0 W) : CallsIn Fence.wide 0 Tryd.prog 51 #[.func (.yield l) #[] #[], .pointer (some ⟨bb, ob, none⟩), .pointer (some ⟨bo, oo, none⟩)] W fun e W' => (∃ v, e = .returned v) ∧ (J m W' ∨ ∃ k, k < m ∧ Jx k W') := by
  refine callsIn_of_wp Tryd.func51 rfl trivial ?_ rfl
  simp only [Tryd.ntmps51, List.size_toArray, List.length_cons, List.length_nil, Nat.reduceAdd, Nat.reduceSub, Array.replicate_succ, Array.replicate_zero, List.push_toArray, List.append_toArray, List.nil_append, List.cons_append]
  gi_wp2
  gi_loopw [4] (fun i wr => ∃ k : Nat, k ≤ m ∧ i = .int .i64 (at_ k : Int) ∧ J k wr)
    (fun i _ => 200000 - (intOf i).toNat)
  case atStart => exact ⟨0, Nat.zero_le _, by rw [hR.zero]; rfl, h0⟩
  case round =>
    obtain ⟨k, hk, rfl, hJs⟩ := hrel
    have hF := (hJ _ wr hJs).1
    have c1 := (hF.cell _ _ _ e1).1
    have hle := hR.le k hk
    have hsz := hR.size
    by_cases hlt : k < m
    · have hroom := hR.room k hlt
      have hge : ((b.size : Int) - (at_ k : Int) ≥ 4) := by omega
      gi_wp2
      refine reg_its _ (by kernel_rfl) ?_
      have hkeep := it_keep o (nk k) b (at_ k) (by omega) (by omega) (hR.len k hlt)
      refine wpIn_mono (wpIn_wide.2 (hkeep _ _ _ _ _ (rel_it (w0 := wr) (b := b) (o := o) (p := at_ k) hG hF e1 e2 rfl rfl rfl rfl))) (fun x a' W' hx => ?_)
      obtain ⟨⟨rfl, ρ', M', q1, q2, q3, q4⟩, hk1, hk2, hk3⟩ := hx
      have hJ2 := (hJ _ wr hJs).2 W' q4.wr.bel
      have hn5 := q4.slots.at_ 5
      obtain ⟨t', d'⟩ := a'
      obtain rfl : d' = [] := hk2
      obtain ⟨L, rfl⟩ : ∃ L : List Value, t' = L.toArray := ⟨t'.toList, by simp⟩
      have hL : L.length = 32 := by simpa using hk3
      match L, hL with
      | [x0, x1, x2, x3, x4, x5, x6, x7, x8, x9, x10, x11, x12, x13, x14, x15, x16, x17, x18, x19, x20, x21, x22, x23, x24, x25, x26, x27, x28, x29, x30, x31], _ =>
        have z0 := hk1 0 rfl
        have z1 := hk1 1 rfl
        have z2 := hk1 2 rfl
        have z3 := hk1 3 rfl
        have z4 := hk1 4 rfl
        have z5 := hn5 _ _ rfl rfl
        obtain rfl := Option.some.inj z0
        obtain rfl := Option.some.inj z1
        obtain rfl := Option.some.inj z2
        obtain rfl := Option.some.inj z3
        obtain rfl := Option.some.inj z4
        obtain rfl := z5.inv_s
        clear hk1 hk3 hn5 q4 z0 z1 z2 z3 z4 z5
        gi_wp2
        obtain ⟨fn, tmps, assign, body, hy, hR2⟩ := hY k _ hlt hJ2
        rw [hy]
        refine ⟨fun h => (by simp [Fence.wide] at h), hR2.mono ?_⟩
        have hp := hR.pos k hlt
        have hnx := hR.next k hlt
        have hz : ((nk k : Int) == 0) = false := by simp; omega
        rintro e V' (⟨rfl, hJ3⟩ | ⟨rfl, hJx3⟩)
        · gi_wp2
          go_roundw
          case rel => exact ⟨k + 1, by omega, by rw [hnx]; simp, hJ3⟩
          case measure => simp [intOf]; omega
        · gi_wp2
          refine bodyPost_ret (results_none rfl _ _ _) rfl ?_
          exact ⟨⟨_, rfl⟩, .inr ⟨k, hlt, hJx3⟩⟩
    · obtain rfl : k = m := by omega
      have hstop := hR.stop
      have hge : ¬ ((b.size : Int) - (at_ k : Int) ≥ 4) := by omega
      gi_wp2
      go_end0
      exact ⟨⟨_, rfl⟩, .inl hJs⟩
end Go.Proofs.YtcnlgdbmcdlknaaDoor.Fo
