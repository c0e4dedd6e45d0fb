/- The machine of plain values: new blocks, written blocks. By the prover of this seat. -/
import Derived.Test.YtjjmidhpilmnbaaDoorPm3
import Derived.Laws.CopyRow
import Derived.Laws.Append
import Derived.Laws.MakeOwn
import Derived.Laws.AppendOwn
set_option linter.unusedVariables false
namespace Go.Pm
open Go Go.RowKit
theorem get_putB (H : List Bk) (n : Nat) (b : Bk) (i : Nat) : (putB H (n, b))[i]? = if i = n then some b else if i < H.length then H[i]? else if i < n then some Bk.dead else none := by
  unfold putB
  simp only [List.getElem?_set]
  by_cases h : n = i
  · subst h
    simp only [if_true]
    rw [if_pos (by simp; omega)]
  · rw [if_neg h, if_neg (Ne.symm h), List.getElem?_append]
    split
    · rfl
    · rename_i h1
      rw [List.getElem?_replicate]
      by_cases h2 : i < n
      · rw [if_pos (by omega), if_pos h2]
      · rw [if_neg (by omega), if_neg h2]
theorem len_putB (H : List Bk) (p : Nat × Bk) : (putB H p).length = max H.length (p.1 + 1) := by
  unfold putB
  simp
  omega
theorem len_putW (w : Ws) : ∀ H : List Bk, H.length ≤ (putW H w).length := by
  induction w with
  | nil => intro H; exact Nat.le_refl _
  | cons p w ih => intro H; exact Nat.le_trans (by rw [len_putB]; omega) (ih (putB H p))
def Nm.upd (ρ : Nm) (i : Nat) (x : Nat × Nat) : Nm := fun j => if j = i then some x else ρ j
theorem Nm.upd_self (ρ : Nm) (i : Nat) (x : Nat × Nat) : ρ.upd i x i = some x := by simp [Nm.upd]
theorem Nm.upd_ne (ρ : Nm) {i j : Nat} (x : Nat × Nat) (h : j ≠ i) : ρ.upd i x j = ρ j := by simp [Nm.upd, h]
theorem Nm.le_upd {ρ : Nm} {i : Nat} (x : Nat × Nat) (h : ρ i = Option.none) : ρ.le (ρ.upd i x) := by
  intro j y hy
  have : j ≠ i := fun e => by subst e; rw [h] at hy; cases hy
  rw [Nm.upd_ne _ _ this]; exact hy
theorem BR.keep {ρ ρ' : Nm} {M : Mem} {W W' : World} {b s : Nat} {B : Bk} (h : BR ρ M W b s B) (hr : ρ.le ρ') (hW : W'.heap[b]? = W.heap[b]?) : BR ρ' M W' b s B := by
  cases B with
  | dead => trivial
  | arr L cs fz =>
    obtain ⟨h1, h2, ⟨cur, e, fr, h3, h4, h5, h6⟩, h7⟩ := h
    exact ⟨h1, h2, ⟨cur, e, fr, hW.trans h3, h4, h5, fun i c hc => by
      obtain ⟨u, a, b, d⟩ := h6 i c hc
      exact ⟨u, a, b, d.mono (Mem.le.refl M) hr⟩⟩, h7⟩
  | map es fz =>
    obtain ⟨⟨ents, clock, h1, pq, h2, h3, h4, h5, h6⟩, h7⟩ := h
    exact ⟨⟨ents, clock, hW.trans h1, pq, h2, h3, h4, fun i c v a b => (h5 i c v a b).mono (Mem.le.refl M) hr, fun i c v a b => (h6 i c v a b).mono (Mem.le.refl M) hr⟩, h7⟩
theorem BR.lt {ρ : Nm} {M : Mem} {W : World} {b s : Nat} {B : Bk} (h : BR ρ M W b s B) (hl : B.live) : b < W.heap.size := by
  cases B with
  | dead => exact hl.elim
  | arr L cs fz =>
    obtain ⟨h1, h2, ⟨cur, e, fr, h3, _⟩, _⟩ := h
    exact (Array.getElem?_eq_some_iff.1 h3).1
  | map es fz =>
    obtain ⟨⟨ents, clock, h1, _⟩, _⟩ := h
    exact (Array.getElem?_eq_some_iff.1 h1).1
section
variable {w0 W : World} {ρ : Nm} {M : Mem} {H : List Bk}
theorem Fro.lt (h : Fro M W) {b o : Nat} {v : Value} (e : M.cell b o = some v) : b < W.heap.size := World.block_lt_of_cell? W ⟨b, o, none⟩ (h.cell b o v e).1
theorem Fro.ltm (h : Fro M W) {b : Nat} {v : List (Value × Value)} (e : M.map b = some v) : b < W.heap.size := by
  obtain ⟨es, clock, h1, _⟩ := h.map b v e
  exact (Array.getElem?_eq_some_iff.1 h1).1
theorem WR.world {W' : World} (h : WR w0 ρ M H W) (hb : Below w0.heap.size w0 W') (hh : ∀ b, b < W.heap.size → W'.heap[b]? = W.heap[b]?) : WR w0 ρ M H W' := by
  refine ⟨hb, h.fro.keep fun b hb => hh b ?_, h.dom, h.inj, h.new, fun i b s B h1 h2 => ?_⟩
  · rcases hb with ⟨o, v, e⟩ | ⟨kv, e⟩
    · exact h.fro.lt e
    · exact h.fro.ltm e
  · by_cases hl : B.live
    · have := h.blk i b s B h1 h2
      exact this.keep (Nm.le.refl _) (hh b (this.lt hl))
    · cases B with
      | dead => trivial
      | arr => exact absurd trivial hl
      | map => exact absurd trivial hl
theorem WR.drew (h : WR w0 ρ M H W) : WR w0 ρ M H W.drew := h.world h.bel.drew fun _ _ => rfl
/-- a new block -/
theorem WR.putG (h : WR w0 ρ M H W) {nid : Nat} (hn : ρ nid = none) {W' : World} (hbel : Below w0.heap.size w0 W') (hsame : ∀ b, b < W.heap.size → W'.heap[b]? = W.heap[b]?) (sz : Nat) (B : Bk) (hB : ∀ ρ' : Nm, ρ.le ρ' → BR ρ' M W' W.heap.size sz B) :
    WR w0 (ρ.upd nid (W.heap.size, sz)) M (putB H (nid, B)) W' := by
  have hw : w0.heap.size ≤ W.heap.size := h.bel.size
  have ha : WR w0 ρ M H W' := h.world hbel hsame
  have hold : ∀ i x, ρ i = some x → i ≠ nid ∧ (putB H (nid, B))[i]? = H[i]? := by
    intro i x hi
    have hne : i ≠ nid := fun e => by subst e; rw [hn] at hi; cases hi
    exact ⟨hne, by rw [get_putB, if_neg hne, if_pos (h.dom i x hi)]⟩
  have hlt : ∀ i b s B', ρ i = some (b, s) → H[i]? = some B' → B'.live → b < W.heap.size := fun i b s B' h1 h2 h3 => (h.blk i b s B' h1 h2).lt h3
  refine ⟨ha.bel, ha.fro, ?_, ?_, ?_, ?_⟩
  · intro i x hi
    rw [len_putB]
    by_cases e : i = nid
    · subst e; simp only; omega
    · rw [Nm.upd_ne _ _ e] at hi
      have := h.dom i x hi
      omega
  · intro i j b s t B1 B2 hi hj h1 l1 h2 l2
    by_cases e1 : i = nid <;> by_cases e2 : j = nid
    · rw [e1, e2]
    · subst e1
      rw [Nm.upd_self] at hi
      rw [Nm.upd_ne _ _ e2] at hj
      cases hi
      rw [(hold j _ hj).2] at h2
      exact absurd (hlt j _ _ _ hj h2 l2) (by omega)
    · subst e2
      rw [Nm.upd_self] at hj
      rw [Nm.upd_ne _ _ e1] at hi
      cases hj
      rw [(hold i _ hi).2] at h1
      exact absurd (hlt i _ _ _ hi h1 l1) (by omega)
    · rw [Nm.upd_ne _ _ e1] at hi
      rw [Nm.upd_ne _ _ e2] at hj
      rw [(hold i _ hi).2] at h1
      rw [(hold j _ hj).2] at h2
      exact h.inj i j b s t B1 B2 hi hj h1 l1 h2 l2
  · intro i b s B1 hi h1 l1
    by_cases e1 : i = nid
    · subst e1
      rw [Nm.upd_self] at hi
      cases hi; exact hw
    · rw [Nm.upd_ne _ _ e1] at hi
      rw [(hold i _ hi).2] at h1
      exact h.new i b s B1 hi h1 l1
  · intro i b s B1 hi h1
    by_cases e1 : i = nid
    · subst e1
      rw [Nm.upd_self] at hi
      cases hi
      rw [get_putB, if_pos rfl] at h1
      cases h1
      exact hB _ (Nm.le_upd _ hn)
    · rw [Nm.upd_ne _ _ e1] at hi
      rw [(hold i _ hi).2] at h1
      by_cases hl : B1.live
      · exact (ha.blk i b s B1 hi h1).keep (Nm.le_upd _ hn) rfl
      · cases B1 with
        | dead => trivial
        | arr => exact absurd trivial hl
        | map => exact absurd trivial hl
theorem WR.put (h : WR w0 ρ M H W) {nid : Nat} (hn : ρ nid = none) (o : Obj) (sz : Nat) (B : Bk) (hB : ∀ ρ' : Nm, ρ.le ρ' → BR ρ' M (W.alloc o) W.heap.size sz B) :
    WR w0 (ρ.upd nid (W.heap.size, sz)) M (putB H (nid, B)) (W.alloc o) :=
  h.putG hn (h.bel.alloc h.bel.size o) (fun b hb => Below.heap_alloc _ _ _ hb) sz B hB
/-- a new row of cells -/
theorem WR.putRow (h : WR w0 ρ M H W) {nid : Nat} (hn : ρ nid = none) (T : TypeId) {cs : List AV} {vs us : List Value} (hc : L2 (VR M ρ) cs vs) (h1 : ∀ v ∈ vs, v.oneCell' = true) (fz : Nat := 0) :
    WR w0 (ρ.upd nid (W.heap.size, (vs ++ us).length)) M (putB H (nid, .arr cs.length cs fz)) (W.alloc (.cells (vs ++ us).toArray T)) := by
  refine h.put hn _ _ _ fun ρ' hr => ⟨rfl, by rw [hc.len]; simp, ⟨(vs ++ us).toArray, T, (0, 0), heap_alloc_new W _, by simp, fun o _ => by simp, fun i c hi => ?_⟩, fun o v e => ?_⟩
  · obtain ⟨v, hv, hr'⟩ := hc.get hi
    have hlt := (List.getElem?_eq_some_iff.1 hv).1
    exact ⟨v, by simp only [List.getElem?_toArray]; rw [List.getElem?_append_left hlt]; exact hv, h1 v (List.mem_of_getElem? hv), hr'.mono (Mem.le.refl M) hr⟩
  · exact absurd (h.fro.lt e) (by omega)
/-- a block of cells that is written: cells from off on -/
theorem WR.setRow (h : WR w0 ρ M H W) {id b sz L fz : Nat} {cs : List AV} (hid : ρ id = some (b, sz)) (hB : H[id]? = some (.arr L cs fz)) {off : Nat} {xs : List AV} {vs : List Value} (hx : L2 (VR M ρ) xs vs) (h1 : ∀ v ∈ vs, v.oneCell' = true)
    (hfit : off + xs.length ≤ L) (hfz : fz ≤ off) {cur : Array Value} {e : TypeId} {fr : Nat × Nat} (hcur : W.heap[b]? = some (.cells cur e fr)) {cur' : Array Value} (hs : cur'.size = cur.size)
    (hc : ∀ i, cur'[i]? = if off ≤ i ∧ i < off + vs.length then vs[i - off]? else cur[i]?) {W' : World} (hW : W'.heap[b]? = some (.cells cur' e fr)) (ho : ∀ k, k ≠ b → W'.heap[k]? = W.heap[k]?) (hos : W'.os = W.os ∧ W'.tape = W.tape ∧ W'.output = W.output ∧ W.heap.size ≤ W'.heap.size) :
    WR w0 ρ M (putB H (id, .arr L (splice cs off xs) fz)) W' := by
  obtain ⟨b1, b2, ⟨cur0, e0, fr0, b3, b4, b5, b6⟩, b7⟩ := h.blk id b sz _ hid hB
  rw [hcur] at b3
  cases b3
  have hlid := h.dom id _ hid
  have hlen : (splice cs off xs).length = L := by simp [splice]; omega
  have hget : ∀ i, i < H.length → i ≠ id → (putB H (id, .arr L (splice cs off xs) fz))[i]? = H[i]? := fun i hi hne => by rw [get_putB, if_neg hne, if_pos hi]
  have hself : (putB H (id, .arr L (splice cs off xs) fz))[id]? = some (.arr L (splice cs off xs) fz) := by rw [get_putB, if_pos rfl]
  have hwb : w0.heap.size ≤ b := h.new id b sz _ hid hB trivial
  have hback : ∀ i x B1, ρ i = some x → (putB H (id, .arr L (splice cs off xs) fz))[i]? = some B1 → B1.live → ∃ B2, H[i]? = some B2 ∧ B2.live := by
    intro i x B1 hi h1 l1
    by_cases e1 : i = id
    · subst e1; exact ⟨_, hB, trivial⟩
    · rw [hget i (h.dom i _ hi) e1] at h1; exact ⟨_, h1, l1⟩
  refine ⟨?_, ?_, ?_, ?_, ?_, ?_⟩
  · exact h.bel.trans ⟨hos.1, hos.2.1, hos.2.2.1, hos.2.2.2, fun k hk => ho k (by omega)⟩
  · refine ⟨fun k o v hk => ?_, fun k kv hk => ?_⟩
    · obtain ⟨k1, k2⟩ := h.fro.cell k o v hk
      refine ⟨?_, k2⟩
      by_cases e1 : k = b
      · subst e1
        have hlt := b7 o v hk
        simp only [World.cell?, hW, hcur] at k1 ⊢
        simp only [Option.isSome_none, Bool.false_eq_true, if_false] at k1 ⊢
        rw [hc, if_neg (by omega)]
        exact k1
      · rw [World.cell?_of_block (w := W) (a := ⟨k, o, none⟩) (ho k e1)]; exact k1
    · obtain ⟨es, clock, k1, k2⟩ := h.fro.map k kv hk
      have e1 : k ≠ b := fun e => by subst e; rw [hcur] at k1; cases k1
      exact ⟨es, clock, (ho k e1).trans k1, k2⟩
  · intro i x hi
    rw [len_putB]
    have := h.dom i x hi
    omega
  · intro i j b1 s t B1 B2 hi hj h1 l1 h2 l2
    obtain ⟨_, p1, p2⟩ := hback i _ _ hi h1 l1
    obtain ⟨_, q1, q2⟩ := hback j _ _ hj h2 l2
    exact h.inj i j b1 s t _ _ hi hj p1 p2 q1 q2
  · intro i b1 s B1 hi h1 l1
    obtain ⟨_, p1, p2⟩ := hback i _ _ hi h1 l1
    exact h.new i b1 s _ hi p1 p2
  · intro i b1 s B1 hi h1'
    by_cases e1 : i = id
    · subst e1
      rw [hid] at hi
      cases hi
      rw [hself] at h1'
      cases h1'
      refine ⟨hlen.symm, b2, ⟨cur', e, fr, hW, by rw [hs]; exact b4, b5, fun j c hj => ?_⟩, b7⟩
      rw [hc]
      by_cases hin : off ≤ j ∧ j < off + vs.length
      · rw [if_pos hin]
        have : xs[j - off]? = some c := by
          have hl := hx.len
          simp only [splice, List.getElem?_append] at hj
          have t1 : (cs.take off).length = off := by simp; omega
          rw [if_pos (by simp; omega), if_neg (by omega)] at hj
          rw [t1] at hj
          exact hj
        obtain ⟨v, hv, hr⟩ := hx.get this
        exact ⟨v, hv, h1 v (List.mem_of_getElem? hv), hr⟩
      · rw [if_neg hin]
        refine b6 j c ?_
        have hl := hx.len
        simp only [splice, List.getElem?_append] at hj
        by_cases hj1 : j < off
        · rw [if_pos (by simp; omega), if_pos (by simp; omega)] at hj
          rw [List.getElem?_take, if_pos hj1] at hj
          exact hj
        · rw [if_neg (by simp; omega), List.getElem?_drop] at hj
          have : off + xs.length + (j - (List.take off cs ++ xs).length) = j := by simp; omega
          rw [this] at hj
          exact hj
    · rw [hget i (h.dom i _ hi) e1] at h1'
      by_cases hl : B1.live
      · have hne : b1 ≠ b := fun eb => by subst eb; exact e1 (h.inj i id b1 s sz _ _ hi hid h1' hl hB trivial)
        exact (h.blk i b1 s B1 hi h1').keep (Nm.le.refl _) (ho b1 hne)
      · cases B1 with
        | dead => trivial
        | arr => exact absurd trivial hl
        | map => exact absurd trivial hl
end
end Go.Pm
