/- maps.DeleteFunc as a law of the machine of plain values. By the prover of this seat. -/
import Derived.Test.YtfalaahbacdbjaaPb
import Derived.Test.YtfalaahbacdbjaaPmE
set_option linter.unusedVariables false
set_option linter.unusedSimpArgs false
namespace Go.Proofs.Ytfalaahbacdbjaa
open Go.RowKit Go.Maps Go.Pm
open Go.WideElems (Fit rd rg rd_key rd_val rg_of rd_mk)
section
variable {P : Program} {G : Nat → Option (List AV)} {w0 W W' : World} {ρ : Nm} {M : Mem} {H : List Bk}
theorem none0 {c : AV} {v : Value} (h : VR M ρ c v) (hp : pureC0 c = true) : VR M Nm.none c v := by
  cases h with
  | s => exact .s _ _
  | sl_e a b => exact .sl_e a b
  | sl f a b c => exact .sl f a b c
  | sx_e a => exact .sx_e a
  | sx f a b c => exact .sx f a b c
  | nsl => exact .nsl
  | fptr_e => exact .fptr_e
  | fptr f a b => exact .fptr f a b
  | mp_e => exact .mp_e
  | mp kv pq h1 h2 h3 h4 h5 h6 => exact .mp kv pq h1 h2 h3 h4 h5 h6
  | _ => simp [pureC0] at hp
theorem lt_heap {w : World} {b : Nat} {o : Obj} (h : w.heap[b]? = some o) : b < w.heap.size := by
  rcases Nat.lt_or_ge b w.heap.size with h' | h'
  · exact h'
  · rw [Array.getElem?_eq_none h'] at h; cases h
theorem br_lt {b sz : Nat} {B : Bk} (h : BR ρ M W b sz B) (hl : B.live) : b < W.heap.size := by
  cases B with
  | dead => exact absurd hl (fun q => q)
  | arr l cs fz => obtain ⟨_, _, ⟨cur, e, fr, q, _⟩, _⟩ := h; exact lt_heap q
  | map es fz => obtain ⟨⟨ents, clock, q, _⟩, _⟩ := h; exact lt_heap q
  | iter c l => obtain ⟨m, s, se, la, q, _⟩ := h; exact lt_heap q
theorem fro_lt (h : Fro M W) {b : Nat} (hb : (∃ o v, M.cell b o = some v) ∨ (∃ kv, M.map b = some kv)) : b < W.heap.size := by
  rcases hb with ⟨o, v, q⟩ | ⟨kv, q⟩
  · have := (h.cell b o v q).1
    rcases Nat.lt_or_ge b W.heap.size with h' | h'
    · exact h'
    · simp [World.cell?, Array.getElem?_eq_none h'] at this
  · exact lt_heap (h.map b kv q).1
/-- a block that is another one now; blocks have come -/
theorem WR.setBlkG (h : WR w0 ρ M H W) {id b sz : Nat} {B B' : Bk} (hid : ρ id = some (b, sz)) (hB : H[id]? = some B) (hl : B.live) (hg : W.grownBy W' (some b))
    (hnc : ∀ o v, M.cell b o ≠ some v) (hnm : ∀ kv, M.map b ≠ some kv) (hB' : BR ρ M W' b sz B') : WR w0 ρ M (putB H (id, B')) W' := by
  have ho : ∀ k, k < W.heap.size → k ≠ b → W'.heap[k]? = W.heap[k]? := fun k hk hne => hg.block k hk (fun q => hne (Option.some.inj q))
  have hget : ∀ i, i < H.length → i ≠ id → (putB H (id, B'))[i]? = H[i]? := fun i hi hne => by rw [get_putB, if_neg hne, if_pos hi]
  have hself : (putB H (id, B'))[id]? = some B' := by rw [get_putB, if_pos rfl]
  have hwb : w0.heap.size ≤ b := h.new id b sz _ hid hB hl
  have hback : ∀ i x B1, ρ i = some x → (putB H (id, B'))[i]? = some B1 → B1.live → ∃ B2, H[i]? = some B2 ∧ B2.live := by
    intro i x B1 hi h1 l1
    by_cases e1 : i = id
    · subst e1; exact ⟨_, hB, hl⟩
    · rw [hget i (h.dom i _ hi) e1] at h1; exact ⟨_, h1, l1⟩
  refine ⟨?_, ?_, ?_, ?_, ?_, ?_⟩
  · exact h.bel.trans ⟨hg.os, hg.tape, hg.output, hg.size, fun k hk => ho k (Nat.lt_of_lt_of_le hk h.bel.size) (by omega)⟩
  · refine h.fro.keep fun k hk => ho k (fro_lt h.fro hk) fun e => ?_
    subst e
    rcases hk with ⟨o, v, hk⟩ | ⟨kv, hk⟩
    · exact hnc o v hk
    · exact hnm kv hk
  · intro i x hi
    rw [len_putB]
    have := h.dom i x hi
    omega
  · intro i j b1 s t B1 B2 hi hj h1 l1 h2 l2
    obtain ⟨_, p1, p2⟩ := hback i _ _ hi h1 l1
    obtain ⟨_, q1, q2⟩ := hback j _ _ hj h2 l2
    exact h.inj i j b1 s t _ _ hi hj p1 p2 q1 q2
  · intro i b1 s B1 hi h1 l1
    obtain ⟨_, p1, p2⟩ := hback i _ _ hi h1 l1
    exact h.new i b1 s _ hi p1 p2
  · intro i b1 s B1 hi h1'
    by_cases e1 : i = id
    · subst e1
      rw [hid] at hi
      cases hi
      rw [hself] at h1'
      cases h1'
      exact hB'
    · rw [hget i (h.dom i _ hi) e1] at h1'
      by_cases hl1 : B1.live
      · have hne : b1 ≠ b := fun eb => by subst eb; exact e1 (h.inj i id b1 s sz _ _ hi hid h1' hl1 hB hl)
        have hbr := h.blk i b1 s B1 hi h1'
        exact hbr.keep (Nm.le.refl _) (ho b1 (br_lt hbr hl1) hne)
      · cases B1 with
        | dead => trivial
        | arr => exact absurd trivial hl1
        | map => exact absurd trivial hl1
        | iter => exact absurd trivial hl1
end
end Go.Proofs.Ytfalaahbacdbjaa
