/- The machine of plain values: operations that write. By the prover of this seat. -/
import Derived.Test.YtjjmidhpilmnbaaDoorPm13
set_option linter.unusedVariables false
namespace Go.Pm
open Go Go.RowKit
section
variable {P : Program} {w0 W : World} {ρ : Nm} {M : Mem} {H : List Bk}
/-- cells laid into a row -/
theorem run_cells (P : Program) (g o : Nat) (e : TypeId) (fr : Nat × Nat) : ∀ (vs : List Value) (i : Nat) (cur : Array Value) (W : World), W.heap[g]? = some (.cells cur e fr) → o + i + vs.length ≤ cur.size →
    (∀ j, j < cur.size → (decide (fr.1 ≤ j) && decide (j < fr.2)) = false) → (∀ v ∈ vs, v.oneCell' = true) →
    ∃ W' cur', (storeCells ⟨g, o, none⟩ vs i).run P W = .ok () W' ∧ W'.heap[g]? = some (.cells cur' e fr) ∧ cur'.size = cur.size ∧ (∀ j, cur'[j]? = if o + i ≤ j ∧ j < o + i + vs.length then vs[j - (o + i)]? else cur[j]?) ∧
      (∀ k, k ≠ g → W'.heap[k]? = W.heap[k]?) ∧ (W'.os = W.os ∧ W'.tape = W.tape ∧ W'.output = W.output ∧ W.heap.size ≤ W'.heap.size) := by
  intro vs
  induction vs with
  | nil =>
    intro i cur W hg _ _ _
    exact ⟨W, cur, rfl, hg, rfl, fun j => by rw [if_neg (by simp only [List.length_nil]; omega)], fun k _ => rfl, rfl, rfl, rfl, Nat.le_refl _⟩
  | cons v vs ih =>
    intro i cur W hg hl hf h1
    have hlt : o + i < cur.size := by simp at hl; omega
    have hc : W.cell? ⟨g, o + i, none⟩ = some cur[o + i] := by simp [World.cell?, hg, hlt]
    have hfz : W.frozen? ⟨g, o + i, none⟩ = false := by
      have := hf (o + i) hlt
      simpa [World.frozen?, hg] using this
    have hset : (W.setCell ⟨g, o + i, none⟩ v).heap[g]? = some (.cells (cur.setIfInBounds (o + i) v) e fr) := by
      have hgl := (Array.getElem?_eq_some_iff.1 hg)
      simp only [World.setCell]
      rw [Array.getElem?_modify, if_pos rfl, hg]
      simp
    have hother : ∀ k, k ≠ g → (W.setCell ⟨g, o + i, none⟩ v).heap[k]? = W.heap[k]? := fun k hk => by
      simp only [World.setCell]
      rw [Array.getElem?_modify, if_neg (Ne.symm hk)]
    obtain ⟨W', cur', r1, r2, r3, r4, r5, r6⟩ := ih (i + 1) _ _ hset (by simp at hl ⊢; omega) (by simpa using hf) (fun u hu => h1 u (by simp [hu]))
    refine ⟨W', cur', ?_, r2, by simpa using r3, fun j => ?_, fun k hk => (r5 k hk).trans (hother k hk), ?_⟩
    · simp only [storeCells, Sem.run_bind, add_flat]
      rw [run_store P W _ v .plain (h1 v (by simp))]
      simp only [hc, hfz, Bool.false_eq_true, if_false, Result.andThen_ok]
      exact r1
    · rw [r4]
      simp only [List.length_cons]
      by_cases hj : j = o + i
      · subst hj
        rw [if_neg (by omega), if_pos (by omega)]
        simp [hlt]
      · by_cases h2 : o + (i + 1) ≤ j ∧ j < o + (i + 1) + vs.length
        · rw [if_pos h2, if_pos (by omega)]
          have : j - (o + i) = (j - (o + (i + 1))) + 1 := by omega
          rw [this, List.getElem?_cons_succ]
        · rw [if_neg h2, if_neg (by omega)]
          simp [Array.getElem?_setIfInBounds_ne (Ne.symm hj)]
    · obtain ⟨q1, q2, q3, q4⟩ := r6
      exact ⟨q1, q2, q3, by simpa [World.setCell] using q4⟩
/-- a number that is nobody's is given away -/
theorem WR.putNone (hw : WR w0 ρ M H W) {id : Nat} (hno : ρ id = none) (B0 : Bk) : WR w0 ρ M (putB H (id, B0)) W := by
  have hget : ∀ i x, ρ i = some x → (putB H (id, B0))[i]? = H[i]? := fun i x hi => by
    have hne : i ≠ id := fun e => by subst e; rw [hno] at hi; cases hi
    rw [get_putB, if_neg hne, if_pos (hw.dom i x hi)]
  refine ⟨hw.bel, hw.fro, fun i x hi => ?_, fun i j b s t B B' hi hj h1 l1 h2 l2 => ?_, fun i b s B hi h1 l1 => ?_, fun i b s B hi h1 => ?_⟩
  · rw [len_putB]; have := hw.dom i x hi; omega
  · rw [hget i _ hi] at h1; rw [hget j _ hj] at h2; exact hw.inj i j b s t B B' hi hj h1 l1 h2 l2
  · rw [hget i _ hi] at h1; exact hw.new i b s B hi h1 l1
  · rw [hget i _ hi] at h1; exact hw.blk i b s B hi h1
/-- a block that is given up -/
theorem WR.kill (hw : WR w0 ρ M H W) (id : Nat) : WR w0 ρ M (putB H (id, .dead)) W := by
  have hget : ∀ i x B, ρ i = some x → (putB H (id, .dead))[i]? = some B → B.live → i ≠ id ∧ H[i]? = some B := by
    intro i x B hi h1 l1
    rw [get_putB] at h1
    by_cases e : i = id
    · rw [if_pos e] at h1; cases h1; exact l1.elim
    · rw [if_neg e, if_pos (hw.dom i x hi)] at h1; exact ⟨e, h1⟩
  refine ⟨hw.bel, hw.fro, fun i x hi => ?_, fun i j b s t B B' hi hj h1 l1 h2 l2 => ?_, fun i b s B hi h1 l1 => ?_, fun i b s B hi h1 => ?_⟩
  · rw [len_putB]; have := hw.dom i x hi; omega
  · exact hw.inj i j b s t B B' hi hj (hget i _ _ hi h1 l1).2 l1 (hget j _ _ hj h2 l2).2 l2
  · exact hw.new i b s B hi (hget i _ _ hi h1 l1).2 l1
  · by_cases hl : B.live
    · exact hw.blk i b s B hi (hget i _ _ hi h1 hl).2
    · cases B with
      | dead => trivial
      | arr => exact absurd trivial hl
      | map => exact absurd trivial hl
/-- a row that is gone on with in its place -/
theorem WR.extend (h : WR w0 ρ M H W) {id nid b sz L fz : Nat} {cs : List AV} (hid : ρ id = some (b, sz)) (hB : H[id]? = some (.arr L cs fz)) (hn : ρ nid = none) {xs : List AV} {vs : List Value} (hx : L2 (VR M ρ) xs vs) (h1 : ∀ v ∈ vs, v.oneCell' = true)
    (hfit : L + xs.length ≤ sz) {cur : Array Value} {e : TypeId} {fr : Nat × Nat} (hcur : W.heap[b]? = some (.cells cur e fr)) {cur' : Array Value} (hs : cur'.size = cur.size)
    (hc : ∀ i, cur'[i]? = if L ≤ i ∧ i < L + vs.length then vs[i - L]? else cur[i]?) (hfz : fz ≤ L) {W' : World} (hW : W'.heap[b]? = some (.cells cur' e fr)) (ho : ∀ k, k ≠ b → W'.heap[k]? = W.heap[k]?) (hos : W'.os = W.os ∧ W'.tape = W.tape ∧ W'.output = W.output ∧ W.heap.size ≤ W'.heap.size) :
    WR w0 (ρ.upd nid (b, sz)) M (putB (putB H (id, .dead)) (nid, .arr (L + xs.length) (cs ++ xs) fz)) W' := by
  obtain ⟨b1, b2, ⟨cur0, e0, fr0, b3, b4, b5, b6⟩, b7⟩ := h.blk id b sz _ hid hB
  rw [hcur] at b3
  cases b3
  have hne : nid ≠ id := fun e => by subst e; rw [hn] at hid; cases hid
  have hwb : w0.heap.size ≤ b := h.new id b sz _ hid hB trivial
  have hget : ∀ i x B, ρ i = some x → (putB (putB H (id, .dead)) (nid, .arr (L + xs.length) (cs ++ xs) fz))[i]? = some B → B.live → i ≠ id ∧ i ≠ nid ∧ H[i]? = some B := by
    intro i x B hi g1 l1
    have hni : i ≠ nid := fun e => by subst e; rw [hn] at hi; cases hi
    rw [get_putB, if_neg hni, len_putB, if_pos (by have := h.dom i x hi; omega), get_putB] at g1
    by_cases e : i = id
    · rw [if_pos e] at g1; cases g1; exact l1.elim
    · rw [if_neg e, if_pos (h.dom i x hi)] at g1; exact ⟨e, hni, g1⟩
  have hself : (putB (putB H (id, .dead)) (nid, .arr (L + xs.length) (cs ++ xs) fz))[nid]? = some (.arr (L + xs.length) (cs ++ xs) fz) := by rw [get_putB, if_pos rfl]
  refine ⟨?_, ?_, ?_, ?_, ?_, ?_⟩
  · exact h.bel.trans ⟨hos.1, hos.2.1, hos.2.2.1, hos.2.2.2, fun k hk => ho k (by omega)⟩
  · refine ⟨fun k o v hk => ?_, fun k kv hk => ?_⟩
    · obtain ⟨k1, k2⟩ := h.fro.cell k o v hk
      refine ⟨?_, k2⟩
      by_cases e1 : k = b
      · subst e1
        have hlt := b7 o v hk
        simp only [World.cell?, hW, hcur] at k1 ⊢
        simp only [Option.isSome_none, Bool.false_eq_true, if_false] at k1 ⊢
        rw [hc, if_neg (by omega)]
        exact k1
      · rw [World.cell?_of_block (w := W) (a := ⟨k, o, none⟩) (ho k e1)]; exact k1
    · obtain ⟨es, clock, k1, k2⟩ := h.fro.map k kv hk
      have e1 : k ≠ b := fun e => by subst e; rw [hcur] at k1; cases k1
      exact ⟨es, clock, (ho k e1).trans k1, k2⟩
  · intro i x hi
    rw [len_putB, len_putB]
    by_cases e1 : i = nid
    · subst e1; simp only; omega
    · rw [Nm.upd_ne _ _ e1] at hi
      have := h.dom i x hi
      omega
  · intro i j c s t B1 B2 hi hj g1 l1 g2 l2
    by_cases e1 : i = nid <;> by_cases e2 : j = nid
    · rw [e1, e2]
    · subst e1
      rw [Nm.upd_self] at hi
      rw [Nm.upd_ne _ _ e2] at hj
      cases hi
      obtain ⟨q1, q2, q3⟩ := hget j _ _ hj g2 l2
      exact absurd (h.inj j id _ _ _ _ _ hj hid q3 l2 hB trivial) q1
    · subst e2
      rw [Nm.upd_self] at hj
      rw [Nm.upd_ne _ _ e1] at hi
      cases hj
      obtain ⟨q1, q2, q3⟩ := hget i _ _ hi g1 l1
      exact absurd (h.inj i id _ _ _ _ _ hi hid q3 l1 hB trivial) q1
    · rw [Nm.upd_ne _ _ e1] at hi
      rw [Nm.upd_ne _ _ e2] at hj
      exact h.inj i j c s t B1 B2 hi hj (hget i _ _ hi g1 l1).2.2 l1 (hget j _ _ hj g2 l2).2.2 l2
  · intro i c s B1 hi g1 l1
    by_cases e1 : i = nid
    · subst e1
      rw [Nm.upd_self] at hi
      cases hi; exact hwb
    · rw [Nm.upd_ne _ _ e1] at hi
      exact h.new i c s B1 hi (hget i _ _ hi g1 l1).2.2 l1
  · intro i c s B1 hi g1
    by_cases e1 : i = nid
    · subst e1
      rw [Nm.upd_self] at hi
      cases hi
      rw [hself] at g1
      cases g1
      have hlen := hx.len
      refine ⟨by simp; omega, hfit, ⟨cur', e, fr, hW, by rw [hs]; exact b4, b5, fun j d hj => ?_⟩, fun o v hv => ⟨(b7 o v hv).1, by have := (b7 o v hv).2; omega⟩⟩
      rw [hc]
      by_cases hin : L ≤ j ∧ j < L + vs.length
      · rw [if_pos hin]
        rw [List.getElem?_append_right (by omega)] at hj
        obtain ⟨v, hv, hr⟩ := hx.get hj
        rw [← b1] at hv
        exact ⟨v, hv, h1 v (List.mem_of_getElem? hv), hr.mono (Mem.le.refl M) (Nm.le_upd _ hn)⟩
      · rw [if_neg hin]
        have hjl : j < cs.length := by
          have := (List.getElem?_eq_some_iff.1 hj).1
          simp at this
          omega
        rw [List.getElem?_append_left hjl] at hj
        obtain ⟨u, q1, q2, q3⟩ := b6 j d hj
        exact ⟨u, q1, q2, q3.mono (Mem.le.refl M) (Nm.le_upd _ hn)⟩
    · rw [Nm.upd_ne _ _ e1] at hi
      by_cases hl : B1.live
      · obtain ⟨q1, q2, q3⟩ := hget i _ _ hi g1 hl
        have hnb : c ≠ b := fun eb => by subst eb; exact q1 (h.inj i id _ _ _ _ _ hi hid q3 hl hB trivial)
        exact (h.blk i c s B1 hi q3).keep (Nm.le_upd _ hn) (ho c hnb)
      · cases B1 with
        | dead => trivial
        | arr => exact absurd trivial hl
        | map => exact absurd trivial hl
theorem ok_store (hw : WR w0 ρ M H W) {t : TypeId} {sz : Nat} (hs : szOf P t = some sz) {id off L fz : Nat} {cs : List AV} (hB : H[id]? = some (.arr L cs fz)) {y : AV} {u v : Value} (hx : VR M ρ (.ptr id off) u) (hy : VR M ρ y v) (hc : okCells y = true) (hl : (cellsA y).length = sz)
    (hfit : off + sz ≤ L) (hfz : fz ≤ off) :
    ∃ W', (Instr.storeAt t u v).run P W = .ok () W' ∧ WR w0 ρ M (putB H (id, .arr L (splice cs off (cellsA y)) fz)) W' := by
  cases hx with
  | ptr h1 =>
    rename_i b s
    obtain ⟨k1, k2, ⟨cur, e, fr, k3, k4, k5, k6⟩, k7⟩ := hw.blk _ _ _ _ h1 hB
    obtain ⟨c1, c2⟩ := hy.cells hc
    have hlv : v.cells.toList.length = sz := by rw [← c1.len]; exact hl
    obtain ⟨W', cur', r1, r2, r3, r4, r5, r6⟩ := run_cells P b off e fr v.cells.toList 0 cur W k3 (by omega) (by rw [k4]; exact k5) c2
    refine ⟨W', ?_, hw.setRow h1 hB c1 c2 (by omega) hfz k3 r3 (by simpa using r4) r2 r5 r6⟩
    have : v.cells.size = sz := by simpa using hlv
    simp [Instr.storeAt, Instr.sureAddr, storeVar, run_szOf hs, this, r1]
theorem ok_copy (hw : WR w0 ρ M H W) {t el sT : TypeId} {ty : TypeId} {sz : Nat} (ht : P.underlying t = some (.slice el)) (hs : szOf P el = some sz) {id off n k L fz m : Nat} {cs xs : List AV} (hB : H[id]? = some (.arr L cs fz)) {x : AV} {u v : Value}
    (hd : VR M ρ (.osl id off n k) u) (hk : k = sz) (hsrc : srcA (fun j => H[j]?) sz x = some (m, xs)) (hl : xs.length = m * sz) (hx : VR M ρ x v) (hfit : off + n * sz ≤ L) (hfz : fz ≤ off) :
    ∃ W', (Builtin.copy_ #[t, sT] ty #[u, v]).run P W = .ok (.int .i64 (min m n : Nat)) W' ∧ WR w0 ρ M (putB H (id, .arr L (splice cs off (xs.take (min m n * sz))) fz)) W' := by
  obtain ⟨vs, S⟩ := src_ok (P := P) hw hsrc hl hx
  have hlen := S.len
  have hc := S.cells (min m n) (Nat.min_le_left _ _)
  have hmin : ∀ a b : Nat, Nat.min a b = min a b := fun _ _ => rfl
  cases hd with
  | osl_e =>
    rename_i a
    have h0 : min m 0 = 0 := by omega
    rw [h0] at hc ⊢
    simp only [Nat.zero_mul, List.take_zero] at hc ⊢
    refine ⟨W, ?_, ?_⟩
    · cases a <;> simp [Builtin.copy_, run_underlying ht, hlen, run_szOf hs, hmin, h0, hc, storeCells, goInt]
    · by_cases hid : ∃ q, ρ id = some q
      · obtain ⟨⟨b, s⟩, hid⟩ := hid
        obtain ⟨k1, k2, ⟨cur, e, fr, k3, k4, k5, k6⟩, k7⟩ := hw.blk _ _ _ _ hid hB
        exact hw.setRow hid hB (xs := []) (vs := []) L2.nil (by simp) (by simp; omega) hfz k3 rfl (fun i => by rw [if_neg (by simp only [List.length_nil]; omega)]) k3 (fun _ _ => rfl) ⟨rfl, rfl, rfl, Nat.le_refl _⟩
      · have hno : ρ id = none := by
          cases h : ρ id with
          | none => rfl
          | some q => exact absurd ⟨q, h⟩ hid
        exact hw.putNone hno _
  | osl h1 h2 h3 =>
    rename_i b s cap
    subst hk
    obtain ⟨k1, k2, ⟨cur, e, fr, k3, k4, k5, k6⟩, k7⟩ := hw.blk _ _ _ _ h1 hB
    have hvl : vs.length = m * k := by rw [← S.l2.len]; exact hl
    have hle : min m n * k ≤ m * k := Nat.mul_le_mul_right _ (Nat.min_le_left _ _)
    have hle2 : min m n * k ≤ n * k := Nat.mul_le_mul_right _ (Nat.min_le_right _ _)
    have htl : (vs.take (min m n * k)).length = min m n * k := by rw [List.length_take]; omega
    have hxl : (xs.take (min m n * k)).length = min m n * k := by rw [List.length_take]; omega
    obtain ⟨W', cur', r1, r2, r3, r4, r5, r6⟩ := run_cells P b off e fr (vs.take (min m n * k)) 0 cur W k3 (by omega) (by rw [k4]; exact k5) (fun v hv => S.one v (List.mem_of_mem_take hv))
    refine ⟨W', ?_, hw.setRow h1 hB (S.l2.take _) (fun v hv => S.one v (List.mem_of_mem_take hv)) (by omega) hfz k3 r3 (by simpa using r4) r2 r5 r6⟩
    simp [Builtin.copy_, run_underlying ht, hlen, run_szOf hs, hmin, hc, r1, goInt]
end
end Go.Pm
