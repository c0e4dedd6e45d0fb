/- The machine of plain values: append; the law of all operations that write. By the prover of this seat. -/
import Derived.Test.YtjjmidhpilmnbaaDoorPm14
set_option linter.unusedVariables false
namespace Go.Pm
open Go Go.RowKit
section
variable {P : Program} {w0 W : World} {ρ : Nm} {M : Mem} {H : List Bk}
theorem Src.drew {sz m : Nat} {xs : List AV} {u : Value} {vs : List Value} (S : Src P W M ρ sz m xs u vs) (hw : WR w0 ρ M H W) {x : AV} (h : srcA (fun j => H[j]?) sz x = some (m, xs)) (hl : xs.length = m * sz) (hx : VR M ρ x u) : ∃ vs', Src P W.drew M ρ sz m xs u vs' := src_ok hw.drew h hl hx
/-- an append that makes a new row -/
theorem run_grow {t sT el ty : TypeId} {i : TypeInfo} {z : Value} (ht : P.underlying t = some (.slice el)) (hud : ∃ ud, P.underlying sT = some ud ∧ srcD ud = true) (hi : P.info? el = some i) (hz : i.zero = some z)
    {a : Option Addr} {n cap m : Nat} {u : Value} {vs olds : List Value} (hlen : (Builtin.lenOf u).run P W = .ok m W) (hc : (Builtin.firstCells i.size m u).run P W.drew = .ok vs.toArray W.drew) (ho : (Builtin.firstCells i.size n (.slice a n cap)).run P W.drew = .ok olds.toArray W.drew)
    (hg : cap < n + m) (hb : 0 < i.bytes) (hbytes : (n + m) * i.bytes ≤ 140737488355328) :
    (Builtin.append_ #[t, sT] ty #[.slice a n cap, u]).run P W = .ok (.slice (some ⟨W.heap.size, 0, none⟩) (n + m) (grownCap W (n + m) cap el)) (W.drew.alloc (.cells ((olds ++ vs) ++ (Builtin.zeroCells z.cells (grownCap W (n + m) cap el - (n + m))).toList).toArray el)) := by
  obtain ⟨ud, hud, hud2⟩ := hud
  have hn : ¬ (n + m ≤ cap) := by omega
  have h63 : n + m ≤ 140737488355328 := Nat.le_trans (Nat.le_mul_of_pos_right _ hb) hbytes
  have h63' : ¬ (9223372036854775807 < ((n : Int) + (m : Int))) := by omega
  have h48' : ¬ (281474976710656 < Builtin.nextslicecap (n + m) cap * i.bytes) := by have := growslice_fits (old := cap) (need := n + m) (bytes := i.bytes) (by omega) hbytes; omega
  have hzr : ∀ k, (Array.mk (olds ++ vs ++ (Builtin.zeroCells z.cells k).toList)) = olds.toArray ++ vs.toArray ++ Builtin.zeroCells z.cells k := by
    intro k
    apply Array.ext'
    simp
  have hzr' : ((olds ++ vs ++ (Builtin.zeroCells z.cells (grownCap W (n + m) cap el - (n + m))).toList)).toArray = olds.toArray ++ vs.toArray ++ Builtin.zeroCells z.cells (grownCap W (n + m) cap el - (n + m)) := hzr _
  rw [hzr']
  cases ud <;> simp [srcD] at hud2 <;>
    simp [Builtin.append_, run_underlying ht, run_underlying hud, sizeOf, typeInfo, zeroValue, hi, hz, hlen, hn, h63', h48', Question.forced, hc, ho, newRow, grownCap] <;>
    (congr 2; apply Array.ext'; simp [List.append_assoc])
theorem ok_append (hw : WR w0 ρ M H W) {nid : Nat} (hn : ρ nid = none) {t sT el ty : TypeId} {i : TypeInfo} {zs : List AV} (ht : P.underlying t = some (.slice el)) (hud : ∃ ud, P.underlying sT = some ud ∧ srcD ud = true) (hi : P.info? el = some i) (hz : zeroA P el = some zs)
    (hzl : zs.length = i.size) (h0 : 0 < i.size) (hb : 0 < i.bytes) {x : AV} {m n : Nat} {xs cs : List AV} (hsrc : srcA (fun j => H[j]?) i.size x = some (m, xs)) (hl : xs.length = m * i.size) {u : Value} (hx : VR M ρ x u) (hbytes : (n + m) * i.bytes ≤ 140737488355328)
    {s : AV} {v : Value} (hs : VR M ρ s v) {w : Ws} {fz : Nat}
    (hform : (s = .nsl ∧ n = 0 ∧ cs = [] ∧ fz = 0 ∧ w = [(nid, .arr ((n + m) * i.size) (cs ++ xs) fz)]) ∨ (∃ id L, s = .osl id 0 n i.size ∧ H[id]? = some (.arr L cs fz) ∧ L = n * i.size ∧ fz ≤ L ∧ L = cs.length ∧ w = [(id, .dead), (nid, .arr ((n + m) * i.size) (cs ++ xs) fz)])) :
    ∃ y W' ρ', (Builtin.append_ #[t, sT] ty #[v, u]).run P W = .ok y W' ∧ ρ.le ρ' ∧ WR w0 ρ' M (putW H w) W' ∧ VR M ρ' (.osl nid 0 (n + m) i.size) y ∧ ∀ j x, ρ' j = some x → ρ j = some x ∨ j ∈ w.map (·.1) := by
  obtain ⟨zv, z1, z2, z3, i', hi', hz'⟩ := run_zeroA hz W
  rw [hi] at hi'
  cases hi'
  obtain ⟨vs, S⟩ := src_ok (P := P) hw hsrc hl hx
  obtain ⟨vs2, S2⟩ := src_ok (P := P) hw.drew hsrc hl hx
  have hvl : vs2.length = m * i.size := by rw [← S2.l2.len]; exact hl
  have hcd := S2.cells m (Nat.le_refl _)
  rw [List.take_of_length_le (by omega)] at hcd
  have hzs : zv.cells.size = i.size := by have := (z2 M ρ).len; simp at this; omega
  have hdom : ∀ (ρ1 : Nm) (b : Nat × Nat), ρ1 = ρ.upd nid b → nid ∈ w.map (·.1) → ∀ j x, ρ1 j = some x → ρ j = some x ∨ j ∈ w.map (·.1) := by
    intro ρ1 b e hm j x hj
    subst e
    by_cases e1 : j = nid
    · right; rw [e1]; exact hm
    · left; rwa [Nm.upd_ne _ _ e1] at hj
  have hnw : nid ∈ w.map (·.1) := by rcases hform with ⟨_, _, _, _, rfl⟩ | ⟨_, _, _, _, _, _, _, rfl⟩ <;> simp
  -- a new row, laid into memory H'
  have grow : ∀ {a : Option Addr} {cap : Nat} {olds : List Value} {H' : List Bk}, v = .slice a n cap → cap < n + m → L2 (VR M ρ) cs olds → (∀ y ∈ olds, y.oneCell' = true) → (Builtin.firstCells i.size n (.slice a n cap)).run P W.drew = .ok olds.toArray W.drew → WR w0 ρ M H' W → cs.length = n * i.size → putW H w = putB H' (nid, .arr ((n + m) * i.size) (cs ++ xs) fz) →
      ∃ y W' ρ', (Builtin.append_ #[t, sT] ty #[v, u]).run P W = .ok y W' ∧ ρ.le ρ' ∧ WR w0 ρ' M (putW H w) W' ∧ VR M ρ' (.osl nid 0 (n + m) i.size) y ∧ ∀ j x, ρ' j = some x → ρ j = some x ∨ j ∈ w.map (·.1) := by
    intro a cap olds H' hv hg hol ho1 hfo hwk hcl hput
    subst hv
    have hrun := run_grow (ty := ty) ht hud hi hz' S.len hcd hfo hg hb hbytes
    have hge := grownCap_ge W (n + m) cap el
    have hcl2 : (cs ++ xs).length = (n + m) * i.size := by rw [List.length_append, hcl, hl, Nat.add_mul]
    refine ⟨_, _, ρ.upd nid (W.heap.size, (olds ++ vs2 ++ (Builtin.zeroCells zv.cells (grownCap W (n + m) cap el - (n + m))).toList).length), hrun, Nm.le_upd _ hn, ?_, .osl (Nm.upd_self _ _ _) hge ?_, hdom _ _ rfl hnw⟩
    · rw [hput, ← hcl2]
      exact hwk.drew.putRow hn el (hol.append S2.l2) (by intro y hy; rcases List.mem_append.1 hy with hy | hy; exact ho1 y hy; exact S2.one y hy) fz
    · simp only [List.length_append, Array.length_toList, size_zeroCells, ← hol.len, hvl, hcl, hzs, Nat.zero_add]
      rw [← Nat.add_mul, ← Nat.add_mul]
      refine Nat.mul_le_mul_right _ ?_
      omega
  have empty : ∀ {a : Option Addr}, (Builtin.firstCells i.size 0 (.slice a 0 0)).run P W.drew = .ok ([] : List Value).toArray W.drew := by
    intro a
    cases a with
    | none => simp [run_firstCells_none]
    | some A => exact run_firstCells_some (P := P) W.drew i.size 0 A 0 0 [] (by simp) (fun j v hj => by simp at hj)
  obtain ⟨ud, hudd, hud2⟩ := hud
  have same : ∀ {a : Option Addr}, m = 0 → v = .slice a 0 0 → (Builtin.append_ #[t, sT] ty #[v, u]).run P W = .ok (.slice a 0 0) W := by
    intro a hm hv
    subst hm hv
    have hlen := S.len
    have hc := S.cells 0 (Nat.le_refl _)
    simp only [Nat.zero_mul, List.take_zero] at hc
    cases ud <;> simp [srcD] at hud2 <;> cases a <;> simp [Builtin.append_, run_underlying ht, run_underlying hudd, sizeOf, typeInfo, hi, hlen, hc, storeCells]
  rcases hform with ⟨rfl, rfl, rfl, rfl, rfl⟩ | ⟨id, L, rfl, hB, hL, hfz, hLc, rfl⟩
  · cases hs with
    | nsl =>
      rename_i a
      by_cases hm : m = 0
      · subst hm
        exact ⟨_, W, ρ, same rfl rfl, Nm.le.refl _, hw.putNone hn _, .osl_e, fun j x h => .inl h⟩
      · exact grow rfl (by omega) L2.nil (by simp) empty hw (by simp) rfl
  · cases hs with
    | osl_e =>
      rename_i a
      have hcs : cs = [] := List.eq_nil_of_length_eq_zero (by omega)
      subst hcs
      by_cases hm : m = 0
      · subst hm
        exact ⟨_, W, ρ, same rfl rfl, Nm.le.refl _, (hw.kill id).putNone hn _, .osl_e, fun j x h => .inl h⟩
      · exact grow rfl (by omega) L2.nil (by simp) empty (hw.kill id) (by simp) rfl
    | osl h1 h2 h3 =>
      rename_i b sz cap
      obtain ⟨k1, k2, ⟨cur, e, fr, k3, k4, k5, k6⟩, k7⟩ := hw.blk _ _ _ _ h1 hB
      by_cases hroom : n + m ≤ cap
      · have hvl1 : vs.length = m * i.size := by rw [← S.l2.len]; exact hl
        have hmul : (n + m) * i.size ≤ cap * i.size := Nat.mul_le_mul_right _ hroom
        rw [Nat.add_mul] at hmul
        obtain ⟨W', cur', r1, r2, r3, r4, r5, r6⟩ := run_cells P b (n * i.size) e fr vs 0 cur W k3 (by omega) (by rw [k4]; exact k5) S.one
        have hc := S.cells m (Nat.le_refl _)
        rw [List.take_of_length_le (by omega)] at hc
        have hwr := hw.extend h1 hB hn S.l2 S.one (by omega) k3 r3 (by subst hL; simpa using r4) hfz r2 r5 r6
        refine ⟨.slice (some ⟨b, 0, none⟩) (n + m) cap, W', ρ.upd nid (b, sz), ?_, Nm.le_upd _ hn, ?_, .osl (Nm.upd_self _ _ _) hroom h3, hdom _ _ rfl hnw⟩
        · have hlen := S.len
          have ea : Addr.add ⟨b, 0, none⟩ (n * i.size) = ⟨b, n * i.size, none⟩ := by rw [add_flat, Nat.zero_add]
          cases ud <;> simp [srcD] at hud2 <;> simp [Builtin.append_, run_underlying ht, run_underlying hudd, sizeOf, typeInfo, hi, hlen, hroom, hc, ea, r1]
        · have e2 : (n + m) * i.size = L + xs.length := by rw [Nat.add_mul, hl, hL]
          rw [e2]
          exact hwr
      · obtain ⟨A, eA, hA⟩ := cells_at (H := H) hw.drew (x := .ptr id 0) (.ptr h1) (cs := cs) (by simp [derefA, hB])
        cases eA
        obtain ⟨olds, q1, q2, q3⟩ := cells_list (W := W.drew) (A := ⟨b, 0, none⟩) (cs := cs) hA
        have hol : olds.length = n * i.size := by rw [← q1.len]; omega
        exact grow rfl (by omega) q1 q2 (run_firstCells_some (P := P) W.drew i.size n _ n cap olds hol q3) (hw.kill id) (by omega) rfl
end
end Go.Pm
