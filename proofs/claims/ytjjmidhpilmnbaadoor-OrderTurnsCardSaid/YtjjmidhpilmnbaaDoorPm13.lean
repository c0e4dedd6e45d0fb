/- The machine of plain values: the law of all operations that only read or make. By the prover of this seat. -/
import Derived.Test.YtjjmidhpilmnbaaDoorPm12
set_option linter.unusedVariables false
namespace Go.Pm
open Go Go.RowKit
section
variable {P : Program} {w0 W : World} {ρ : Nm} {M : Mem} {H : List Bk}
theorem bds_of {e : Operand → AV} {a : Act} {o : Option Operand} (he : ∀ x, o = some x → VR M ρ (e x) (a.eval x)) : Bds M ρ (o.map e) (o.map a.eval) := by
  refine ⟨fun x hx => ?_, fun h => ?_⟩
  · cases o with
    | none => cases hx
    | some z => cases hx; exact ⟨_, rfl, he z rfl⟩
  · cases o with
    | none => rfl
    | some z => cases h
theorem ok_builtin {C : Cx} {b : Builtin} {ts : List TypeId} {xs : List AV} {us : List Value} {v : AV} {news : List Bk} {bs : List Bool} {ps : List Prop} {ty : TypeId} {cn : Array Bool} (hw : WR w0 ρ M H W) (hr : rdBuiltin C (fun j => H[j]?) b ts xs = some (v, news, bs, ps)) (hx : L2 (VR M ρ) xs us) :
    news = [] ∧ ∃ y, (builtin b ts.toArray ty cn us.toArray).run C.P W = .ok (.value y) W ∧ VR M ρ v y := by
  unfold rdBuiltin at hr
  split at hr
  · split at hr
    · rename_i t x
      obtain ⟨u, us', rfl, h1, h2⟩ := hx.inv_cons
      have : us' = [] := by have := h2.len; cases us' <;> simp at this; rfl
      subst this
      split at hr
      · rename_i b ht
        cases hr
        obtain rfl := h1.inv_s
        exact ⟨rfl, _, by simp [builtin, Builtin.len_, run_underlying ht, goInt], .s _ _⟩
      · rename_i n el ht
        cases hr
        exact ⟨rfl, _, by simp [builtin, Builtin.len_, run_underlying ht, goInt], .s _ _⟩
      · rename_i el n cs ht
        cases hr
        cases h1 with
        | sl_e => exact ⟨rfl, _, by simp [builtin, Builtin.len_, run_underlying ht, goInt], .s _ _⟩
        | sl => exact ⟨rfl, _, by simp [builtin, Builtin.len_, run_underlying ht, goInt], .s _ _⟩
      · rename_i el n cs ht
        cases hr
        cases h1 with
        | sx_e => exact ⟨rfl, _, by simp [builtin, Builtin.len_, run_underlying ht, goInt], .s _ _⟩
        | sx => exact ⟨rfl, _, by simp [builtin, Builtin.len_, run_underlying ht, goInt], .s _ _⟩
      · rename_i el ht
        cases hr
        cases h1 with
        | nsl => exact ⟨rfl, _, by simp [builtin, Builtin.len_, run_underlying ht, goInt], .s _ _⟩
      · rename_i el id off n k ht
        cases hr
        cases h1 with
        | osl_e => exact ⟨rfl, _, by simp [builtin, Builtin.len_, run_underlying ht, goInt], .s _ _⟩
        | osl => exact ⟨rfl, _, by simp [builtin, Builtin.len_, run_underlying ht, goInt], .s _ _⟩
      · rename_i k el es ht
        cases hr
        cases h1 with
        | mp_e => exact ⟨rfl, _, by simp [builtin, Builtin.len_, run_underlying ht, goInt], .s _ _⟩
        | mp kv pq m1 m2 m3 =>
          rename_i b
          obtain ⟨ents, clock, g1, g2⟩ := hw.fro.map _ _ m1
          have : es.length = ents.size := by
            have := m2.length_eq
            rw [← g2] at this
            simp at this
            omega
          exact ⟨rfl, .int .i64 (ents.size : Nat), by simp [builtin, Builtin.len_, run_underlying ht, goInt, getObj, Sem.run, g1], by rw [this]; exact .s _ _⟩
      · rename_i k el id ht
        split at hr
        · rename_i es fz hB
          cases hr
          cases h1 with
          | omp m1 =>
            rename_i b sz
            obtain ⟨⟨ents, clock, g1, pq, g2, g3, _⟩, _⟩ := hw.blk _ _ _ _ m1 hB
            have : es.length = ents.size := by
              have := g2.length_eq
              simp at this
              omega
            exact ⟨rfl, .int .i64 (ents.size : Nat), by simp [builtin, Builtin.len_, run_underlying ht, goInt, getObj, Sem.run, g1], by rw [this]; exact .s _ _⟩
        · cases hr
      · cases hr
    · cases hr
  · split at hr
    · rename_i k x k' y
      cases hr
      obtain ⟨u, us', rfl, h1, h2⟩ := hx.inv_cons
      obtain ⟨u', us'', rfl, h3, h4⟩ := h2.inv_cons
      have : us'' = [] := by have := h4.len; cases us'' <;> simp at this; rfl
      subst this
      obtain rfl := h1.inv_s
      obtain rfl := h3.inv_s
      exact ⟨rfl, _, by simp [builtin, Builtin.min_, Builtin.min2], .s _ _⟩
    · cases hr
  · split at hr
    · rename_i k x k' y
      cases hr
      obtain ⟨u, us', rfl, h1, h2⟩ := hx.inv_cons
      obtain ⟨u', us'', rfl, h3, h4⟩ := h2.inv_cons
      have : us'' = [] := by have := h4.len; cases us'' <;> simp at this; rfl
      subst this
      obtain rfl := h1.inv_s
      obtain rfl := h3.inv_s
      exact ⟨rfl, _, by simp [builtin, Builtin.max_, Builtin.max2], .s _ _⟩
    · cases hr
  · cases hr
theorem rd_ok {C : Cx} {h : Hint} {o : Oper} {a : Act} {e : Operand → AV} {nid : Nat} {v : AV} {news : List Bk} {bs : List Bool} {ps : List Prop} (hw : WR w0 ρ M H W) (hn0 : news ≠ [] → ρ nid = none) (he : ∀ x ∈ o.op.operands.toList, VR M ρ (e x) (a.eval x))
    (hr : rd C (fun j => H[j]?) nid e h o.op = some (v, news, bs, ps)) (hb : bs.all id = true) (hp : allP ps) : Good C.P w0 ρ M H W (execOp a.eval o) v (newsW nid news) := by
  obtain ⟨dst, op, ty, pos, af, gd⟩ := o
  simp only at he hr
  cases op with
  | move x => cases hr; exact ⟨_, _, W, ρ, rfl, .inl rfl, Nm.le.refl _, hw, he x (by simp [Op.operands]), fun i x h => .inl h⟩
  | assign x => cases hr; exact ⟨_, _, W, ρ, rfl, .inl rfl, Nm.le.refl _, hw, he x (by simp [Op.operands]), fun i x h => .inl h⟩
  | pick c x y =>
    simp only [rd] at hr
    split at hr
    · rename_i t hc
      cases hr
      have h1 := he c (by simp [Op.operands])
      rw [hc] at h1
      have h1' := h1.inv_s
      refine ⟨_, if t then a.eval x else a.eval y, W, ρ, ?_, .inl rfl, Nm.le.refl _, hw, ?_, fun i x h => .inl h⟩
      · simp only [execOp, h1', asBool, Sem.run_bind, Sem.run_pure, Result.andThen_ok]
      · cases t
        · exact he y (by simp [Op.operands])
        · exact he x (by simp [Op.operands])
    · cases hr
  | alloc T =>
    simp only [rd, Option.map_eq_some_iff] at hr
    obtain ⟨z, hz, h2⟩ := hr
    cases h2
    obtain ⟨zv, z1, z2, z3, _⟩ := run_zeroA hz W
    refine good_row hw (hn0 (by simp)) T (cs := z) (vs := zv.cells.toList) (us := []) (z2 M ρ) z3 rfl (y := .pointer (some ⟨W.heap.size, 0, none⟩)) (.ptr (Nm.upd_self _ _ _)) ?_
    simp [Instr.alloc, z1, newVar, newRow]
  | box T x =>
    simp only [rd] at hr
    split at hr
    · rename_i hc
      cases hr
      obtain ⟨c1, c2⟩ := (he x (by simp [Op.operands])).cells hc
      refine good_row hw (hn0 (by simp)) T (cs := cellsA (e x)) (us := []) c1 c2 rfl (y := .pointer (some ⟨W.heap.size, 0, none⟩)) (.ptr (Nm.upd_self _ _ _)) ?_
      simp [Instr.box, newVar, newRow]
    · cases hr
  | build t qs =>
    simp only [rd] at hr
    have hq := parts_ok (e := e) (a := a) (ps := qs.toList) (M := M) (ρ := ρ) (fun x hx => he x (by simpa [Op.operands] using hx))
    obtain ⟨rfl, y, h1, h2⟩ := ok_build (W := W) hr (by simp) hq
    refine Good.same hw ⟨y, ?_, h2⟩
    rw [← h1]
    congr 2
    apply Array.ext'
    simp
  | buildSlice t len qs =>
    simp only [rd] at hr
    split at hr
    · rename_i el ht
      split at hr
      · rename_i z sz hz hs
        split at hr
        · rename_i hc
          obtain ⟨hzl, h0, hmax⟩ := hc
          simp only [Option.map_eq_some_iff] at hr
          obtain ⟨cs, h1, h2⟩ := hr
          cases h2
          have hq := parts_ok (e := e) (a := a) (ps := qs.toList) (M := M) (ρ := ρ) (fun x hx => he x (by simpa [Op.operands] using hx))
          obtain ⟨zv, z1, z2, z3, _⟩ := run_zeroA hz W
          have hzv : zv.cells.toList.length = sz := by rw [← (z2 M ρ).len]; exact hzl
          obtain ⟨A, B, k1, k2, k3⟩ := zero_cells_list (M := M) (ρ := ρ) (z2 M ρ) (by omega) len len (Nat.le_refl _)
          have hB : B = [] := by
            have l1 := congrArg List.length k1
            simp only [List.length_append, Array.length_toList, size_madeCells, ← k2.len, List.length_replZ, hzl, hzv] at l1
            cases B <;> simp at l1; rfl
          subst hB
          rw [List.append_nil] at k1
          obtain ⟨us, f1, f2, f3⟩ := fill_ok (M := M) (ρ := ρ) (pl := fun i => some (i * sz, sz)) (pl' := fun i => some (i * sz, sz)) (by intro i; rfl) (qs.toList.map fun p => (p.1, e p.2)) (qs.toList.map fun p => (p.1, a.eval p.2)) _ cs A h1 k2 (k3 z3) (by simp) hq
          have hlen : cs.length = len * sz := by
            have key : ∀ (ps : List (Nat × AV)) (c d : List AV), fillA (fun i => some (i * sz, sz)) c ps = some d → d.length = c.length := by
              intro ps
              induction ps with
              | nil => intro c d h; simp [fillA] at h; rw [h]
              | cons p ps ih =>
                intro c d h
                unfold fillA at h
                simp only at h
                split at h
                · rename_i hcc
                  rw [ih _ _ h]
                  simp [splice]; omega
                · cases h
            rw [key _ _ _ h1, List.length_replZ, hzl]
          have hA : (Array.range (len * sz)).map (fun x => zv.cells[x % zv.cells.size]!) = A.toArray := by
            have : (madeCells zv.cells (len * sz)).toList = A := by
              have := k1
              simp only [Array.toArray_toList, hzv] at this
              exact this
            rw [← this]
            simp only [Array.toArray_toList, madeCells]
          refine good_row hw (hn0 (by simp)) el (cs := cs) (vs := us) (us := []) f2 f3 hlen.symm (y := .slice (some ⟨W.heap.size, 0, none⟩) len len) (.osl (Nm.upd_self _ _ _) (Nat.le_refl _) (by simp [← f2.len, hlen])) ?_
          have hq2 : (qs.map fun x => (x.1, a.eval x.2)).toList = qs.toList.map fun p => (p.1, a.eval p.2) := by simp
          by_cases hz0 : len * sz = 0
          · have hA0 : A = [] := by
              have l1 := k2.len
              rw [List.length_replZ, hzl, hz0] at l1
              exact List.eq_nil_of_length_eq_zero l1.symm
            subst hA0
            simp only [Instr.buildSlice, Sem.run_bind, run_underlying ht, Result.andThen_ok, run_szOf hs, show ¬ (len * sz > 2 ^ 24) by omega, if_false, hz0, if_true, Sem.run_pure]
            have er : (Array.map (fun x => (#[] : Array Value)[x % (#[] : Array Value).size]!) (Array.range 0)) = (([] : List Value)).toArray := by apply Array.ext'; simp
            rw [if_neg (by omega : ¬ (0 : Nat) > 2 ^ 24)]
            simp only [Sem.run_bind, Sem.run_pure, Result.andThen_ok]
            rw [er, hq2, f1]
            simp [newRow]
          · simp only [Instr.buildSlice, Sem.run_bind, run_underlying ht, Result.andThen_ok, run_szOf hs, show ¬ (len * sz > 2 ^ 24) by omega, if_false, hz0, z1, Sem.run_pure]
            simp [hA, f1, newRow]
        · cases hr
      · cases hr
    · cases hr
  | load t x =>
    obtain ⟨rfl, hy⟩ := ok_load hw hr hp (he x (by simp [Op.operands]))
    exact Good.same hw hy
  | nilCheck x =>
    have h1 := he x (by simp [Op.operands])
    simp only [rd] at hr
    split at hr
    · rename_i id off hx
      cases hr
      rw [hx] at h1
      generalize hu : a.eval x = u at h1
      cases h1 with
      | ptr g1 => exact ⟨_, _, W, ρ, by simp only [execOp, hu]; rfl, .inl rfl, Nm.le.refl _, hw, .ptr g1, fun i x h => .inl h⟩
    · rename_i cs hx
      cases hr
      rw [hx] at h1
      generalize hu : a.eval x = u at h1
      cases h1 with
      | fptr_e => exact ⟨_, _, W, ρ, by simp only [execOp, hu]; rfl, .inl rfl, Nm.le.refl _, hw, .fptr_e, fun i x h => .inl h⟩
      | fptr f g1 g2 => exact ⟨_, _, W, ρ, by simp only [execOp, hu]; rfl, .inl rfl, Nm.le.refl _, hw, .fptr f g1 g2, fun i x h => .inl h⟩
    · rename_i f xs ys hx
      cases hr
      rw [hx] at h1
      generalize hu : a.eval x = u at h1
      cases h1 with
      | fn g1 g2 g3 g4 => exact ⟨_, _, W, ρ, by simp only [execOp, hu]; rfl, .inl rfl, Nm.le.refl _, hw, .fn g1 g2 g3 g4, fun i x h => .inl h⟩
    · cases hr
  | binOp op xT x y yT =>
    obtain ⟨rfl, hy⟩ := ok_bin (W := W) hr hb (he x (by simp [Op.operands])) (he y (by simp [Op.operands])) (fun c e => by subst e; rfl)
    exact Good.same hw hy
  | unOp op xT x =>
    have h1 := he x (by simp [Op.operands])
    simp only [rd] at hr
    split at hr
    · rename_i k n hx
      simp only [Option.map_eq_some_iff] at hr
      obtain ⟨u, hu, h2⟩ := hr
      cases h2
      rw [hx] at h1
      exact Good.same hw ⟨u, by rw [h1.inv_s]; exact pureP_run hu W, .s _ _⟩
    · rename_i b hx
      simp only [Option.map_eq_some_iff] at hr
      obtain ⟨u, hu, h2⟩ := hr
      cases h2
      rw [hx] at h1
      exact Good.same hw ⟨u, by rw [h1.inv_s]; exact pureP_run hu W, .s _ _⟩
    · cases hr
  | convert src dst x =>
    exact Good.val (ok_conv hw hn0 hr hb (he x (by simp [Op.operands])))
  | makeFunc fn f c =>
    cases hr
    refine Good.same hw ⟨.func fn (f.map a.eval) (c.map a.eval), rfl, ?_⟩
    have h1 := vals_ok (e := e) (a := a) (xs := f.toList) (M := M) (ρ := ρ) (fun x hx => he x (by simp [Op.operands]; exact .inl (by simpa using hx)))
    have h2 := vals_ok (e := e) (a := a) (xs := c.toList) (M := M) (ρ := ρ) (fun x hx => he x (by simp [Op.operands]; exact .inr (by simpa using hx)))
    have := VR.fn (f := fn) h1.len h1.at_ h2.len h2.at_
    have e1 : (f.toList.map a.eval).toArray = f.map a.eval := by apply Array.ext'; simp
    have e2 : (c.toList.map a.eval).toArray = c.map a.eval := by apply Array.ext'; simp
    rw [e1, e2] at this
    exact this
  | makeSlice t l c =>
    simp only [rd] at hr
    split at hr
    · rename_i el ht
      split at hr
      · rename_i z i k1 n k2 m hz hi hl hc
        have e1 := he l (by simp [Op.operands])
        have e2 := he c (by simp [Op.operands])
        rw [hl] at e1
        rw [hc] at e2
        have e1' := e1.inv_s
        have e2' := e2.inv_s
        split at hr
        · rename_i hcc
          obtain ⟨hzl, h0⟩ := hcc
          obtain ⟨zv, z1, z2, z3, i', hi', hz'⟩ := run_zeroA hz W
          rw [hi] at hi'
          cases hi'
          have fin : ∀ {xs : List AV}, ρ nid = none → (0 ≤ n ∧ n ≤ m ∧ m * i.bytes ≤ 140737488355328 ∧ m ≤ 140737488355328) → replZ n.toNat z = xs → Good C.P w0 ρ M H W (execOp a.eval ⟨dst, .makeSlice t l c, ty, pos, af, gd⟩) (.osl nid 0 n.toNat i.size) (newsW nid [.arr (n.toNat * i.size) xs 0]) := by
            intro xs hn hin hx
            obtain ⟨i1, i2, i3, i4⟩ := hin
            have hzv : zv.cells.toList.length = i.size := by rw [← (z2 M ρ).len]; exact hzl
            obtain ⟨A, B, q1, q2, q3⟩ := zero_cells_list (M := M) (ρ := ρ) (z2 M ρ) (by omega) n.toNat m.toNat (by omega)
            simp only [Array.toArray_toList, hzv] at q1
            have hrun := run_make (P := C.P) W t el i zv ht hi hz' k1 k2 n m i1 i2 (by rw [Int.mul_comm]; omega) (by omega)
            rw [← Array.toArray_toList (xs := madeCells zv.cells (m.toNat * i.size)), q1] at hrun
            subst hx
            refine good_row hw hn el (cs := replZ n.toNat z) (vs := A) (us := B) q2 (q3 z3) (by rw [List.length_replZ, hzl]) (y := .slice (some ⟨W.heap.size, 0, none⟩) n.toNat m.toNat) (.osl (Nm.upd_self _ _ _) (by omega) ?_) ?_
            · rw [← q1]; simp [size_madeCells]
            · rw [e1', e2']; exact hrun
          split at hr
          · cases hr
            exact fin (hn0 (by simp)) (allB_dec hb).1 hp.1
          · cases hr
            exact fin (hn0 (by simp)) (allB_dec hb).1 rfl
        · cases hr
      · cases hr
    · cases hr
  | slice t x lo hi mx =>
    obtain ⟨rfl, hy⟩ := ok_slice hw hr hb hp (he x (by simp [Op.operands]))
      (bds_of fun y hy => he y (by subst hy; simp [Op.operands])) (bds_of fun y hy => he y (by subst hy; simp [Op.operands])) (bds_of fun y hy => he y (by subst hy; simp [Op.operands]))
    exact Good.same hw hy
  | fieldAddr t x f =>
    simp only [rd] at hr
    split at hr
    · rename_i fd hf
      split at hr
      · rename_i sz hs
        split at hr
        · cases hr
        · rename_i h0
          have h1 := he x (by simp [Op.operands])
          split at hr
          · rename_i id off hx
            cases hr
            exact Good.same hw (ok_fieldAddr hf hs h0 h1 (by rw [hx]; rfl))
          · rename_i cs hx
            cases hr
            exact Good.same hw (ok_fieldAddr hf hs h0 h1 (by rw [hx]; rfl))
          · cases hr
      · cases hr
    · cases hr
  | field t x f =>
    simp only [rd] at hr
    split at hr
    · rename_i fd cs hf hx
      simp only [Option.map_eq_some_iff] at hr
      obtain ⟨w, hw', h2⟩ := hr
      cases h2
      have h1 := he x (by simp [Op.operands])
      rw [hx] at h1
      obtain ⟨vs, hu, k1, k2⟩ := h1.inv_agg
      obtain ⟨y, y1, y2⟩ := ok_part (W := W) hw' k1 k2
      unfold fieldOf at hf
      split at hf
      · rename_i fs hfs
        refine Good.same hw ⟨y, ?_, y2⟩
        rw [hu]
        simp only [Instr.field, Sem.run_bind, run_underlying hfs, Result.andThen_ok, hf, asAgg, Sem.run_pure, y1]
      · cases hf
    · cases hr
  | indexAddr t x ix =>
    obtain ⟨rfl, hy⟩ := ok_indexAddr (W := W) hr hb hp (he x (by simp [Op.operands])) (he ix (by simp [Op.operands]))
    exact Good.same hw hy
  | index t x ix =>
    have h1 := he x (by simp [Op.operands])
    have h2 := he ix (by simp [Op.operands])
    simp only [rd] at hr
    split at hr
    · rename_i b k i ht hx hi
      cases hr
      obtain ⟨h0, _⟩ := allB_dec hb
      rw [hx] at h1
      rw [hi] at h2
      refine Good.same hw ⟨_, ?_, .s _ _⟩
      rw [h1.inv_s, h2.inv_s]
      have hlt : i.toNat < b.size := by omega
      have hlt2 : i.toNat < b.data.toList.length := by simpa using hlt
      have e1 : b[i.toNat]? = some (b.data.toList.getD i.toNat 0) := by
        rw [getElem?_pos b i.toNat hlt]
        simp [List.getD, List.getElem?_eq_getElem hlt2]
        rfl
      simp [Instr.index, asIntOf, run_underlying ht, h0.1, e1]
    · rename_i len el cs k i ht hx hi
      rw [hx] at h1
      rw [hi] at h2
      obtain ⟨vs, hu, k1, k2⟩ := h1.inv_agg
      split at hr
      · rename_i sz hs
        have fin : ∀ {w : AV} {xs : List AV}, 0 ≤ i ∧ i < (len : Int) → cs.drop (i.toNat * sz) = xs → partA C el xs = some w → Good C.P w0 ρ M H W (execOp a.eval ⟨dst, .index t x ix, ty, pos, af, gd⟩) w [] := by
          intro w xs hin hx' hp'
          subst hx'
          obtain ⟨y, y1, y2⟩ := ok_part (W := W) hp' k1 k2
          refine Good.same hw ⟨y, ?_, y2⟩
          rw [hu, h2.inv_s]
          simp only [Instr.index, asIntOf, Sem.run_bind, Sem.run_pure, Result.andThen_ok, run_underlying ht, if_pos hin, run_szOf hs, y1]
        split at hr
        · simp only [Option.map_eq_some_iff] at hr
          obtain ⟨w, hw', h3⟩ := hr
          cases h3
          exact fin (allB_dec hb).1 hp.1 hw'
        · simp only [Option.map_eq_some_iff] at hr
          obtain ⟨w, hw', h3⟩ := hr
          cases h3
          exact fin (allB_dec hb).1 rfl hw'
      · cases hr
    · cases hr
  | extract x ix =>
    have h1 := he x (by simp [Op.operands])
    simp only [rd] at hr
    split at hr
    · rename_i vs hx
      simp only [Option.map_eq_some_iff] at hr
      obtain ⟨w, hw', h3⟩ := hr
      cases h3
      rw [hx] at h1
      obtain ⟨us, hu, k1⟩ := h1.inv_tup
      obtain ⟨y, y1, y2⟩ := k1.get hw'
      exact Good.same hw ⟨y, by rw [hu]; simp [Instr.extract, y1], y2⟩
    · cases hr
  | call c =>
    simp only [rd] at hr
    split at hr
    · rename_i b hb'
      have hx := vals_ok (e := e) (a := a) (xs := c.args.toList) (M := M) (ρ := ρ) (fun x hx => he x (by simp [Op.operands, Call.operands]; exact .inr (by simpa using hx)))
      obtain ⟨rfl, y, y1, y2⟩ := ok_builtin (ty := ty) (cn := c.args.map fun | .const _ => true | _ => false) hw hr hx
      refine ⟨_, y, W, ρ, ?_, .inl rfl, Nm.le.refl _, hw, y2, fun i x h => .inl h⟩
      simp only [execOp, resolve, hb', Sem.run_bind, Sem.run_pure, Result.andThen_ok, invoke]
      have e2 : (c.args.toList.map a.eval).toArray = c.args.map a.eval := by apply Array.ext'; simp
      rw [e2, Array.toArray_toList] at y1
      exact y1
    · cases hr
  | _ => cases hr
end
end Go.Pm
