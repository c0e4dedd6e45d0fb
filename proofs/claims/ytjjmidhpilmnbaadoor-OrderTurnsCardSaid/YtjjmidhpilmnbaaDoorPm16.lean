/- The machine of plain values: the law of all operations that write. By the prover of this seat. -/
import Derived.Test.YtjjmidhpilmnbaaDoorPm15
set_option linter.unusedVariables false
namespace Go.Pm
open Go Go.RowKit
section
variable {P : Program} {w0 W : World} {ρ : Nm} {M : Mem} {H : List Bk}
theorem list2 {α β : Type} {f : α → β} {l : List α} {a b : β} (h : l.map f = [a, b]) : ∃ x y, l = [x, y] ∧ f x = a ∧ f y = b := by
  match l with
  | [] => simp at h
  | [x] => simp at h
  | [x, y] => simp at h; exact ⟨x, y, rfl, h.1, h.2⟩
  | x :: y :: z :: r => simp at h
theorem args2 {a b : Operand} {A : Array Operand} (h : A.toList = [a, b]) : A = #[a, b] := by apply Array.ext'; simpa using h
theorem types2 {a b : TypeId} {A : Array TypeId} (h : A.toList = [a, b]) : A = #[a, b] := by apply Array.ext'; simpa using h
theorem wr_ok {C : Cx} {h : Hint} {o : Oper} {a : Act} {e : Operand → AV} {nid : Nat} {v : AV} {w : Ws} {bs : List Bool} {ps : List Prop} (hw : WR w0 ρ M H W) (hn0 : nid ∈ w.map (·.1) → ρ nid = none) (he : ∀ x ∈ o.op.operands.toList, VR M ρ (e x) (a.eval x))
    (hr : wr C (fun j => H[j]?) nid e h o.op = some (v, w, bs, ps)) (hb : bs.all id = true) (hp : allP ps) : Good C.P w0 ρ M H W (execOp a.eval o) v w := by
  obtain ⟨dst, op, ty, pos, af, gd⟩ := o
  simp only at he hr
  cases op with
  | store t x y =>
    have h1 := he x (by simp [Op.operands])
    have h2 := he y (by simp [Op.operands])
    simp only [wr] at hr
    split at hr
    · rename_i sz id off hs hx
      rw [hx] at h1
      split at hr
      · rename_i L cs fz hB
        split at hr
        · rename_i hc
          have fin : ∀ {xs : List AV}, off + sz ≤ L → fz ≤ off → splice cs off (cellsA (e y)) = xs → Good C.P w0 ρ M H W (execOp a.eval ⟨dst, .store t x y, ty, pos, af, gd⟩) (.tup []) [(id, .arr L xs fz)] := by
            intro xs f1 f2 f3
            subst f3
            obtain ⟨W', r1, r2⟩ := ok_store (P := C.P) hw hs hB h1 h2 hc.1 hc.2 f1 f2
            refine ⟨.skip, undef, W', ρ, ?_, .inr ⟨rfl, rfl⟩, Nm.le.refl _, r2, .mkTup (vs := []) L2.nil, fun i x h => .inl h⟩
            simp only [execOp, Sem.run_bind, r1, Result.andThen_ok, Sem.run_pure]
          split at hr
          · cases hr
            obtain ⟨q1, hb⟩ := allB_dec hb
            obtain ⟨q2, _⟩ := allB_dec hb
            exact fin q1 q2 hp.1
          · cases hr
            obtain ⟨q1, hb⟩ := allB_dec hb
            obtain ⟨q2, _⟩ := allB_dec hb
            exact fin q1 q2 rfl
        · cases hr
      · cases hr
    · cases hr
  | call c =>
    obtain ⟨callee, args, argTypes⟩ := c
    simp only [wr] at hr
    split at hr
    · rename_i _ t u s x h2 h3
      obtain ⟨so, xo, ha, es, ex⟩ := list2 h3
      have hA := args2 ha
      have hT := types2 h2
      subst hA hT
      have v1 := he so (by simp [Op.operands, Call.operands])
      have v2 := he xo (by simp [Op.operands, Call.operands])
      rw [es] at v1
      rw [ex] at v2
      have run : ∀ {y W'}, (Builtin.append_ #[t, u] ty #[a.eval so, a.eval xo]).run C.P W = .ok y W' → (execOp a.eval ⟨dst, .call ⟨.builtin .append, #[so, xo], #[t, u]⟩, ty, pos, af, gd⟩).run C.P W = .ok (.value y) W' := by
        intro y W' hr
        simp only [execOp, resolve, invoke, builtin, Sem.run_bind, Sem.run_pure, Result.andThen_ok, List.map_toArray, List.map_cons, List.map_nil, hr]
      split at hr
      · rename_i el ht
        split at hr
        · rename_i i z ud hi hz hud
          split at hr
          · rename_i hc
            obtain ⟨c1, c2, c3, c4⟩ := hc
            split at hr
            · rename_i m xs hsrc
              have fin : ∀ {n : Nat} {cs zs : List AV} {fz : Nat} {w : Ws}, ρ nid = none → xs.length = m * i.size → (n + m) * i.bytes ≤ 140737488355328 → cs ++ xs = zs →
                  (∀ zs, cs ++ xs = zs → (s = .nsl ∧ n = 0 ∧ cs = [] ∧ fz = 0 ∧ w = [(nid, .arr ((n + m) * i.size) zs fz)]) ∨ (∃ id L, s = .osl id 0 n i.size ∧ H[id]? = some (.arr L cs fz) ∧ L = n * i.size ∧ fz ≤ L ∧ L = cs.length ∧ w = [(id, .dead), (nid, .arr ((n + m) * i.size) zs fz)])) →
                  Good C.P w0 ρ M H W (execOp a.eval ⟨dst, .call ⟨.builtin .append, #[so, xo], #[t, u]⟩, ty, pos, af, gd⟩) (.osl nid 0 (n + m) i.size) w := by
                intro n cs zs fz w hn hl hby hzs hf
                obtain ⟨y, W', ρ', r1, r2, r3, r4, r5⟩ := ok_append (ty := ty) hw hn ht ⟨ud, hud, c4⟩ hi hz c1 c2 c3 hsrc hl v2 hby v1 (hf _ rfl)
                exact ⟨_, y, W', ρ', run r1, .inl rfl, r2, r3, r4, r5⟩
              split at hr
              · split at hr
                · cases hr
                  obtain ⟨q1, hb⟩ := allB_dec hb
                  obtain ⟨q2, _⟩ := allB_dec hb
                  have := fin (n := 0) (cs := []) (fz := 0) (w := [(nid, .arr (m * i.size) xs 0)]) (hn0 (by simp)) q2 (by simpa using q1) rfl (fun zs hzs => .inl ⟨rfl, rfl, rfl, rfl, by subst hzs; simp⟩)
                  rw [Nat.zero_add] at this
                  rw [← hp.1]
                  exact this
                · cases hr
                  obtain ⟨q1, hb⟩ := allB_dec hb
                  obtain ⟨q2, _⟩ := allB_dec hb
                  have := fin (n := 0) (cs := []) (fz := 0) (w := [(nid, .arr (m * i.size) xs 0)]) (hn0 (by simp)) q2 (by simpa using q1) rfl (fun zs hzs => .inl ⟨rfl, rfl, rfl, rfl, by subst hzs; simp⟩)
                  rw [Nat.zero_add] at this
                  exact this
              · rename_i id n k
                split at hr
                · rename_i L cs fz hB
                  split at hr
                  · rename_i hk
                    subst hk
                    split at hr
                    · rename_i zs hh
                      cases hr
                      obtain ⟨q1, hb⟩ := allB_dec hb
                      obtain ⟨q2, hb⟩ := allB_dec hb
                      obtain ⟨q3, _⟩ := allB_dec hb
                      exact fin (zs := zs) (hn0 (by simp)) q3 q2 hp.1 (fun zs' hzs => .inr ⟨id, L, rfl, hB, q1.1, q1.2.1, q1.2.2, by rw [← hzs, hp.1]⟩)
                    · cases hr
                      obtain ⟨q1, hb⟩ := allB_dec hb
                      obtain ⟨q2, hb⟩ := allB_dec hb
                      obtain ⟨q3, _⟩ := allB_dec hb
                      exact fin (hn0 (by simp)) q3 q2 rfl (fun zs' hzs => .inr ⟨id, L, rfl, hB, q1.1, q1.2.1, q1.2.2, by rw [hzs]⟩)
                  · cases hr
                · cases hr
              · cases hr
            · cases hr
          · cases hr
        · cases hr
      · cases hr
    · rename_i _ t sT d x h2 h3
      obtain ⟨dO, xo, ha, es, ex⟩ := list2 h3
      have hA := args2 ha
      have hT := types2 h2
      subst hA hT
      have v1 := he dO (by simp [Op.operands, Call.operands])
      have v2 := he xo (by simp [Op.operands, Call.operands])
      rw [es] at v1
      rw [ex] at v2
      have run : ∀ {y W'}, (Builtin.copy_ #[t, sT] ty #[a.eval dO, a.eval xo]).run C.P W = .ok y W' → (execOp a.eval ⟨dst, .call ⟨.builtin .copy, #[dO, xo], #[t, sT]⟩, ty, pos, af, gd⟩).run C.P W = .ok (.value y) W' := by
        intro y W' hr
        simp only [execOp, resolve, invoke, builtin, Sem.run_bind, Sem.run_pure, Result.andThen_ok, List.map_toArray, List.map_cons, List.map_nil, hr]
      split at hr
      · rename_i el ht
        split at hr
        · rename_i sz hs
          split at hr
          · rename_i m xs hsrc
            split at hr
            · rename_i id off n k
              split at hr
              · rename_i L cs fz hB
                split at hr
                · rename_i hk
                  have fin : ∀ {zs : List AV}, off + n * sz ≤ L → fz ≤ off → xs.length = m * sz → splice cs off (xs.take (min m n * sz)) = zs → Good C.P w0 ρ M H W (execOp a.eval ⟨dst, .call ⟨.builtin .copy, #[dO, xo], #[t, sT]⟩, ty, pos, af, gd⟩) (.s (.int .i64 (min m n : Nat))) [(id, .arr L zs fz)] := by
                    intro zs f1 f2 f3 f4
                    subst f4
                    obtain ⟨W', r1, r2⟩ := ok_copy (P := C.P) (sT := sT) (ty := ty) hw ht hs hB v1 hk hsrc f3 v2 f1 f2
                    exact ⟨_, _, W', ρ, run r1, .inl rfl, Nm.le.refl _, r2, .s _ _, fun i x h => .inl h⟩
                  split at hr
                  · cases hr
                    obtain ⟨q1, hb⟩ := allB_dec hb
                    obtain ⟨q2, hb⟩ := allB_dec hb
                    obtain ⟨q3, _⟩ := allB_dec hb
                    exact fin q1 q2 q3 hp.1
                  · cases hr
                    obtain ⟨q1, hb⟩ := allB_dec hb
                    obtain ⟨q2, hb⟩ := allB_dec hb
                    obtain ⟨q3, _⟩ := allB_dec hb
                    exact fin q1 q2 q3 rfl
                · cases hr
              · cases hr
            · cases hr
              obtain ⟨q1, _⟩ := allB_dec hb
              obtain ⟨vs, S⟩ := src_ok (P := C.P) hw hsrc q1 v2
              have hlen := S.len
              have hc := S.cells 0 (Nat.zero_le _)
              simp only [Nat.zero_mul, List.take_zero] at hc
              generalize hd : a.eval dO = ud at v1 run
              cases v1 with
              | nsl =>
                rename_i ad
                have h0 : Nat.min m 0 = 0 := by show min m 0 = 0; omega
                refine ⟨_, _, W, ρ, run (y := .int .i64 0) ?_, .inl rfl, Nm.le.refl _, hw, .s _ _, fun i x h => .inl h⟩
                cases ad <;> simp [Builtin.copy_, run_underlying ht, hlen, run_szOf hs, h0, hc, storeCells, goInt]
            · cases hr
          · cases hr
        · cases hr
      · cases hr
    · cases hr
  | _ => cases hr
end
end Go.Pm
