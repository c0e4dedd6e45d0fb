/- The stretches of a row, as an iterator. By the prover of this seat. -/
import Derived.Test.YtcnlgdbmcdlknaaIh
set_option linter.unusedVariables false
set_option linter.unusedSimpArgs false
set_option maxRecDepth 100000
set_option maxHeartbeats 400000
namespace Go.Proofs.Ytcnlgdbmcdlknaa.Bn
open Go Go.RowKit Go.Pm
/-- the slots at the beginning -/
noncomputable def t49 (yv p0 : Value) : Array Value := #[yv] ++ [p0].toArray ++ Array.replicate (Try.f49.ntmps - (#[yv] ++ [p0].toArray).size) undef
theorem t49_eq (yv p0 : Value) : t49 yv p0 = #[yv, p0] ++ Array.replicate 61 undef := by
  unfold t49
  rw [Try.ntmps49]
  rfl
theorem t49_size (yv p0 : Value) : (t49 yv p0).size = 63 := by rw [t49_eq]; simp
theorem t49_0 (yv p0 : Value) : (t49 yv p0)[0]? = some yv := by rw [t49_eq]; simp
theorem t49_1 (yv p0 : Value) : (t49 yv p0)[1]? = some p0 := by rw [t49_eq]; simp
theorem t49_3 (yv p0 : Value) : (t49 yv p0)[3]? = some undef := by rw [t49_eq]; simp
theorem init_rel {w0 W : World} {ρ : Nm} {M : Mem} {X : List Bk} {yv p0 : Value} (hw : WR w0 ρ M X W) (hG : GlobR G0 M) (hp0 : VR M ρ (.ptr 6 0) p0) : Rel (CX X.length) w0 ρ M ⟨mkT 63 [(0, .s yv), (1, .ptr 6 0)], X⟩ { tmps := t49 yv p0, defers := [] } W := by
  refine ⟨?_, hw, hG, Nat.le_refl _, Marks.nil _⟩
  have e : (mkT 63 [(0, AV.s yv), (1, .ptr 6 0)]) = mkT 63 [(0, .s yv), (1, .ptr 6 0), (3, .any)] := rfl
  show L2 _ (mkT 63 [(0, AV.s yv), (1, .ptr 6 0)]) _
  rw [e]
  exact slots3 (v3 := undef) (t49_size yv p0) (t49_0 yv p0) (t49_1 yv p0) (t49_3 yv p0) (.s _ _) hp0 (.any _ _)
theorem res49 : Try.f49.results = #[] := by kernel_rfl
theorem spans_iter (row : List Rc) (hl : row.length ≤ 1000000) (m : Nat) (S : Nat → List Bk) (hS : ∀ k, k ≤ m → SpR row (S k)) (hF : ∀ k, k ≤ m → FrR (S k)) : IterM Try.prog G0 49 [.ptr 6 0] ((spD row).map fun p => A [i64 p.a, i64 p.b]) m S := by
  intro l vals w0 J Jx W hJ hY h0
  obtain ⟨p0, rfl⟩ : ∃ p0, vals = [p0] := by
    obtain ⟨-, ρ, M, -, -, hL, -⟩ := hJ 0 W h0
    have := hL.len
    match vals, this with
    | [p], _ => exact ⟨p, rfl⟩
  rw [List.length_map]
  refine callsIn_of_wp Try.func49 spF_body trivial ?_ rfl
  obtain ⟨yv, hyv⟩ : ∃ yv, yv = Value.func (.yield l) #[] #[] := ⟨_, rfl⟩
  rw [← hyv]
  rw [spC_eq]
  obtain ⟨hm0, ρ, M, hG, hw, hL, hcl⟩ := hJ 0 W h0
  have hp0 : VR M ρ (.ptr 6 0) p0 := hL.at_ 0 _ _ rfl rfl
  show Code.wpIn Fence.wide 0 Try.prog _ _ { tmps := t49 yv p0, defers := [] } W
  have hR0 := init_rel (yv := yv) hw hG hp0
  refine wpIn_seq (wpIn_mono (wpIn_wide.2 ((hS 0 hm0).zero yv w0 ρ M _ W hR0)) (fun x a1 W1 hx => ?_))
  obtain ⟨⟨rfl, ρ1, M1, q1, q2, q3, q4⟩, hk⟩ := hx
  show Code.wpIn Fence.wide 0 Try.prog (.block 0 _) _ a1 W1
  have hJ1 : J 0 W1 := hcl ρ1 M1 W1 q1 q2 q3 q4.wr
  have s0 : a1.tmps[0]? = some yv := (hk.1 0 rfl).trans (t49_0 yv p0)
  have s1 : a1.tmps[1]? = some p0 := (hk.1 1 rfl).trans (t49_1 yv p0)
  have sz : a1.tmps.size = 63 := hk.2.2.trans (t49_size yv p0)
  have sd : a1.defers = [] := hk.2.1
  have s3 : a1.tmps[3]? = some (.int .i64 ((0 : Nat) : Int)) := by
    obtain ⟨v, e1, e2⟩ := rel_slot q4 3 _ rfl
    rw [e2.inv_s] at e1
    exact e1
  refine wpIn_block (wpIn_loop (fun a w => ∃ k j : Nat, k ≤ (spD row).length ∧ j ≤ row.length ∧ (spD row).drop k = spD (row.drop j) ∧ J k w ∧ a.defers = [] ∧ a.tmps.size = 63 ∧ a.tmps[0]? = some yv ∧ a.tmps[1]? = some p0 ∧ a.tmps[3]? = some (.int .i64 (j : Int))) (fun a _ => muT a) ⟨0, 0, Nat.zero_le _, Nat.zero_le _, rfl, hJ1, sd, sz, s0, s1, s3⟩ ?_)
  clear hk q4 q1 q2 q3 hcl hw hR0 hp0 hL hG s0 s1 s3 sz sd hJ1
  rintro a w ⟨k, j, hk, hj, he, hJk, sd, sz, s0, s1, s3⟩
  obtain ⟨hkm, ρ, M, hG, hw, hL, hcl⟩ := hJ k w hJk
  have hp0 : VR M ρ (.ptr 6 0) p0 := hL.at_ 0 _ _ rfl rfl
  have hR : Rel (CX (S k).length) w0 ρ M (kT (S k) yv j) a w := ⟨slots3 sz s0 s1 s3 (.s _ _) hp0 (.s _ _), hw, hG, Nat.le_refl _, by rw [sd]; exact Marks.nil _⟩
  by_cases hlt : j < row.length
  · -- a stretch
    refine wpIn_seq (wpIn_mono (wpIn_wide.2 ((hS k hkm).go yv j hlt w0 ρ M _ w hR)) (fun x a1 W1 hx => ?_))
    obtain ⟨⟨rfl, ρ1, M1, q1, q2, q3, q4⟩, k1⟩ := hx
    show Code.wpIn Fence.wide 0 Try.prog (.block 1 _) _ a1 W1
    refine wpIn_block (wpIn_seq (wpIn_mono (wpIn_wide.2 ((hS k hkm).cut yv j hlt w0 ρ1 M1 _ W1 q4)) (fun x a2 W2 hx => ?_)))
    obtain ⟨⟨rfl, ρ2, M2, r1, r2, r3, r4⟩, k2⟩ := hx
    show Code.wpIn Fence.wide 0 Try.prog (.seq spM spY) _ a2 W2
    have r4' : Rel (CX ((S k).length + 1)) w0 ρ2 M2 (kU (S k) yv (nth row j).x ((nth row j).x + (nth row j).w) j) a2 W2 := ⟨r4.slots, r4.wr, r4.glob, by show _ ≤ (S k ++ [_]).length; simp, r4.defers⟩
    refine wpIn_seq (wpIn_mono (wpIn_wide.2 ((hS k hkm).more yv j hlt w0 ρ2 M2 _ W2 r4')) (fun x a3 W3 hx => ?_))
    obtain ⟨⟨rfl, ρ3, M3, t1, t2, t3, t4⟩, k3⟩ := hx
    show Code.wpIn Fence.wide 0 Try.prog spY _ a3 W3
    have kk := (k1.trans k2).trans k3
    have z0 : a3.tmps[0]? = some yv := (kk.1 0 rfl).trans s0
    have z1 : a3.tmps[1]? = some p0 := (kk.1 1 rfl).trans s1
    have zs : a3.tmps.size = 63 := kk.2.2.trans sz
    have zd : a3.defers = [] := kk.2.1.trans sd
    obtain ⟨v3, z3, hv3⟩ := rel_slot t4 3 _ rfl
    obtain ⟨v4, z4, hv4⟩ := rel_slot t4 4 _ rfl
    rw [hv3.inv_s] at z3
    have t4' : Rel (CX (S k).length) w0 ρ3 M3 (kX (S k) yv false (nth row j).x (mgB ((nth row j).x + (nth row j).w) (row.drop (j + 1))) (j + 1 + mgN ((nth row j).x + (nth row j).w) (row.drop (j + 1)))) a3 W3 := ⟨t4.slots, t4.wr, t4.glob, by show _ ≤ (S k ++ [_]).length; simp, t4.defers⟩
    obtain ⟨ρ4, f1, f2⟩ := hF k hkm w0 ρ3 M3 yv false _ _ _ a3 W3 t4'
    have hJ3 : J k W3 := hcl ρ4 M3 W3 ((q1.trans r1).trans t1) (fun i hi x hx => f1 i hi x (t2 i (by show i < (S k).length + 1; omega) x (r2 i hi x (q2 i hi x hx)))) ((q3.trans r3).trans t3) f2
    have hd : spD (row.drop j) = ⟨(nth row j).x, mgB ((nth row j).x + (nth row j).w) (row.drop (j + 1))⟩ :: spD ((row.drop (j + 1)).drop (mgN ((nth row j).x + (nth row j).w) (row.drop (j + 1)))) := by
      rw [drop_nth hlt, spD, spGo_mg]
    have hk2 : k < (spD row).length := by
      rw [hd] at he
      have := congrArg List.length he
      rw [List.length_drop, List.length_cons] at this
      omega
    have hnk : (spD row)[k]? = some ⟨(nth row j).x, mgB ((nth row j).x + (nth row j).w) (row.drop (j + 1))⟩ := by
      have := congrArg (fun l => l[0]?) (he.trans hd)
      simpa using this
    have hle := mgN_le (row.drop (j + 1)) ((nth row j).x + (nth row j).w)
    rw [List.length_drop] at hle
    have hnext : (spD row).drop (k + 1) = spD (row.drop (j + 1 + mgN ((nth row j).x + (nth row j).w) (row.drop (j + 1)))) := by
      have := congrArg List.tail (he.trans hd)
      rw [List.tail_drop, List.tail_cons, List.drop_drop] at this
      exact this
    have hbox : ∃ b4 p4, v4 = .pointer (some ⟨b4, p4, none⟩) ∧ W3.cell? ⟨b4, p4, none⟩ = some (.int .i64 (nth row j).x) ∧ W3.cell? ⟨b4, p4 + 1, none⟩ = some (.int .i64 (mgB ((nth row j).x + (nth row j).w) (row.drop (j + 1)))) := by
      cases hv4 with
      | ptr h1 =>
        rename_i b s
        have hB : (S k ++ [Bk.arr 2 [i64 (nth row j).x, i64 (mgB ((nth row j).x + (nth row j).w) (row.drop (j + 1)))] 0])[(S k).length]? = some (.arr 2 [i64 (nth row j).x, i64 (mgB ((nth row j).x + (nth row j).w) (row.drop (j + 1)))] 0) := by simp
        obtain ⟨g1, g2, ⟨cur, e, fr, g3, g4, g5, g6⟩, g7, g8⟩ := t4.wr.blk _ b s _ h1 hB
        obtain ⟨u0, y0, -, x0⟩ := g6 0 _ rfl
        obtain ⟨u1, y1, -, x1⟩ := g6 1 _ rfl
        rw [x0.inv_s] at y0
        rw [x1.inv_s] at y1
        refine ⟨b, 0 + s.base, rfl, ?_, ?_⟩
        · simp only [World.cell?]
          rw [g3]
          simpa using y0
        · simp only [World.cell?]
          rw [g3]
          have e1 : 0 + s.base + 1 = 1 + s.base := by omega
          simp only [e1]
          simpa using y1
    obtain ⟨b4, p4, rfl, c0, c1⟩ := hbox
    have hy := hY k _ W3 (.agg #[.int .i64 (nth row j).x, .int .i64 (mgB ((nth row j).x + (nth row j).w) (row.drop (j + 1)))]) (by rw [List.getElem?_map, hnk]; rfl) hJ3 (fun M ρ => .agg (vs := [_, _]) rfl (fun i c v hc hv => by
      match i, hc, hv with
      | 0, hc, hv => cases hc; cases hv; exact .s _ _
      | 1, hc, hv => cases hc; cases hv; exact .s _ _
      | i + 2, hc, hv => simp at hc) (fun v hv => by simp at hv; rcases hv with rfl | rfl <;> rfl))
    refine sp_yield l a3 W3 zs zd (by rw [z0, hyv]) b4 p4 z4 _ _ c0 c1 _ hy (fun e V' h => h.elim (fun h => .inl h.1) (fun h => .inr h.1)) _ (fun a' V' hr hkp h3' => ?_) (fun a' V' hr hkp => ?_)
    · rcases hr with ⟨-, hj2⟩ | ⟨hr, -⟩
      · show And _ _
        refine And.intro ⟨k + 1, j + 1 + mgN ((nth row j).x + (nth row j).w) (row.drop (j + 1)), by omega, by omega, hnext, hj2, hkp.2.1.trans zd, hkp.2.2.trans zs, (hkp.1 0 rfl).trans z0, (hkp.1 1 rfl).trans z1, ?_⟩ ?_
        · exact h3'.trans z3
        · rw [mu_at (h3'.trans z3), mu_at s3]; omega
      · cases hr
    · rcases hr with ⟨hr, -⟩ | ⟨-, hj2⟩
      · cases hr
      · simp only [Exit.inBlock, Exit.then]
        refine bodyPost_ret (results_none res49 _ _ _) (hkp.2.1.trans zd) ?_
        exact ⟨⟨_, rfl⟩, .inr ⟨k, hk2, hj2⟩⟩
  · -- no more
    obtain rfl : j = row.length := by omega
    refine wpIn_seq (wpIn_mono (wpIn_wide.2 ((hS k hkm).stop yv w0 ρ M _ w hR)) (fun x a1 W1 hx => ?_))
    obtain ⟨⟨rfl, ρ1, M1, q1, q2, q3, q4⟩, k1⟩ := hx
    have hJ1 : J k W1 := hcl ρ1 M1 W1 q1 q2 q3 q4.wr
    have hkl : k = (spD row).length := by
      rw [List.drop_length] at he
      have h0 : (spD ([] : List Rc)).length = 0 := rfl
      have := congrArg List.length he
      rw [List.length_drop, h0] at this
      omega
    subst hkl
    simp only [Ex.to, Exit.then, Exit.inBlock, if_pos]
    exact ⟨k1.2.1.trans sd, _, results_none res49 _ _ _, ⟨_, rfl⟩, .inl hJ1⟩
end Go.Proofs.Ytcnlgdbmcdlknaa.Bn
