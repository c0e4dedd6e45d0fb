/- What is wrong with fields, by the program: whole. What a number's bytes are like. By the prover of this seat. -/
import Derived.Test.YtjgjcpbkmeillaaDoorSp
import Derived.Test.YtjgjcpbkmeillaaDoorSh
set_option linter.unusedVariables false
set_option linter.unusedSimpArgs false
set_option maxRecDepth 100000
set_option maxHeartbeats 4000000
namespace Go.Proofs.YtjgjcpbkmeillaaDoor
open Go.RowKit Go.Pm
theorem nth_range (n k : Nat) (h : k < n) : nth (List.range n) k = k := by rw [nth_eq (by rw [List.length_range]; exact h), List.getElem_range]
theorem put_zero {o z v : Int} (h : (putD o z v).2 = 0) : Pu 25 [i64 o, i64 z, i64 v] (.tup [st (putD o z v).1, i64 0]) := by
  have := putR_eq o z v
  rw [h] at this
  exact this
theorem fits_ok (o : Int) (f : Fm) (x : Fl) (h16 : f.fixed.length ≤ 16) : Pu 23 [i64 o, fmA f, flA x] (i64 (fitsD o f x)) := by
  unfold fitsD
  by_cases hl : x.N.length = f.fixed.length
  · rw [if_neg (fun q => q hl)]
    cases hi : idxD (errN o f x) (List.range x.N.length) with
    | some i =>
      obtain ⟨h1, h2, h3⟩ := idx_some hi
      rw [List.length_range] at h1
      rw [nth_range _ _ h1] at h2
      have he : ¬ (putD o (nth f.fixed i) (nth x.N i)).2 = 0 := by unfold errN at h2; simpa using h2
      have L := LoopT.count (fnS o f x) i (fun k hk => fn_step o f x k _ (by omega) hl h16 (put_zero (by
        have := h3 k hk
        rw [nth_range _ _ (by omega)] at this
        unfold errN at this
        simpa using this))) (fn_hit o f x i _ _ he h1 hl h16 (putR_eq _ _ _)) 0 (by omega)
      exact fits_b o f x hl _ L
    | none =>
      have LN := LoopT.count (fnS o f x) x.N.length (fun k hk => fn_step o f x k _ hk hl h16 (put_zero (by
        have := idx_none hi k (by rw [List.length_range]; exact hk)
        rw [nth_range _ _ hk] at this
        unfold errN at this
        simpa using this))) (fn_end o f x) 0 (by omega)
      show Pu 23 [i64 o, fmA f, flA x] (i64 (if ¬ x.B.size = 0 ∧ f.bytes = false then 14 else if x.B.size > 65536 then 4 else if 0 < x.L.length ∧ f.list = 0 then 14 else if x.L.length > 65536 then 4 else match idxD (errL o f.list) x.L with
        | some i => (putD o f.list (nth x.L i)).2
        | none => 0))
      by_cases hb : x.B.size = 0 ∨ f.bytes = true
      · rw [if_neg (by rcases hb with hb | hb <;> simp [hb])]
        have two : ∀ r : Int, (x.B = ⟨#[]⟩ → Pu 23 [i64 o, fmA f, flA x] (i64 r)) → (¬ x.B = ⟨#[]⟩ → f.bytes = true → Pu 23 [i64 o, fmA f, flA x] (i64 r)) → Pu 23 [i64 o, fmA f, flA x] (i64 r) := fun r p q => by
          by_cases e : x.B = ⟨#[]⟩
          · exact p e
          · rcases hb with hb | hb
            · exact absurd (ba_nil hb) e
            · exact q e hb
        by_cases hs : x.B.size > 65536
        · rw [if_pos hs]
          exact two 4 (fun e => by rw [e] at hs; exact absurd hs (by decide)) (fun e hf => fits_d1 o f x hl LN e hf hs)
        rw [if_neg hs]
        by_cases hL : 0 < x.L.length
        · by_cases h0 : f.list = 0
          · rw [if_pos ⟨hL, h0⟩]
            exact two 14 (fun e => fits_e0 o f x hl LN e hs hL h0) (fun e hf => fits_e1 o f x hl LN e hf hs hL h0)
          · rw [if_neg (fun q => h0 q.2)]
            by_cases h6 : x.L.length > 65536
            · rw [if_pos h6]
              exact two 4 (fun e => fits_f0 o f x hl LN e hs h6 h0) (fun e hf => fits_f1 o f x hl LN e hf hs h6 h0)
            rw [if_neg h6]
            cases hj : idxD (errL o f.list) x.L with
            | some j =>
              obtain ⟨g1, g2, g3⟩ := idx_some hj
              have L := LoopT.count (flS o f x) j (fun k hk => fl_step o f x k _ (by omega) (by omega) (put_zero (errL_f (g3 k hk)))) (fl_hit o f x j _ _ (errL_t g2) g1 (by omega) (putR_eq _ _ _)) 0 (by omega)
              exact two _ (fun e => fits_g0 o f x hl LN e hs hL h6 h0 _ L) (fun e hf => fits_g1 o f x hl LN e hf hs hL h6 h0 _ L)
            | none =>
              have L := LoopT.count (flS o f x) x.L.length (fun k hk => fl_step o f x k _ hk (by omega) (put_zero (errL_f (idx_none hj k hk)))) (fl_end o f x) 0 (by omega)
              exact two 0 (fun e => fits_h0 o f x hl LN e hs hL h6 h0 L) (fun e hf => fits_h1 o f x hl LN e hf hs hL h6 h0 L)
        · rw [if_neg (fun q => hL q.1), if_neg (by omega)]
          have hj : idxD (errL o f.list) x.L = none := by
            have : x.L = [] := List.eq_nil_of_length_eq_zero (by omega)
            rw [this]; rfl
          rw [hj]
          have L := LoopT.count (flS o f x) x.L.length (fun k hk => by omega) (fl_end o f x) 0 (by omega)
          exact two 0 (fun e => fits_i0 o f x hl LN e hs hL L) (fun e hf => fits_i1 o f x hl LN e hf hs hL L)
      · have h1 : ¬ x.B.size = 0 := fun e => hb (.inl e)
        have h2 : f.bytes = false := by cases h : f.bytes <;> simp_all
        rw [if_pos ⟨h1, h2⟩]
        exact fits_c o f x hl LN (ba_ne h1) h2
  · rw [if_pos hl]
    exact fits_a o f x hl
/-! numbers' bytes -/
theorem put_sz {o z v : Int} (h : (putD o z v).2 = 0) : (putD o z v).1.size = wdD z ∧ 1 ≤ wdD z ∧ wdD z ≤ 4 ∧ (o = 0 ∨ o = 1) ∧ szB z = true := by
  unfold putD at h ⊢
  by_cases ho : o ≠ 0 ∧ o ≠ 1
  · rw [if_pos ho] at h; cases h
  · rw [if_neg ho] at h ⊢
    cases hk : knownD z with
    | none => rw [hk] at h; cases h
    | some s =>
      rw [hk] at h
      simp only at h ⊢
      by_cases hh : hasD s v = true
      · rw [if_pos hh] at h ⊢
        refine ⟨?_, ?_, ?_, by omega, by unfold szB; rw [hk]; rfl⟩
        · have e : s.wd = wdD z := by
            rcases known_cases hk with ⟨rfl, rfl⟩ | ⟨rfl, rfl⟩ | ⟨rfl, rfl⟩ | ⟨rfl, rfl⟩ | ⟨rfl, rfl⟩ | ⟨rfl, rfl⟩ <;> rfl
          rw [← e]
          exact put_size o v s.wd
        all_goals (rcases known_cases hk with ⟨rfl, _⟩ | ⟨rfl, _⟩ | ⟨rfl, _⟩ | ⟨rfl, _⟩ | ⟨rfl, _⟩ | ⟨rfl, _⟩ <;> decide)
      · rw [if_neg hh] at h; cases h
end Go.Proofs.YtjgjcpbkmeillaaDoor
