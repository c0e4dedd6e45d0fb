/- Intern, by the program and by the document; all names. By the prover of this seat. -/
import Derived.Test.YtgbpjpacmepicaaDoorOc
set_option linter.unusedVariables false
set_option linter.unusedSimpArgs false
set_option maxRecDepth 100000
set_option maxHeartbeats 4000000
namespace Go.Proofs.YtgbpjpacmepicaaDoor
open Go.RowKit Go.Pm
theorem fresh_of {l : List ByteArray} {s : ByteArray} (h : idxD (eqD s) l = none) : ∀ x ∈ l, x ≠ s := fun x hx q => by
  have e := idx_isSome (eqD s) l
  rw [h] at e
  have := List.any_eq_false.1 e.symm x hx
  simp [eqD, q] at this
theorem intern_ok (a : List ByteArray) (h : TOk a) (s : ByteArray) (only : Bool) : Pu 11 [tabA a, st s, bl only] (internA (internD a s only)) := by
  unfold internD
  by_cases hr : rightD s = true
  · rw [if_neg (fun q => q hr)]
    have hf := find_ok a h s (right_size hr)
    unfold foundR numD at hf
    cases hk : idxD (eqD s) (kn ++ a) with
    | some k =>
      rw [hk] at hf
      exact in_there a s only k hr hf
    | none =>
      rw [hk] at hf
      simp only at hf ⊢
      cases only with
      | true => rw [if_pos rfl]; exact in_only a s hr hf
      | false =>
        rw [if_neg (by simp)]
        by_cases hF : 1014 ≤ a.length
        · rw [if_pos hF]; exact in_full a h.len s hr hf hF
        · rw [if_neg hF]
          refine in_new a h s hr hf hF ?_
          unfold rowsB
          rw [numb_snoc]
          have hfr := fresh_of hk
          have := mput_fresh (key := Prod.fst) (ev := evB) ke_b (l := numb a) (x := (s, a.length)) (fun p hp => hfr _ (List.mem_append_right _ (mem_numb hp)))
          rw [show st s = ekB (Prod.fst (s, a.length)) from rfl, show u32 ((a.length : Int) + 11) = evB (s, a.length) from rfl, this]
  · rw [if_pos hr]
    exact in_bad a s only (by simpa using hr)
theorem intern_tok {a : List ByteArray} (h : TOk a) (s : ByteArray) (only : Bool) : TOk (internD a s only).1 := by
  unfold internD
  split
  · exact h
  · rename_i hr
    split
    · exact h
    · rename_i hk
      split
      · exact h
      · split
        · exact h
        · rename_i hF
          have hfr := fresh_of hk
          refine ⟨?_, fun x hx => ?_, ?_⟩
          · show (kn ++ (a ++ [s])).Pairwise _
            rw [← List.append_assoc]
            refine List.pairwise_append.2 ⟨h.apart, List.pairwise_singleton .., fun x hx y hy => ?_⟩
            obtain rfl := List.mem_singleton.1 hy
            exact hfr x hx
          · rcases List.mem_append.1 hx with hx | hx
            · exact h.short x hx
            · obtain rfl := List.mem_singleton.1 hx
              exact right_size (by simpa using hr)
          · show (a ++ [s]).length ≤ 1014
            rw [List.length_append, List.length_singleton]; omega
/-! the document's -/
def rD (l : List ByteArray) (s : ByteArray) (only : Bool) : List ByteArray × Int × Int :=
  if ¬ rightD s = true then (l, 0, 11) else if numD l s > 0 ∨ only = true then (l, numD l s, 0) else if 1024 ≤ l.length then (l, 0, 12) else (l ++ [s], (l.length : Int) + 1, 0)
def rR (r : List ByteArray × Int × Int) : AV := .tup [slS r.1, i64 r.2.1, i64 r.2.2]
theorem rin_bad (l : List ByteArray) (s : ByteArray) (only : Bool) (hz : s.size ≤ 1000000000) (h : rightD s = false) : Pu 16 [slS l, st s, bl only] (rR (l, 0, 11)) := by
  have hr := rright_ok s hz
  rw [h] at hr
  exact pure_of (hs := hint [((1,1), {call := some ((bl false))})]) (ps := [_]) (by kernel_rfl) ⟨(hr), trivial⟩
theorem rin_has (l : List ByteArray) (s : ByteArray) (only : Bool) (hz : s.size ≤ 1000000000) (h : rightD s = true) (hl : l.length ≤ 1000000) (hn : numD l s > 0 ∨ only = true) : Pu 16 [slS l, st s, bl only] (rR (l, numD l s, 0)) := by
  have hr := rright_ok s hz
  have hf := rfind_ok l s hl
  rw [h] at hr
  cases only with
  | true => by_cases h1 : numD l s > (0 : Int)
            · exact pure_of (hs := hint [((1,1), {call := some ((bl true))}), ((3,2), {call := some ((i64 (numD l s)))}), ((4,2), {val := some (bl (true))})]) (ps := [_, _, bl (decide (numD l s > (0 : Int))) = bl (true)]) (by kernel_rfl) ⟨(hr), (hf), (bdT h1), trivial⟩
            · exact pure_of (hs := hint [((1,1), {call := some ((bl true))}), ((3,2), {call := some ((i64 (numD l s)))}), ((4,2), {val := some (bl (false))})]) (ps := [_, _, bl (decide (numD l s > (0 : Int))) = bl (false)]) (by kernel_rfl) ⟨(hr), (hf), (bdF h1), trivial⟩
  | false =>
    have hn' : numD l s > 0 := by simpa using hn
    exact pure_of (hs := hint [((1,1), {call := some ((bl true))}), ((3,2), {call := some ((i64 (numD l s)))}), ((4,2), {val := some (bl (true))})]) (ps := [_, _, bl (decide (numD l s > (0 : Int))) = bl (true)]) (by kernel_rfl) ⟨(hr), (hf), (bdT (by assumption)), trivial⟩
theorem rin_full (l : List ByteArray) (s : ByteArray) (hz : s.size ≤ 1000000000) (h : rightD s = true) (hl : l.length ≤ 1000000) (hn : ¬ numD l s > 0) (hF : 1024 ≤ l.length) : Pu 16 [slS l, st s, bl false] (rR (l, 0, 12)) := by
  have hr := rright_ok s hz
  have hf := rfind_ok l s hl
  rw [h] at hr
  exact pure_of (hs := hint [((1,1), {call := some ((bl true))}), ((3,2), {call := some ((i64 (numD l s)))}), ((4,2), {val := some (bl (false))}), ((6,2), {val := some (bl (true))})]) (ps := [_, _, bl (decide (numD l s > (0 : Int))) = bl (false), bl (decide ((↑l.length : Int) ≥ (1024 : Int))) = bl (true)]) (by kernel_rfl) ⟨(hr), (hf), (bdF (by assumption)), (bdT (by omega)), trivial⟩
theorem rin_new (l : List ByteArray) (s : ByteArray) (hz : s.size ≤ 1000000000) (h : rightD s = true) (hl : l.length ≤ 1000000) (hn : ¬ numD l s > 0) (hF : ¬ 1024 ≤ l.length) : Pu 16 [slS l, st s, bl false] (rR (l ++ [s], (l.length : Int) + 1, 0)) := by
  have hr := rright_ok s hz
  have hf := rfind_ok l s hl
  rw [h] at hr
  have e0 := row_take (sz := 1) (enc := eS) (fun _ => rfl) l (l.length * 1) (Nat.le_refl _)
  have e1 : (l ++ [s]).flatMap eS = l.flatMap eS ++ eS s := row_snoc l s
  have hlen : (l ++ [s]).length = l.length + 1 := by rw [List.length_append, List.length_singleton]
  have r1 := row_sl (sz := 1) (enc := eS) (fun _ => rfl) (l ++ [s]) (0 + l.length + 1) ((0 + l.length + 1) * 1) (by omega) (by omega)
  exact pure_cast (pure_said (hs := hint [((1,1), {call := some ((bl true))}), ((3,2), {call := some ((i64 (numD l s)))}), ((4,2), {val := some (bl (false))}), ((6,2), {val := some (bl (false))}), ((8,2), { sym := true, cells := some (l.flatMap eS) }), ((8,5), { sym := true, cells := some ((l ++ [s]).flatMap eS) }), ((8,8), {val := some (i64 ((↑l.length : Int) + (1 : Int)))})]) (r := AV.tup [AV.sl ((0 : Nat) + l.length + (1 : Nat)) (List.take (((0 : Nat) + l.length + (1 : Nat)) * (1 : Nat)) (List.drop (0 : Nat) (List.flatMap eS (l ++ [s])))), i64 ((↑l.length : Int) + (1 : Int)), i64 ((0 : Int))]) (ps := [_, _, bl (decide (numD l s > (0 : Int))) = bl (false), bl (decide ((↑l.length : Int) ≥ (1024 : Int))) = bl (false), true = true, decide (((0 : Nat) + l.length) * (16 : Nat) ≤ (140737488355328 : Nat)) = true, decide ((List.take (l.length * (1 : Nat)) (List.flatMap eS l)).length = l.length * (1 : Nat)) = true, ((List.take (l.length * (1 : Nat)) (List.flatMap eS l)) : List AV) = (List.flatMap eS l), decide (((0 : Nat) + l.length) * (1 : Nat) = ((0 : Nat) + l.length) * (1 : Nat) ∧ (0 : Nat) ≤ ((0 : Nat) + l.length) * (1 : Nat) ∧ ((0 : Nat) + l.length) * (1 : Nat) = (List.flatMap eS l).length) = true, decide (((0 : Nat) + l.length + (1 : Nat)) * (16 : Nat) ≤ (140737488355328 : Nat)) = true, true = true, ((List.flatMap eS l ++ [AV.s (Value.string s)]) : List AV) = (List.flatMap eS (l ++ [s])), i64 (IntKind.i64.wrap ((↑l.length : Int) + (1 : Int))) = i64 ((↑l.length : Int) + (1 : Int)), ([(3 : Nat)].all fun (i : Nat) => (Option.map pureB [Bk.dead, Bk.dead, Bk.arr (1 : Nat) [AV.s (Value.string s)] (0 : Nat), Bk.arr (((0 : Nat) + l.length + (1 : Nat)) * (1 : Nat)) (List.flatMap eS (l ++ [s])) (0 : Nat)][i]?).getD false) = true, true = true]) (by kernel_rfl) ⟨(hr), (hf), (bdF (by assumption)), (bdF (by omega)), rfl, (by (first | exact decide_t (by omega) | exact decide_t (by rw [e0, row_len (sz := 1) (fun _ => rfl)]) | exact e0 | exact decide_t ⟨by omega, by omega, by omega⟩)), (by (first | exact decide_t (by omega) | exact decide_t (by rw [e0, row_len (sz := 1) (fun _ => rfl)]) | exact e0 | exact decide_t ⟨by omega, by omega, by omega⟩)), (by (first | exact decide_t (by omega) | exact decide_t (by rw [e0, row_len (sz := 1) (fun _ => rfl)]) | exact e0 | exact decide_t ⟨by omega, by omega, by omega⟩)), (by (first | exact e1.symm | exact decide_t (by omega) | exact decide_t ⟨by omega, by omega, by rw [row_len (sz := 1) (fun _ => rfl)]; omega⟩ | exact decide_t (by rw [row_len (sz := 1) (fun _ => rfl)]; omega))), (by (first | exact e1.symm | exact decide_t (by omega) | exact decide_t ⟨by omega, by omega, by rw [row_len (sz := 1) (fun _ => rfl)]; omega⟩ | exact decide_t (by rw [row_len (sz := 1) (fun _ => rfl)]; omega))), rfl, (by (first | exact e1.symm | exact decide_t (by omega) | exact decide_t ⟨by omega, by omega, by rw [row_len (sz := 1) (fun _ => rfl)]; omega⟩ | exact decide_t (by rw [row_len (sz := 1) (fun _ => rfl)]; omega))), (intE (by exact wrap_i64 (by omega) (by omega))), (by exact row_ids (fun _ => rfl) _ _ _ _ _ rfl), rfl, trivial⟩) (by (rw [r1]; rfl))
theorem rintern_ok (l : List ByteArray) (hl : l.length ≤ 1000000) (s : ByteArray) (hz : s.size ≤ 1000000000) (only : Bool) : Pu 16 [slS l, st s, bl only] (rR (rD l s only)) := by
  unfold rD
  by_cases hr : rightD s = true
  · rw [if_neg (fun q => q hr)]
    by_cases hn : numD l s > 0 ∨ only = true
    · rw [if_pos hn]; exact rin_has l s only hz hr hl hn
    · rw [if_neg hn]
      have ho : only = false := by simpa using fun q => hn (.inr q)
      subst ho
      by_cases hF : 1024 ≤ l.length
      · rw [if_pos hF]; exact rin_full l s hz hr hl (fun q => hn (.inl q)) hF
      · rw [if_neg hF]; exact rin_new l s hz hr hl (fun q => hn (.inl q)) hF
  · rw [if_pos hr]; exact rin_bad l s only hz (by simpa using hr)
theorem rD_eq (a : List ByteArray) (s : ByteArray) (only : Bool) : rD (kn ++ a) s only = (kn ++ (internD a s only).1, (internD a s only).2) := by
  unfold rD internD numD
  by_cases hr : rightD s = true
  · simp only [hr, not_true, if_false]
    cases hk : idxD (eqD s) (kn ++ a) with
    | some k =>
      simp only
      rw [if_pos (.inl (by omega))]
    | none =>
      simp only
      have e : (kn ++ a).length = 10 + a.length := by rw [List.length_append]; rfl
      cases only with
      | true => simp
      | false =>
        rw [if_neg (show ¬ ((0 : Int) > 0 ∨ false = true) by simp), if_neg (show ¬ (false = true) by simp)]
        by_cases hF : 1014 ≤ a.length
        · rw [if_pos (by omega), if_pos hF]
        · rw [if_neg (by omega), if_neg hF, e, List.append_assoc]
          simp; omega
  · simp [hr]
/-! Known, All -/
theorem rknown_ok : Pu 15 [] (slS kn) := by
  exact pure_of (hs := hint []) (ps := []) (by kernel_rfl) trivial
theorem known_ok : Pu 20 [] (slS kn) := by
  exact pure_of (hs := hint [((3,1000), {unroll := 11})]) (ps := []) (by kernel_rfl) trivial
def knH : List Bk := (kn.flatMap fun s => [Bk.dead, .arr 1 [st s] 0]) ++ [.arr 10 (kn.flatMap eS) 0]
theorem known_own : Pure Tryd.prog G1 20 [] (.osl 0 0 10 1) [.arr 10 (kn.flatMap eS) 0] :=
  Pure.forget (r := .osl 20 0 10 1) (news := knH) (fnRun_ok (hs := hint [((3, 1000), { unroll := 11 })]) (ps := []) (by kernel_rfl) trivial).1 { ks := [0], l := [20] } ⟨rfl, by kernel_rfl, trivial⟩ rfl
theorem all_0 (a l : List ByteArray) (hl : a.length ≤ 1000000) (h : l.length = 10 + a.length) (h1 : kn.flatMap eS ++ (a.flatMap eS).take (a.length * 1) = l.flatMap eS) : Pu 19 [tabA a] (slS l) := by
  have e0 := row_take (sz := 1) (enc := eS) (fun _ => rfl) a (a.length * 1) (Nat.le_refl _)
  have hK := known_own
  have r1 := row_sl (sz := 1) (enc := eS) (fun _ => rfl) l (10 + a.length) ((10 + a.length) * 1) (by omega) (by omega)
  exact pure_cast (pure_said (hs := hint [((1,0), {call := some ((AV.osl (0 : Nat) (0 : Nat) (10 : Nat) (1 : Nat))), news := some ([Bk.arr (10 : Nat) (List.flatMap eS kn) (0 : Nat)])}), ((1,3), { sym := true, cells := some (l.flatMap eS) })]) (r := AV.sl ((10 : Nat) + a.length) (List.take (((10 : Nat) + a.length) * (1 : Nat)) (List.drop (0 : Nat) (List.flatMap eS l)))) (ps := [_, true = true, decide (((10 : Nat) + a.length) * (16 : Nat) ≤ (140737488355328 : Nat)) = true, decide ((List.take (a.length * (1 : Nat)) (List.flatMap eS a)).length = a.length * (1 : Nat)) = true, ((([st (⟨#[112, 114, 105, 109, 97, 114, 121]⟩), st (⟨#[115, 101, 99, 111, 110, 100, 97, 114, 121]⟩), st (⟨#[99, 108, 105, 112, 98, 111, 97, 114, 100]⟩), st (⟨#[115, 116, 114, 105, 110, 103]⟩), st (⟨#[105, 110, 116, 101, 103, 101, 114]⟩), st (⟨#[97, 116, 111, 109, 115]⟩), st (⟨#[105, 110, 99, 114]⟩), st (⟨#[116, 105, 116, 108, 101]⟩), st (⟨#[116, 114, 97, 110, 115, 102, 101, 114]⟩), st (⟨#[99, 108, 111, 115, 101]⟩)] : List AV) ++ List.take (a.length * (1 : Nat)) (List.flatMap eS a)) : List AV) = (List.flatMap eS l), ([(2 : Nat)].all fun (i : Nat) => (Option.map pureB [Bk.arr (2 : Nat) [AV.sl a.length (List.flatMap eS a), AV.mp (rowsB a)] (0 : Nat), Bk.dead, Bk.arr (((10 : Nat) + a.length) * (1 : Nat)) (List.flatMap eS l) (0 : Nat)][i]?).getD false) = true, true = true]) (by kernel_rfl) ⟨(hK), rfl, (by (first | exact h1 | exact decide_t (by omega) | exact decide_t (by rw [e0, row_len (sz := 1) (fun _ => rfl)]) | exact decide_t ⟨by omega, by omega, rfl⟩)), (by (first | exact h1 | exact decide_t (by omega) | exact decide_t (by rw [e0, row_len (sz := 1) (fun _ => rfl)]) | exact decide_t ⟨by omega, by omega, rfl⟩)), (by (first | exact h1 | exact decide_t (by omega) | exact decide_t (by rw [e0, row_len (sz := 1) (fun _ => rfl)]) | exact decide_t ⟨by omega, by omega, rfl⟩)), (by exact row_ids (fun _ => rfl) _ _ _ _ _ rfl), rfl, trivial⟩) (by assumption)
theorem all_ok (a : List ByteArray) (hl : a.length ≤ 1000000) : Pu 19 [tabA a] (slS (kn ++ a)) :=
  all_0 a (kn ++ a) hl (by rw [List.length_append]; rfl) (by rw [row_take (sz := 1) (enc := eS) (fun _ => rfl) a (a.length * 1) (Nat.le_refl _), List.flatMap_append])
end Go.Proofs.YtgbpjpacmepicaaDoor
