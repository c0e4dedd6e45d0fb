/- The law Again. By the prover of this seat. -/
import Derived.Test.YtgbpjpacmepicaaDoorOf
set_option linter.unusedVariables false
set_option linter.unusedSimpArgs false
set_option maxRecDepth 100000
set_option maxHeartbeats 4000000
namespace Go.Proofs.YtgbpjpacmepicaaDoor
open Go.RowKit Go.Pm
theorem idx_appS {α : Type} (p : α → Bool) (l m : List α) (k : Nat) (h : idxD p l = some k) : idxD p (l ++ m) = some k := by
  induction l generalizing k with
  | nil => cases h
  | cons x l ih =>
    simp only [idxD, List.cons_append] at h ⊢
    split at h
    · rename_i q; rw [if_pos q]; exact h
    · rename_i q
      rw [if_neg q]
      cases h2 : idxD p l with
      | none => rw [h2] at h; cases h
      | some j => rw [h2] at h; rw [ih j h2]; exact h
theorem idx_last {α : Type} (p : α → Bool) (l : List α) (x : α) (h : idxD p l = none) (hp : p x = true) : idxD p (l ++ [x]) = some l.length := by
  induction l with
  | nil => simp [idxD, hp]
  | cons y l ih =>
    simp only [idxD, List.cons_append] at h ⊢
    split at h
    · cases h
    · rename_i q
      rw [if_neg q]
      cases h2 : idxD p l with
      | some j => rw [h2] at h; cases h
      | none => rw [ih h2]; rfl
/-- a name that was taken, or was there: its place -/
theorem intern_there {a : List ByteArray} {s : ByteArray} (h : (internD a s false).2.2 = 0) : ∃ k, idxD (eqD s) (kn ++ (internD a s false).1) = some k ∧ (internD a s false).2.1 = (k : Int) + 1 ∧ rightD s = true := by
  unfold internD at h ⊢
  by_cases hr : rightD s = true
  · rw [if_neg (fun q => q hr)] at h ⊢
    cases hk : idxD (eqD s) (kn ++ a) with
    | some k => exact ⟨k, hk, rfl, hr⟩
    | none =>
      rw [hk] at h
      simp only [if_neg (show ¬ (false = true) by simp)] at h ⊢
      split at h
      · cases h
      · rename_i q
        rw [if_neg q]
        refine ⟨(kn ++ a).length, ?_, ?_, hr⟩
        · rw [← List.append_assoc]; exact idx_last _ _ _ hk (by simp [eqD])
        · rw [List.length_append]
          have : kn.length = 10 := rfl
          simp only; omega
  · rw [if_pos hr] at h; cases h
theorem intern_again {a : List ByteArray} {s : ByteArray} {k : Nat} (hr : rightD s = true) (h : idxD (eqD s) (kn ++ a) = some k) (o : Bool) : internD a s o = (a, (k : Int) + 1, 0) := by
  unfold internD
  rw [if_neg (fun q => q hr), h]
theorem intern_look (a : List ByteArray) (s : ByteArray) : (internD a s true).1 = a := by
  unfold internD
  split
  · rfl
  · split
    · rfl
    · simp
theorem intern_lookE (a : List ByteArray) (s : ByteArray) : internD a s true = (a, (internD a s true).2.1, (internD a s true).2.2) := Prod.ext (intern_look a s) rfl
theorem intern_bad {a : List ByteArray} {s : ByteArray} (h : (internD a s false).2.2 ≠ 0) (hl : a.length < 1014) : internD a s false = (a, 0, 11) := by
  unfold internD at h ⊢
  by_cases hr : rightD s = true
  · rw [if_neg (fun q => q hr)] at h ⊢
    cases hk : idxD (eqD s) (kn ++ a) with
    | some k => rw [hk] at h; exact absurd rfl h
    | none =>
      rw [hk] at h
      simp only [if_neg (show ¬ (false = true) by simp), if_neg (show ¬ 1014 ≤ a.length by omega)] at h
      exact absurd rfl h
  · rw [if_pos hr]
/-! Again -/
noncomputable def agB : Code := loopOf Tryd.prog 4 9
def agS (s : ByteArray) (names : List ByteArray) (n : Int) (a : List ByteArray) (k : Nat) : St := ⟨mkT 126 [(0, st s), (1, slS names), (5, .ptr 0 0), (6, u32 n), (8, i64 k)], [ptB a]⟩
theorem ag_step (s : ByteArray) (names : List ByteArray) (x : Int) (hn : names.length ≤ 40) (a a' : List ByteArray) (n e n2 e2 : Int) (k : Nat) (hk : k < names.length) (hI : Pu 11 [tabA a, st (nth names k), bl false] (internA (a', n, e))) (hO : Pu 11 [tabA a, st (nth names k), bl true] (internA (a, n2, e2))) (hL : Pu 13 [tabA a] (i64 (10 + (a.length : Int)))) : Tri C0 agB (agS s names x a k) .normal (agS s names x a' (k + 1)) := by
  exact runF_ok (hs := hint [((9,3), {val := some (bl (true))}), ((11,1), {call := some ((i64 ((10 : Int) + (↑a.length : Int))))}), ((12,3), {cells := some (eS (nth names k) ++ List.flatMap eS (List.drop (k + (1 : Nat)) names)), sym := true}), ((12,5), {call := some ((internA (a, n2, e2)))}), ((13,1), {call := some ((i64 ((10 : Int) + (↑a.length : Int))))}), ((13,3), {val := some (bl (false))}), ((15,3), {cells := some (eS (nth names k) ++ List.flatMap eS (List.drop (k + (1 : Nat)) names)), sym := true}), ((15,5), {call := some ((internA (a', n, e)))}), ((10,1), {val := some (i64 ((↑k : Int) + (1 : Int)))})]) (f := { ks := [0, 1, 5, 6, 8], l := [0] }) (ps := [bl (decide ((↑k : Int) < (↑names.length : Int))) = bl (true), _, decide ((0 : Int) ≤ (↑k : Int) ∧ (↑k : Int) < (↑names.length : Int)) = true, ((List.drop ((↑k : Int).toNat * (1 : Nat)) (List.flatMap eS names)) : List AV) = (eS (nth names k) ++ List.flatMap eS (List.drop (k + (1 : Nat)) names)), _, _, bl ((10 : Int) + (↑a.length : Int) != (10 : Int) + (↑a.length : Int)) = bl (false), decide ((0 : Int) ≤ (↑k : Int) ∧ (↑k : Int) < (↑names.length : Int)) = true, ((List.drop ((↑k : Int).toNat * (1 : Nat)) (List.flatMap eS names)) : List AV) = (eS (nth names k) ++ List.flatMap eS (List.drop (k + (1 : Nat)) names)), _, i64 (IntKind.i64.wrap ((↑k : Int) + (1 : Int))) = i64 ((↑k : Int) + (1 : Int)), true = true, true = true]) (by kernel_rfl) ⟨(bdT (by omega)), (hL), (by exact decide_t (by omega)), (by exact flat_nth (sz := 1) (k := k) (fun _ => rfl) (by omega)), (hO), (hL), (neT (by omega)), (by exact decide_t (by omega)), (by exact flat_nth (sz := 1) (k := k) (fun _ => rfl) (by omega)), (hI), (intE (by exact wrap_i64 (by omega) (by omega))), rfl, rfl, trivial⟩
theorem ag_end (s : ByteArray) (names : List ByteArray) (x : Int) (a : List ByteArray) : LoopT C0 agB (agS s names x a names.length) (.exit 0) (agS s names x a names.length) := by
  exact LoopT.fin (hs := hint [((9,3), {val := some (bl (false))})]) (f := { ks := [0, 1, 5, 6, 8], l := [0] }) (ps := [bl (decide ((↑names.length : Int) < (↑names.length : Int))) = bl (false), true = true, true = true]) (by kernel_rfl) ⟨(bdF (by omega)), rfl, rfl, trivial⟩ (by decide)
theorem ag_all (s : ByteArray) (names : List ByteArray) (x : Int) (hn : names.length ≤ 40) (a : List ByteArray) (ha : TOk a) : LoopT C0 agB (agS s names x a 0) (.exit 0) (agS s names x (runI a names) names.length) := by
  have L := LoopT.count (fun k => agS s names x (runI a (names.take k)) k) names.length (fun k hk => by
    have q := runI_tok (names.take k) a ha
    have ql := q.len
    have e := runI_snoc a names k hk
    simp only [e]
    have hO := intern_ok _ q (nth names k) true
    rw [intern_lookE] at hO
    exact ag_step s names x hn _ _ _ _ _ _ k hk (intern_ok _ q (nth names k) false) hO (len_ok _ (by omega))) (ag_end s names x _) 0 (by omega)
  simp only [List.take_length] at L
  exact L
theorem again_go (s : ByteArray) (names a z : List ByteArray) (n : Int) (hs : s.size ≤ 300) (h0 : 1 ≤ n) (hq : Pu 10 [slS names, i64 40] (bl true)) (I0 : Pu 11 [tabA [], st s, bl false] (internA (a, n, 0))) (L : LoopT C0 agB (agS s names n a 0) (.exit 0) (agS s names n z names.length)) (I1 : Pu 11 [tabA z, st s, bl false] (internA (z, n, 0))) (I2 : Pu 11 [tabA z, st s, bl true] (internA (z, n, 0))) (hL : Pu 13 [tabA z] (i64 (10 + (z.length : Int)))) : Pu 4 [st s, slS names] (bl true) := by
  exact pure_cast (pure_of (hs := hint [((1,0), {call := some ((bl true))}), ((3,3), {val := some (bl (false))}), ((3,5), {call := some ((bl true))}), ((5,2), {call := some ((internA (a, n, (0 : Int))))}), ((9,1000), {loop := some ({ ks := [0, 1, 5, 6, 8], l := [0] }, agS s names n a (0 : Nat), Ex.exit (0 : Nat), agS s names n z names.length)}), ((16,1), {call := some ((i64 ((10 : Int) + (↑z.length : Int))))}), ((17,2), {call := some ((internA (z, n, (0 : Int))))}), ((18,2), {call := some ((internA (z, n, (0 : Int))))}), ((19,11), {val := some (bl (true))}), ((19,16), {val := some (bl (true))}), ((19,20), {val := some (bl (true))}), ((19,22), {call := some ((i64 ((10 : Int) + (↑z.length : Int))))}), ((19,26), {val := some (bl (true))}), ((19,28), {call := some ((i64 ((10 : Int) + (↑z.length : Int))))})]) (r := bl ((10 : Int) + (↑z.length : Int) == (10 : Int) + (↑z.length : Int))) (ps := [_, bl (decide ((↑s.size : Int) > (300 : Int))) = bl (false), _, _, agS s names n a (0 : Nat) = agS s names n a (0 : Nat), _, true = true, true = true, _, _, _, bl (n == n) = bl (true), bl (n == n) = bl (true), bl (n != (0 : Int)) = bl (true), _, bl ((10 : Int) + (↑z.length : Int) == (10 : Int) + (↑z.length : Int)) = bl (true), _]) (by kernel_rfl) ⟨(awake_ok), (bdF (by omega)), (hq), (I0), rfl, L, rfl, rfl, (hL), (I1), (I2), (beT (by omega)), (beT (by omega)), (neF (by omega)), (hL), (beT (by omega)), (hL), trivial⟩) (by (simp; done))
theorem again_ok (s : ByteArray) (names : List ByteArray) : Pu 4 [st s, slS names] (bl true) := by
  by_cases hs : s.size ≤ 300
  · by_cases hn : shortD names 40 = true
    · have hq : Pu 10 [slS names, i64 40] (bl true) := by have := short_ok names 40 (by omega); rw [hn] at this; exact this
      have I0 := intern_ok [] tok0 s false
      have ta := intern_tok tok0 s false
      by_cases he : (internD [] s false).2.2 = 0
      · obtain ⟨k, hk, e1, hr⟩ := intern_there he
        have e0 : internD [] s false = ((internD [] s false).1, (k : Int) + 1, 0) := by rw [← e1, ← he]
        rw [e0] at I0
        have tz := runI_tok names _ ta
        have lz := tz.len
        obtain ⟨b, hb⟩ := runI_pre names (internD [] s false).1
        have hk2 : idxD (eqD s) (kn ++ runI (internD [] s false).1 names) = some k := by
          rw [hb, ← List.append_assoc]; exact idx_appS _ _ _ _ hk
        have I1 := intern_ok _ tz s false
        have I2 := intern_ok _ tz s true
        rw [intern_again hr hk2] at I1 I2
        exact again_go s names _ _ _ hs (by omega) hq I0 (ag_all s names _ (short_len hn).1 _ ta) I1 I2 (len_ok _ (by omega))
      · rw [intern_bad he (by simp)] at I0
        have hL : Pu 13 [tabA []] (i64 10) := len_ok [] (by simp)
        exact pure_of (hs := hint [((1,0), {call := some ((bl true))}), ((3,3), {val := some (bl (false))}), ((3,5), {call := some ((bl true))}), ((5,2), {call := some ((internA ([], (0 : Int), (11 : Int))))}), ((7,4), {call := some ((i64 (10 : Int)))})]) (ps := [_, bl (decide ((↑s.size : Int) > (300 : Int))) = bl (false), _, _, _]) (by kernel_rfl) ⟨(awake_ok), (bdF (by omega)), (hq), (I0), (hL), trivial⟩
    · have hq : Pu 10 [slS names, i64 40] (bl false) := by have := short_ok names 40 (by omega); rw [show shortD names 40 = false by simpa using hn] at this; exact this
      exact pure_of (hs := hint [((1,0), {call := some ((bl true))}), ((3,3), {val := some (bl (false))}), ((3,5), {call := some ((bl false))})]) (ps := [_, bl (decide ((↑s.size : Int) > (300 : Int))) = bl (false), _]) (by kernel_rfl) ⟨(awake_ok), (bdF (by omega)), (hq), trivial⟩
  · exact pure_of (hs := hint [((1,0), {call := some ((bl true))}), ((3,3), {val := some (bl (true))})]) (ps := [_, bl (decide ((↑s.size : Int) > (300 : Int))) = bl (true)]) (by kernel_rfl) ⟨(awake_ok), (bdT (by omega)), trivial⟩
end Go.Proofs.YtgbpjpacmepicaaDoor
