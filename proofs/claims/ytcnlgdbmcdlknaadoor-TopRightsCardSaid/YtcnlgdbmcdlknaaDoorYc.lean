/- The forms of requests. By the prover of this seat. -/
import Derived.Test.YtcnlgdbmcdlknaaDoorYb
set_option linter.unusedVariables false
set_option linter.unusedSimpArgs false
set_option maxRecDepth 100000
set_option maxHeartbeats 4000000
namespace Go.Proofs.YtcnlgdbmcdlknaaDoor
open Go.RowKit Go.Pm
structure Fm where
  fixed : List Int
  bytes : Bool
  list : Int
  deriving DecidableEq
def eJ (n : Int) : List AV := [i64 n]
def slJ (l : List Int) : AV := slE eJ l
def fmC (f : Fm) : List AV := [slJ f.fixed, bl f.bytes, i64 f.list]
def fmA (f : Fm) : AV := A (fmC f)
def addF (f : Fm) (x : List UInt8) : Fm :=
  if (splitD x).1 = [66] then ⟨f.fixed, true, f.list⟩ else if (splitD x).1 = [76] then ⟨f.fixed, f.bytes, (splitD x).2⟩ else ⟨f.fixed ++ [(splitD x).2], f.bytes, f.list⟩
def formL (xs : List (List UInt8)) (k : Nat) : Fm := (xs.take k).foldl addF ⟨[], false, 0⟩
theorem formL_succ {xs : List (List UInt8)} {k : Nat} (h : k < xs.length) : formL xs (k + 1) = addF (formL xs k) (nth xs k) := by
  unfold formL
  rw [List.take_succ_eq_append_getElem h, List.foldl_append, nth_eq h]
  rfl
noncomputable def fmB : Code := loopOf Tryd.prog 25 3
def fmS (xs : List (List UInt8)) (f : Fm) (n k : Nat) : St := ⟨mkT 36 [(2, .ptr 0 0), (3, .ptr 1 0), (9, slSt xs), (10, i64 xs.length), (11, i64 k)], [.arr 3 [.nsl, bl false, i64 0] 0, .arr 3 [.osl 2 0 n 1, bl f.bytes, i64 f.list] 0, .arr (n * 1) (f.fixed.flatMap eJ) 0]⟩
theorem bL_inj {a b : List UInt8} (h : ¬ a = b) : ¬ bL a = bL b := fun e => h (by
  have := congrArg (fun x : ByteArray => x.data.toList) e
  simpa using this)
theorem form_B (xs : List (List UInt8)) (f : Fm) (n k : Nat) (z : Int) (hk : k < xs.length) (hx : xs.length ≤ 100) (hn : n ≤ 100) (q : PS 47 [st (bL (nth xs k))] (.tup [st (bL [66]), i64 z])) : Tri CS fmB (fmS xs f n k) .normal (fmS xs ⟨f.fixed, true, f.list⟩ n (k + 1)) := by
  exact runF_ok (hs := hint [((3,0), {val := some (bl (true))}), ((4,0), {cells := some (eSt (nth xs k) ++ List.flatMap eSt (List.drop (k + (1 : Nat)) xs)), sym := true}), ((5,1), {call := some (AV.tup [(st (bL [(66 : UInt8)])), (i64 z)])}), ((12,0), {val := some (i64 ((↑k : Int) + (1 : Int)))})]) (f := { ks := [2, 3, 9, 10, 11], l := [0, 1, 2], mx := [1] }) (ps := [bl (decide ((↑k : Int) < (↑xs.length : Int))) = bl (true), decide ((0 : Int) ≤ (↑k : Int) ∧ (↑k : Int) < (↑xs.length : Int)) = true, ((List.drop ((↑k : Int).toNat * (1 : Nat)) (List.flatMap eSt xs)) : List AV) = (eSt (nth xs k) ++ List.flatMap eSt (List.drop (k + (1 : Nat)) xs)), _, i64 (IntKind.i64.wrap ((↑k : Int) + (1 : Int))) = i64 ((↑k : Int) + (1 : Int)), true = true, true = true, pureB (Bk.arr (n * (1 : Nat)) (List.flatMap eJ f.fixed) (0 : Fz)) = true]) (by kernel_rfl) ⟨(bdT (by omega)), (by exact decide_t (by omega)), (by exact flat_nth (sz := 1) (k := k) (fun _ => rfl) (by omega)), (q), (intE (by exact wrap_i64 (by omega) (by omega))), rfl, rfl, (by exact row_pureB (fun _ => rfl) _ _ _), trivial⟩
theorem form_L (xs : List (List UInt8)) (f : Fm) (n k : Nat) (z : Int) (hk : k < xs.length) (hx : xs.length ≤ 100) (hn : n ≤ 100) (q : PS 47 [st (bL (nth xs k))] (.tup [st (bL [76]), i64 z])) : Tri CS fmB (fmS xs f n k) .normal (fmS xs ⟨f.fixed, f.bytes, z⟩ n (k + 1)) := by
  exact runF_ok (hs := hint [((3,0), {val := some (bl (true))}), ((4,0), {cells := some (eSt (nth xs k) ++ List.flatMap eSt (List.drop (k + (1 : Nat)) xs)), sym := true}), ((5,1), {call := some (AV.tup [(st (bL [(76 : UInt8)])), (i64 z)])}), ((12,0), {val := some (i64 ((↑k : Int) + (1 : Int)))})]) (f := { ks := [2, 3, 9, 10, 11], l := [0, 1, 2], mx := [1] }) (ps := [bl (decide ((↑k : Int) < (↑xs.length : Int))) = bl (true), decide ((0 : Int) ≤ (↑k : Int) ∧ (↑k : Int) < (↑xs.length : Int)) = true, ((List.drop ((↑k : Int).toNat * (1 : Nat)) (List.flatMap eSt xs)) : List AV) = (eSt (nth xs k) ++ List.flatMap eSt (List.drop (k + (1 : Nat)) xs)), _, i64 (IntKind.i64.wrap ((↑k : Int) + (1 : Int))) = i64 ((↑k : Int) + (1 : Int)), true = true, true = true, pureB (Bk.arr (n * (1 : Nat)) (List.flatMap eJ f.fixed) (0 : Fz)) = true]) (by kernel_rfl) ⟨(bdT (by omega)), (by exact decide_t (by omega)), (by exact flat_nth (sz := 1) (k := k) (fun _ => rfl) (by omega)), (q), (intE (by exact wrap_i64 (by omega) (by omega))), rfl, rfl, (by exact row_pureB (fun _ => rfl) _ _ _), trivial⟩
theorem form_N (xs : List (List UInt8)) (f : Fm) (n k : Nat) (z : Int) (y : ByteArray) (hk : k < xs.length) (hx : xs.length ≤ 100) (hn : n ≤ 100) (hf : f.fixed.length = n) (hB : ¬ y = "B".toUTF8) (hL : ¬ y = "L".toUTF8) (q : PS 47 [st (bL (nth xs k))] (.tup [st y, i64 z])) : Tri CS fmB (fmS xs f n k) .normal (fmS xs ⟨f.fixed ++ [z], f.bytes, f.list⟩ (n + 1) (k + 1)) := by
  have e1 : f.fixed.flatMap eJ ++ [i64 z] = (f.fixed ++ [z]).flatMap eJ := by rw [List.flatMap_append]; rfl
  exact runF_ok (hs := hint [((3,0), {val := some (bl (true))}), ((4,0), {cells := some (eSt (nth xs k) ++ List.flatMap eSt (List.drop (k + (1 : Nat)) xs)), sym := true}), ((5,1), {call := some (AV.tup [(st y), (i64 z)])}), ((8,1), {val := some (bl (false))}), ((10,1), {val := some (bl (false))}), ((7,4), { sym := true, cells := some ((f.fixed ++ [z]).flatMap eJ) }), ((12,0), {val := some (i64 ((↑k : Int) + (1 : Int)))})]) (f := { ks := [2, 3, 9, 10, 11], l := [0, 1, 4], mx := [1] }) (ps := [bl (decide ((↑k : Int) < (↑xs.length : Int))) = bl (true), decide ((0 : Int) ≤ (↑k : Int) ∧ (↑k : Int) < (↑xs.length : Int)) = true, ((List.drop ((↑k : Int).toNat * (1 : Nat)) (List.flatMap eSt xs)) : List AV) = (eSt (nth xs k) ++ List.flatMap eSt (List.drop (k + (1 : Nat)) xs)), _, bl (y.toList == { data := #[(66 : UInt8)] : ByteArray }.toList) = bl (false), bl (y.toList == { data := #[(76 : UInt8)] : ByteArray }.toList) = bl (false), decide (n * (1 : Nat) = n * (1 : Nat) ∧ (0 : Nat) ≤ n * (1 : Nat) ∧ n * (1 : Nat) = (List.flatMap eJ f.fixed).length) = true, decide ((n + (1 : Nat)) * (8 : Nat) ≤ (140737488355328 : Nat)) = true, true = true, ((List.flatMap eJ f.fixed ++ [AV.s (Value.int IntKind.i64 z)]) : List AV) = (List.flatMap eJ (f.fixed ++ [z])), i64 (IntKind.i64.wrap ((↑k : Int) + (1 : Int))) = i64 ((↑k : Int) + (1 : Int)), true = true, true = true, pureB (Bk.arr ((n + (1 : Nat)) * (1 : Nat)) (List.flatMap eJ (f.fixed ++ [z])) (0 : Fz)) = true]) (by kernel_rfl) ⟨(bdT (by omega)), (by exact decide_t (by omega)), (by exact flat_nth (sz := 1) (k := k) (fun _ => rfl) (by omega)), (q), (bsF (by assumption)), (bsF (by assumption)), (by (first | exact e1.symm | exact decide_t (by omega) | exact decide_t ⟨by omega, by omega, by rw [row_len (sz := 1) (fun _ => rfl)]; omega⟩ | exact decide_t (by rw [row_len (sz := 1) (fun _ => rfl)]; omega))), (by (first | exact e1.symm | exact decide_t (by omega) | exact decide_t ⟨by omega, by omega, by rw [row_len (sz := 1) (fun _ => rfl)]; omega⟩ | exact decide_t (by rw [row_len (sz := 1) (fun _ => rfl)]; omega))), rfl, (by assumption), (intE (by exact wrap_i64 (by omega) (by omega))), rfl, rfl, (by exact row_pureB (fun _ => rfl) _ _ _), trivial⟩
theorem form_end (xs : List (List UInt8)) (f : Fm) (n : Nat) : LoopT CS fmB (fmS xs f n xs.length) (.exit 0) (fmS xs f n xs.length) := by
  exact LoopT.fin (hs := hint [((3,0), {val := some (bl (false))})]) (f := { ks := [2, 3, 9, 10, 11], l := [0, 1, 2], mx := [1] }) (ps := [bl (decide ((↑xs.length : Int) < (↑xs.length : Int))) = bl (false), true = true, true = true, pureB (Bk.arr (n * (1 : Nat)) (List.flatMap eJ f.fixed) (0 : Fz)) = true]) (by kernel_rfl) ⟨(bdF (by omega)), rfl, rfl, (by exact row_pureB (fun _ => rfl) _ _ _), trivial⟩ (by decide)
theorem form_all (xs : List (List UInt8)) (hx : xs.length ≤ 100) (ha : ∀ x ∈ xs, ascL x ∧ x.length ≤ 1000) : ∀ (d k : Nat) (f : Fm), k + d = xs.length → f = formL xs k → f.fixed.length ≤ k → LoopT CS fmB (fmS xs f f.fixed.length k) (.exit 0) (fmS xs (formL xs xs.length) (formL xs xs.length).fixed.length xs.length) := by
  intro d
  induction d with
  | zero =>
    intro k f hk hf hl
    obtain rfl : k = xs.length := by omega
    rw [← hf]
    exact form_end xs f _
  | succ d ih =>
    intro k f hk hf hl
    have hk' : k < xs.length := by omega
    have hm := ha _ (nth_mem hk')
    have q := split_ok (nth xs k) hm.2 hm.1
    have hs := formL_succ hk'
    rw [← hf] at hs
    have nx := ih (k + 1) (addF f (nth xs k)) (by omega) hs.symm
    unfold addF at nx
    by_cases hB : (splitD (nth xs k)).1 = [66]
    · rw [hB] at q
      rw [if_pos hB] at nx
      exact LoopT.next (form_B xs f _ k _ hk' hx (by omega) q) (nx (by simp only; omega))
    · rw [if_neg hB] at nx
      by_cases hL : (splitD (nth xs k)).1 = [76]
      · rw [hL] at q
        rw [if_pos hL] at nx
        exact LoopT.next (form_L xs f _ k _ hk' hx (by omega) q) (nx (by simp only; omega))
      · rw [if_neg hL] at nx
        have nx := nx (by simp only [List.length_append, List.length_singleton]; omega)
        simp only [List.length_append, List.length_singleton] at nx
        exact LoopT.next (form_N xs f _ k _ _ hk' hx (by omega) rfl (bL_inj hB) (bL_inj hL) q) nx
def formD (s : List UInt8) : Fm := formL (Lib.fields s) (Lib.fields s).length
theorem fgo_mem : ∀ (l cur : List UInt8), ∀ x ∈ Lib.fieldsGo cur l, ∀ b ∈ x, b ∈ cur ∨ b ∈ l
  | [], cur => by
    intro x hx b hb
    unfold Lib.fieldsGo at hx
    split at hx
    · cases hx
    · rw [List.mem_singleton.1 hx] at hb; exact .inl hb
  | c :: l, cur => by
    intro x hx b hb
    unfold Lib.fieldsGo at hx
    split at hx
    · split at hx
      · rcases fgo_mem l [] x hx b hb with h | h
        · cases h
        · exact .inr (List.mem_cons_of_mem _ h)
      · rcases List.mem_cons.1 hx with rfl | hx
        · exact .inl hb
        · rcases fgo_mem l [] x hx b hb with h | h
          · cases h
          · exact .inr (List.mem_cons_of_mem _ h)
    · rcases fgo_mem l (cur ++ [c]) x hx b hb with h | h
      · rcases List.mem_append.1 h with h | h
        · exact .inl h
        · rw [List.mem_singleton.1 h]; exact .inr (List.mem_cons_self ..)
      · exact .inr (List.mem_cons_of_mem _ h)
theorem fgo_len : ∀ (l cur : List UInt8), (Lib.fieldsGo cur l).length ≤ l.length + 1 ∧ ∀ x ∈ Lib.fieldsGo cur l, x.length ≤ cur.length + l.length
  | [], cur => by
    unfold Lib.fieldsGo
    split
    · exact ⟨by simp, by simp⟩
    · exact ⟨by simp, fun x hx => by rw [List.mem_singleton.1 hx]; simp⟩
  | c :: l, cur => by
    have h1 := fgo_len l []
    have h2 := fgo_len l (cur ++ [c])
    simp only [List.length_nil, List.length_append, List.length_singleton] at h1 h2
    unfold Lib.fieldsGo
    split
    · split
      · exact ⟨by simp only [List.length_cons]; omega, fun x hx => by have := h1.2 x hx; simp only [List.length_cons]; omega⟩
      · refine ⟨by simp only [List.length_cons]; omega, fun x hx => ?_⟩
        rcases List.mem_cons.1 hx with rfl | hx
        · omega
        · have := h1.2 x hx; simp only [List.length_cons]; omega
    · exact ⟨by simp only [List.length_cons]; omega, fun x hx => by have := h2.2 x hx; simp only [List.length_cons]; omega⟩
theorem slJ_nil : slJ [] = .sl 0 [] := rfl
theorem form_go (l : List UInt8) (f : Fm) (xs : List (List UInt8)) (hx : xs.length ≤ 100) (q : PS 46 [st (bL l)] (slSt xs)) (L : LoopT CS fmB (fmS xs ⟨[], false, 0⟩ 0 0) (.exit 0) (fmS xs f f.fixed.length xs.length)) : PS 25 [st (bL l)] (fmA f) := by
  have e := row_sl (enc := eJ) (sz := 1) (fun _ => rfl) f.fixed f.fixed.length (f.fixed.length * 1) rfl (by omega)
  exact pure_cast (pure_said (hs := hint [((2,1), {call := some ((slSt xs))}), ((3,1000), {loop := some ({ ks := [2, 3, 9, 10, 11], l := [0, 1], mx := [1], gc := [(1, (0, 1))] }, fmS xs { fixed := [], bytes := false, list := (0 : Int) : Fm } (0 : Nat) (0 : Nat), Ex.exit (0 : Nat), fmS xs f f.fixed.length xs.length)})]) (r := A [AV.sl (f.fixed.length) (List.take (f.fixed.length * (1 : Nat)) (List.drop (0 : Nat) (List.flatMap eJ f.fixed))), bl (f.bytes), i64 (f.list)]) (ps := [_, fmS xs { fixed := [], bytes := false, list := (0 : Int) : Fm } (0 : Nat) (0 : Nat) = fmS xs { fixed := [], bytes := false, list := (0 : Int) : Fm } (0 : Nat) (0 : Nat), _, true = true, true = true, ([(2 : Nat)].all fun (i : Nat) => (Option.map pureB [Bk.arr (3 : Nat) [AV.osl (2 : Nat) (0 : Nat) f.fixed.length (1 : Nat), AV.s (Value.bool f.bytes), AV.s (Value.int IntKind.i64 f.list)] (0 : Fz), Bk.arr (3 : Nat) [AV.osl (2 : Nat) (0 : Nat) f.fixed.length (1 : Nat), AV.s (Value.bool f.bytes), AV.s (Value.int IntKind.i64 f.list)] (0 : Fz), Bk.arr (f.fixed.length * (1 : Nat)) (List.flatMap eJ f.fixed) (0 : Fz)][i]?).getD false) = true, true = true]) (by kernel_rfl) ⟨(q), rfl, L, rfl, rfl, (by exact row_ids (fun _ => rfl) _ _ _ _ _ rfl), rfl, trivial⟩) (by (rw [e]; rfl))
theorem form_ok (l : List UInt8) (hl : l.length ≤ 90) (ha : ascL l) : PS 25 [st (bL l)] (fmA (formD l)) := by
  have hm := fgo_mem l []
  have hn := fgo_len l []
  simp only [List.length_nil] at hn
  have q := fields_ok (bL l) (by rw [bsize]; omega) ha
  refine form_go l _ (Lib.fields l) (by unfold Lib.fields; omega) q (form_all (Lib.fields l) (by unfold Lib.fields; omega) (fun x hx => ⟨fun j b hb => ?_, by have := hn.2 x hx; omega⟩) (Lib.fields l).length 0 ⟨[], false, 0⟩ (by omega) rfl (by simp))
  rcases hm x hx b (List.mem_of_getElem? hb) with h | h
  · cases h
  · obtain ⟨i, hi, rfl⟩ := List.getElem_of_mem h
    exact ha i _ (List.getElem?_eq_getElem hi)
end Go.Proofs.YtcnlgdbmcdlknaaDoor
