/- Get, by the program: what it reads; its body's loops. By the prover of this seat. -/
import Derived.Test.YtcnlgdbmcdlknaaDoorFz
set_option linter.unusedVariables false
set_option linter.unusedSimpArgs false
set_option maxRecDepth 100000
set_option maxHeartbeats 4000000
namespace Go.Proofs.YtcnlgdbmcdlknaaDoor.Fo
open Go.RowKit Go.Pm
/-- the next number: where it stands behind, what is wrong; the number -/
def nuR (o z : Int) (s : ByteArray) (r : Nat × Int) : Nat × Int := if r.2 = 0 then (if s.size < r.1 + wdD z then (r.1, 3) else (r.1 + wdD z, 0)) else r
def nuV (o z : Int) (s : ByteArray) (r : Nat × Int) : Int := if r.2 = 0 ∧ ¬ s.size < r.1 + wdD z then (getD o z (s.extract r.1 (r.1 + wdD z))).1 else 0
def flG (s : ByteArray) : Nat → Nat → Nat × Int
  | 0, p => (p, 0)
  | q + 1, p => if p = s.size then (p, 3) else if byteAt s p = 0 then flG s q (p + 1) else (p, 2)
def fuR (s : ByteArray) (r : Nat × Int) : Nat × Int := if r.2 = 0 then flG s (padN r.1) r.1 else r
theorem nuR_le {o z : Int} {s : ByteArray} {r : Nat × Int} (h : r.1 ≤ s.size) : (nuR o z s r).1 ≤ s.size := by
  unfold nuR
  split
  · split
    · exact h
    · show r.1 + wdD z ≤ s.size; omega
  · exact h
theorem flG_le {s : ByteArray} : ∀ (q p : Nat), p ≤ s.size → (flG s q p).1 ≤ s.size
  | 0, p, h => h
  | q + 1, p, h => by
    unfold flG
    split
    · exact h
    · split
      · exact flG_le q (p + 1) (by omega)
      · exact h
theorem fuR_le {s : ByteArray} {r : Nat × Int} (h : r.1 ≤ s.size) : (fuR s r).1 ≤ s.size := by
  unfold fuR
  split
  · exact flG_le _ _ h
  · exact h
theorem extract_size (s : ByteArray) (p w : Nat) (h : p + w ≤ s.size) : (s.extract p (p + w)).size = w := by
  rw [ByteArray.size_extract]; omega
theorem get_zero {o z : Int} {b : ByteArray} (ho : o = 0 ∨ o = 1) (hz : szB z = true) (hb : b.size = wdD z) : (getD o z b).2 = 0 := by
  unfold getD
  rw [if_neg (by omega)]
  cases hk : knownD z with
  | none => unfold szB at hz; rw [hk] at hz; cases hz
  | some sp =>
    obtain ⟨w, h3, hw, hsz⟩ := known_wide hk
    have e : sp.wd = wdD z := by unfold Span.wd wdD; rw [hsz]
    simp only []
    rw [if_neg (by omega), if_neg (by omega)]
theorem nu_ok (o z : Int) (s : ByteArray) (r : Nat × Int) (ho : o = 0 ∨ o = 1) (hz : szB z = true) (hs : s.size ≤ 65536) (hr : r.1 ≤ s.size) : CallH Tryd.prog G1 54 [i64 z, .ptr 0 0, .fptr [st s], .ptr 1 0, .fptr [i64 o]] [bI r.2, bI r.1] (i64 (nuV o z s r)) [bI (nuR o z s r).2, bI (nuR o z s r).1] := by
  have hw := wide_ok z hz
  have hw4 := (wd_le hz).2
  unfold nuV nuR
  by_cases h0 : r.2 = 0
  · by_cases h : s.size < r.1 + wdD z
    · rw [if_neg (fun q => q.2 h), if_pos h0, if_pos h, h0]
      exact nu_short o z s r.1 _ h hr hs hw4 hw
    · have hg := get_all o z (s.extract r.1 (r.1 + wdD z))
      unfold getR at hg
      rw [get_zero ho hz (extract_size s r.1 _ (by omega))] at hg
      rw [if_pos ⟨h0, h⟩, if_pos h0, if_neg h, h0]
      exact nu_take o z _ s r.1 _ h hs hw4 hw hg
  · rw [if_neg (fun q => h0 q.1), if_neg h0]
    exact nu_err o z r.2 s r.1 _ h0 hw
theorem no_loop (s : ByteArray) (hs : s.size ≤ 65536) : ∀ (q p : Nat), (p + q) % 4 = 0 → q < 4 → p ≤ s.size → LoopT C2 noB (noS s p 0) (.exit 0) (noS s (flG s q p).1 (flG s q p).2)
  | 0, p, h, _, _ => no_end s p h
  | q + 1, p, h, h4, hp => by
    have h1 : ¬ p % 4 = 0 := by omega
    unfold flG
    by_cases e : p = s.size
    · rw [if_pos e]
      exact LoopT.next (no_short s p h1 e) (no_err s p 3 (by decide))
    · rw [if_neg e]
      by_cases hb : byteAt s p = 0
      · rw [if_pos hb]
        exact LoopT.next (no_step s p h1 (by omega) hs hb) (no_loop s hs q (p + 1) (by omega) (by omega) (by omega))
      · rw [if_neg hb]
        exact LoopT.next (no_bad s p h1 (by omega) hs hb) (no_err s p 2 (by decide))
theorem no_all (s : ByteArray) (r : Nat × Int) (hs : s.size ≤ 65536) (hr : r.1 ≤ s.size) : LoopT C2 noB (noS s r.1 r.2) (.exit 0) (noS s (fuR s r).1 (fuR s r).2) := by
  unfold fuR
  by_cases h : r.2 = 0
  · rw [if_pos h, h]
    exact no_loop s hs (padN r.1) r.1 (by unfold padN; omega) (by unfold padN; omega) hr
  · rw [if_neg h]
    exact no_err s r.1 r.2 h
theorem no_ok (s : ByteArray) (r r' : Nat × Int) (L : LoopT C2 noB (noS s r.1 r.2) (.exit 0) (noS s r'.1 r'.2)) : CallH Tryd.prog G1 56 [.ptr 0 0, .ptr 1 0, .fptr [st s]] [bI r.2, bI r.1] (.tup []) [bI r'.2, bI r'.1] := by
  exact (fnRun_ok (hs := hint [((0,1000), {loop := some ({ ks := [0, 1, 2], l := [0, 1] }, noS s r.fst r.snd, Ex.exit (0 : Nat), noS s r'.fst r'.snd)})]) (ps := [noS s r.fst r.snd = noS s r.fst r.snd, _, true = true, true = true, true = true]) (by kernel_rfl) ⟨rfl, L, rfl, rfl, rfl, trivial⟩).1
theorem fu_ok (s : ByteArray) (r : Nat × Int) (hs : s.size ≤ 65536) (hr : r.1 ≤ s.size) : CallH Tryd.prog G1 56 [.ptr 0 0, .ptr 1 0, .fptr [st s]] [bI r.2, bI r.1] (.tup []) [bI (fuR s r).2, bI (fuR s r).1] := no_ok s r (fuR s r) (no_all s r hs hr)
/-- the first numbers -/
def fxR (o : Int) (zs : List Int) (s : ByteArray) : Nat → Nat × Int
  | 0 => (0, 0)
  | k + 1 => nuR o (nth zs k) s (fxR o zs s k)
def fxV (o : Int) (zs : List Int) (s : ByteArray) : Nat → List Int
  | 0 => []
  | k + 1 => fxV o zs s k ++ [nuV o (nth zs k) s (fxR o zs s k)]
theorem fxV_len (o : Int) (zs : List Int) (s : ByteArray) : ∀ k, (fxV o zs s k).length = k
  | 0 => rfl
  | k + 1 => by rw [fxV, List.length_append, fxV_len o zs s k]; rfl
theorem fxR_le (o : Int) (zs : List Int) (s : ByteArray) : ∀ k, (fxR o zs s k).1 ≤ s.size
  | 0 => Nat.zero_le _
  | k + 1 => nuR_le (fxR_le o zs s k)
noncomputable def byB : Code := loopOf Tryd.prog 57 3
def fNum (s : ByteArray) (o : Int) : AV := .fn (.func 54) [] [.ptr 1 0, .fptr [st s], .ptr 0 0, .fptr [i64 o]]
def fFil (s : ByteArray) : AV := .fn (.func 56) [] [.ptr 1 0, .ptr 0 0, .fptr [st s]]
def byT (o : Int) (f : Fm) (s : ByteArray) (k : Nat) : List AV := mkT 129 [(1, st s), (2, .ptr 0 0), (3, .ptr 1 0), (4, fNum s o), (5, fFil s), (6, .ptr 2 0), (12, .ptr 3 0), (13, .ptr 4 0), (19, slJ f.fixed), (20, i64 f.fixed.length), (21, i64 k)]
def byH (f : Fm) (p : Nat) (e : Int) (vs : List Int) (n : Nat) : List Bk := [bI p, bI e, .arr 3 (fmC f) 0, .arr 3 [.nsl, st ⟨#[]⟩, .nsl] 0, .arr 3 [.osl 5 0 n 1, st ⟨#[]⟩, .sl 0 []] 0, .arr (n * 1) (vs.flatMap eJ) 0]
def byS (o : Int) (f : Fm) (s : ByteArray) (k p : Nat) (e : Int) (vs : List Int) : St := ⟨byT o f s k, byH f p e vs k⟩
theorem by_step (o : Int) (f : Fm) (s : ByteArray) (k p p' : Nat) (e e' v : Int) (vs : List Int) (hv : vs.length = k) (hk : k < f.fixed.length) (hl : f.fixed.length ≤ 16) (hc : CallH Tryd.prog G1 54 [i64 (nth f.fixed k), .ptr 0 0, .fptr [st s], .ptr 1 0, .fptr [i64 o]] [bI e, bI p] (i64 v) [bI e', bI p']) : Tri C2 byB (byS o f s k p e vs) .normal (byS o f s (k + 1) p' e' (vs ++ [v])) := by
  have e1 : vs.flatMap eJ ++ [i64 v] = (vs ++ [v]).flatMap eJ := by rw [List.flatMap_append]; rfl
  exact runF_ok (hs := hint [((3,0), {val := some (bl (true))}), ((4,0), {cells := some (eJ (nth f.fixed k) ++ List.flatMap eJ (List.drop (k + (1 : Nat)) f.fixed)), sym := true}), ((5,4), {sub := some ([1, 0], [false, false], [false, false], (i64 v), [Bk.arr (1 : Nat) [AV.s (Value.int IntKind.i64 e')] (0 : Fz), Bk.arr (1 : Nat) [AV.s (Value.int IntKind.i64 (↑p' : Int))] (0 : Fz)])}), ((5,6), { sym := true, cells := some ((vs ++ [v]).flatMap eJ) }), ((6,0), {val := some (i64 ((↑k : Int) + (1 : Int)))})]) (f := { ks := [1, 2, 3, 4, 5, 6, 12, 13, 19, 20, 21], l := [0, 1, 2, 3, 4, 7], mx := [4] }) (ps := [bl (decide ((↑k : Int) < (↑f.fixed.length : Int))) = bl (true), decide ((0 : Int) ≤ (↑k : Int) ∧ (↑k : Int) < (↑f.fixed.length : Int)) = true, ((List.drop ((↑k : Int).toNat * (1 : Nat)) (List.flatMap eJ f.fixed)) : List AV) = (eJ (nth f.fixed k) ++ List.flatMap eJ (List.drop (k + (1 : Nat)) f.fixed)), _, decide (k * (1 : Nat) = k * (1 : Nat) ∧ (0 : Nat) ≤ k * (1 : Nat) ∧ k * (1 : Nat) = (List.flatMap eJ vs).length) = true, decide ((k + (1 : Nat)) * (8 : Nat) ≤ (140737488355328 : Nat)) = true, true = true, ((List.flatMap eJ vs ++ [AV.s (Value.int IntKind.i64 v)]) : List AV) = (List.flatMap eJ (vs ++ [v])), i64 (IntKind.i64.wrap ((↑k : Int) + (1 : Int))) = i64 ((↑k : Int) + (1 : Int)), true = true, true = true, true = true, true = true, true = true, pureB (Bk.arr ((k + (1 : Nat)) * (1 : Nat)) (List.flatMap eJ (vs ++ [v])) (0 : Fz)) = true]) (by kernel_rfl) ⟨(bdT (by omega)), (by exact decide_t (by omega)), (by exact flat_nth (sz := 1) (k := k) (fun _ => rfl) (by omega)), (hc), (by (first | exact e1.symm | exact decide_t (by omega) | exact decide_t ⟨by omega, by omega, by rw [row_len (sz := 1) (fun _ => rfl)]; omega⟩ | exact decide_t (by rw [row_len (sz := 1) (fun _ => rfl)]; omega))), (by (first | exact e1.symm | exact decide_t (by omega) | exact decide_t ⟨by omega, by omega, by rw [row_len (sz := 1) (fun _ => rfl)]; omega⟩ | exact decide_t (by rw [row_len (sz := 1) (fun _ => rfl)]; omega))), rfl, (by assumption), (intE (by exact wrap_i64 (by omega) (by omega))), rfl, rfl, rfl, rfl, rfl, (by exact row_pureB (fun _ => rfl) _ _ _), trivial⟩
theorem by_end (o : Int) (f : Fm) (s : ByteArray) (p : Nat) (e : Int) (vs : List Int) : LoopT C2 byB (byS o f s f.fixed.length p e vs) (.exit 0) (byS o f s f.fixed.length p e vs) := by
  exact LoopT.fin (hs := hint [((3,0), {val := some (bl (false))})]) (f := { ks := [1, 2, 3, 4, 5, 6, 12, 13, 19, 20, 21], l := [0, 1, 2, 3, 4, 5], mx := [4] }) (ps := [bl (decide ((↑f.fixed.length : Int) < (↑f.fixed.length : Int))) = bl (false), true = true, true = true, true = true, true = true, true = true, pureB (Bk.arr (f.fixed.length * (1 : Nat)) (List.flatMap eJ vs) (0 : Fz)) = true]) (by kernel_rfl) ⟨(bdF (by omega)), rfl, rfl, rfl, rfl, rfl, (by exact row_pureB (fun _ => rfl) _ _ _), trivial⟩ (by decide)
end Go.Proofs.YtcnlgdbmcdlknaaDoor.Fo
