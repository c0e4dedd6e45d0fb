/- What a request of bytes is; its item. By the prover of this seat. -/
import Derived.Test.YtcnlgdbmcdlknaaDoorZa
set_option linter.unusedVariables false
set_option linter.unusedSimpArgs false
set_option maxRecDepth 100000
set_option maxHeartbeats 4000000
namespace Go.Proofs.YtcnlgdbmcdlknaaDoor.Fo
open Go.RowKit Go.Pm
def getD2 (o : Int) (f : Fm) (s : ByteArray) (c : Int) : Rq × Int := if ¬ (getF o f s).2 = 0 then (nilR, (getF o f s).2) else (⟨c, (getF o f s).1.N, (getF o f s).1.B, (getF o f s).1.L⟩, 0)
def packD (o : Int) (s : ByteArray) : Rq × Int :=
  if ¬ (1 ≤ byteAt s 0 ∧ byteAt s 0 ≤ 58) then (nilR, 10) else if ¬ byteAt s 1 = 0 then (nilR, 2) else getD2 o (reqF (byteAt s 0).toNat) (s.extract 4 s.size) (byteAt s 0)
def fltD (e : Int) : Int := if e = 0 then 0 else if e = 10 then 1 else 16
theorem req_mono {c : Int} {f : Fm} {k : Bool} (h : PS 8 [i64 c] (.tup [fmA f, bl k])) : Pu 8 [i64 c] (.tup [fmA f, bl k]) := callH_mono (fun g cs e => by
  unfold GS at e
  unfold G1
  split at e
  · rename_i h1; rw [if_pos h1]; exact e
  · cases e) h
theorem byte_bd (s : ByteArray) (i : Nat) : 0 ≤ byteAt s i ∧ byteAt s i ≤ 255 := by
  have := (s.data.toList.getD i 0).toNat_lt
  unfold byteAt
  omega
/-- a request that says how long it is -/
structure Frm (o : Int) (s : ByteArray) (v : Int) : Prop where
  ord : o = 0 ∨ o = 1
  v1 : 1 ≤ v
  v2 : v ≤ 100
  size : (s.size : Int) = 4 * v
  get : getD o 2 (s.extract 2 4) = (v, 0)
theorem getF_len (o : Int) (f : Fm) (s : ByteArray) : (getF o f s).1.N.length ≤ 100 ∧ (getF o f s).1.L.length ≤ 65536 := by
  unfold getF
  by_cases k0 : knoD o f = 0
  · rw [if_neg (fun q => q k0)]
    obtain ⟨ho, h16, hz, hlz⟩ := kno_zero k0
    by_cases h1 : s.size > 65536
    · rw [if_pos h1]; simp [nilF]
    · rw [if_neg h1]
      unfold finD
      by_cases h2 : ¬ (bodD o f s).2.2 = 0
      · rw [if_pos h2]; simp [nilF]
      · rw [if_neg h2]
        by_cases h3 : (bodD o f s).2.1 < s.size
        · rw [if_pos h3]; simp [nilF]
        · rw [if_neg h3]
          unfold bodD
          by_cases h4 : (txR o f s (r1D o f s)).2.2 = true
          · rw [if_pos h4]
            exact ⟨by show (fxV o f.fixed s f.fixed.length).length ≤ 100; rw [fxV_len]; omega, by simp⟩
          · rw [if_neg h4]
            refine ⟨by show (fxV o f.fixed s f.fixed.length).length ≤ 100; rw [fxV_len]; omega, ?_⟩
            show (lsR o f s (txR o f s (r1D o f s)).2.1).1.length ≤ 65536
            generalize (txR o f s (r1D o f s)).2.1 = r
            unfold lsR
            by_cases h5 : f.list = 0
            · rw [if_pos h5]; simp
            · rw [if_neg h5]
              have hwl := wd_le (hlz.resolve_left h5)
              by_cases h6 : ¬ (nuR o 4 s r).2 = 0
              · rw [if_pos h6]; simp
              · rw [if_neg h6]
                by_cases h7 : s.size < (nuR o 4 s r).1 + (nuV o 4 s r).toNat * wdD f.list
                · rw [if_pos h7]; simp
                · rw [if_neg h7]
                  show (liV o f.list s (nuR o 4 s r).1 (nuV o 4 s r).toNat).length ≤ 65536
                  rw [liV_len]
                  have := Nat.mul_le_mul_left (nuV o 4 s r).toNat hwl.1
                  omega
  · rw [if_pos k0]; simp [nilF]
theorem packD_len (o : Int) (s : ByteArray) : (packD o s).1.n.length ≤ 1000000 ∧ (packD o s).1.l.length ≤ 1000000 := by
  unfold packD
  split
  · simp [nilR]
  · split
    · simp [nilR]
    · unfold getD2
      split
      · simp [nilR]
      · have := getF_len o (reqF (byteAt s 0).toNat) (s.extract 4 s.size)
        exact ⟨by show List.length (getF _ _ _).1.N ≤ _; omega, by show List.length (getF _ _ _).1.L ≤ _; omega⟩
theorem packD_e {o : Int} {s : ByteArray} (h : ¬ (packD o s).2 = 0) : (packD o s).1 = nilR := by
  revert h
  unfold packD
  split
  · intro _; rfl
  · split
    · intro _; rfl
    · unfold getD2
      split
      · intro _; rfl
      · intro h; exact absurd rfl h
theorem packD_c {o : Int} {s : ByteArray} (h : (packD o s).2 = 0) : (packD o s).1.c = byteAt s 0 := by
  revert h
  unfold packD
  split
  · intro h; exact absurd h (by decide)
  · split
    · intro h; exact absurd h (by decide)
    · unfold getD2
      split
      · rename_i h2; intro h; exact absurd h h2
      · intro _; rfl
theorem flen_ok {o v : Int} {s : ByteArray} (h : Frm o s v) : Pu 36 [i64 o, st s] (.tup [i64 (4 * v), i64 0]) := by
  have h1 := h.v1
  have h2 := h.v2
  have h3 := h.size
  have hg := get_all o 2 (s.extract 2 4)
  rw [h.get] at hg
  exact len_ok o v s h.ord (by omega) (by omega) (by omega) (by omega) (by omega) hg
theorem pack_ok {o v : Int} {s : ByteArray} (h : Frm o s v) : Pu 18 [i64 o, st s] (.tup [rqA (packD o s).1, i64 (packD o s).2]) := by
  have h1 := h.v1
  have h2 := h.v2
  have h3 := h.size
  have hl := flen_ok h
  have b0 := byte_bd s 0
  have b1 := byte_bd s 1
  unfold packD
  by_cases hc : 1 ≤ byteAt s 0 ∧ byteAt s 0 ≤ 58
  · rw [if_neg (fun q => q hc)]
    obtain ⟨n, hn⟩ : ∃ n : Nat, byteAt s 0 = n := ⟨(byteAt s 0).toNat, by omega⟩
    have hr := req_mono (request_in n (by omega) (by omega))
    rw [← hn] at hr
    have en : (byteAt s 0).toNat = n := by omega
    rw [en]
    by_cases hz : byteAt s 1 = 0
    · rw [if_neg (fun q => q hz)]
      have hg := pget_ok o (reqF n) (s.extract 4 s.size)
      unfold getD2
      by_cases he : (getF o (reqF n) (s.extract 4 s.size)).2 = 0
      · rw [if_neg (fun q => q he)]
        unfold getFR at hg
        rw [he] at hg
        exact get_4 o (4 * v) s _ h.ord (by omega) (by omega) rfl b0.1 b0.2 _ hr hl h3 hz _ hg
      · rw [if_pos he]
        exact get_3 o (4 * v) s _ h.ord (by omega) (by omega) rfl b0.1 b0.2 _ hr hl h3 hz _ _ he hg
    · rw [if_pos hz]
      exact get_2 o (4 * v) s _ h.ord (by omega) (by omega) rfl b0.1 b0.2 _ hr hl h3 _ rfl hz b1.1 b1.2
  · rw [if_pos hc]
    exact get_1 o s _ h.ord (by omega) (by omega) rfl b0.1 b0.2 _ (req_mono (request_out _ (by omega)))
theorem item_ok {o v : Int} {s : ByteArray} (h : Frm o s v) : Pu 34 [i64 o, st s] (itA (packD o s).1 (fltD (packD o s).2) (byteAt s 0)) := by
  have h1 := h.v1
  have h2 := h.v2
  have h3 := h.size
  have hp := pack_ok h
  have b0 := byte_bd s 0
  by_cases he : (packD o s).2 = 0
  · have hc := packD_c he
    rw [he] at hp ⊢
    have := item_0 o s _ hp
    rw [hc] at this
    exact this
  · have hr := packD_e he
    unfold fltD
    rw [if_neg he]
    by_cases h10 : (packD o s).2 = 10
    · rw [if_pos h10, hr]
      rw [h10] at hp
      exact item_1 o _ s _ (by omega) (by omega) rfl b0.1 b0.2 hp
    · rw [if_neg h10, hr]
      exact item_2 o _ _ s _ (by omega) (by omega) rfl b0.1 b0.2 he h10 hp
theorem psame_ok (o : Int) (s : ByteArray) : Pu 19 [rqA (packD o s).1, rqA (packD o s).1] (bl true) := same_ok _ (packD_len o s).1 (packD_len o s).2
end Go.Proofs.YtcnlgdbmcdlknaaDoor.Fo
