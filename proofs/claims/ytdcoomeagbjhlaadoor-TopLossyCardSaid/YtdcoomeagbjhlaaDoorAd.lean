/- A number put down as bytes, upon plain values. By the prover of this seat. -/
import Derived.Test.YtdcoomeagbjhlaaDoorAc
set_option linter.unusedVariables false
set_option linter.unusedSimpArgs false
set_option maxRecDepth 100000
set_option maxHeartbeats 4000000
namespace Go.Proofs.YtdcoomeagbjhlaaDoor.Or
open Go.RowKit Go.Pm
def s0 : AV := st ⟨#[]⟩
theorem byteV_u8 (v : Int) (j : Nat) : isU8 (byteV v j) = true := by
  simp only [byteV, isU8, IntKind.wrap, IntKind.signed, IntKind.bits]
  simp
  omega
theorem bytesOf_u8 (o : Int) (w : Nat) (v : Int) : (bytesOf o w v).all isU8 = true := by
  simp [bytesOf, byteV_u8]
theorem put_odd (a n v : Int) (h0 : a ≠ 0) (h1 : a ≠ 1) : Pu 18 [i64 a, i64 n, i64 v] (.tup [s0, i64 10]) :=
  pure_of (hs := hint [((1,2), {call := some (.tup [A (spL sp0), i64 10])})]) (ps := [Pu 30 [i64 a, i64 n] (.tup [A (spL sp0), i64 10])]) (by kernel_rfl) ⟨known_odd a n h0 h1, trivial⟩
theorem put_none (a n v : Int) (ha : a = 0 ∨ a = 1) (h : knownD n = none) : Pu 18 [i64 a, i64 n, i64 v] (.tup [s0, i64 17]) :=
  pure_of (hs := hint [((1,2), {call := some (.tup [A (spL sp0), i64 17])})]) (ps := [Pu 30 [i64 a, i64 n] (.tup [A (spL sp0), i64 17])]) (by kernel_rfl) ⟨known_none a n ha h, trivial⟩
theorem put_out (a n v : Int) (s : Span) (ha : a = 0 ∨ a = 1) (h : knownD n = some s) (hv : hasD s v = false) : Pu 18 [i64 a, i64 n, i64 v] (.tup [s0, i64 1]) :=
  pure_of (hs := hint [((1,2), {call := some (.tup [A (spL s), i64 0])}), ((4,2), {call := some (bl false)})]) (ps := [Pu 30 [i64 a, i64 n] (.tup [A (spL s), i64 0]), Pu 31 [A (spL s), i64 v] (bl false)]) (by kernel_rfl) ⟨known_some a n s ha h, hv ▸ has_ok s v, trivial⟩
theorem put_0_1 (n v : Int) (s : Span) (h : knownD n = some s) (hw : s.wide 1) (hv : hasD s v = true) : Pu 18 [i64 0, i64 n, i64 v] (.tup [st (strA (bytesOf 0 1 v)), i64 0]) :=
  pure_of (hs := hint [((1,2), {call := some (.tup [A (spL s), i64 0])}), ((4,2), {call := some (bl true)}), ((6,3), {call := some (.sl 1 (bytesOf 0 1 v)), args := some [A (spL s), .nsl, i64 0, i64 v]}), ((6,4), {sym := true})])
    (ps := [Pu 30 [i64 0, i64 n] (.tup [A (spL s), i64 0]), Pu 31 [A (spL s), i64 v] (bl true), Pu 32 [A (spL s), .nsl, i64 0, i64 v] (.sl 1 (bytesOf 0 1 v)), [A (spL s), .nsl, i64 0, i64 v] = [A (spL s), .nsl, i64 0, i64 v], true = true, (bytesOf 0 1 v).all isU8 = true])
    (by kernel_rfl) ⟨known_some 0 n s (by simp) h, hv ▸ has_ok s v, add_ok s v 0 1 (by simp) (by simp) hw, rfl, rfl, bytesOf_u8 _ _ _, trivial⟩
theorem put_0_2 (n v : Int) (s : Span) (h : knownD n = some s) (hw : s.wide 2) (hv : hasD s v = true) : Pu 18 [i64 0, i64 n, i64 v] (.tup [st (strA (bytesOf 0 2 v)), i64 0]) :=
  pure_of (hs := hint [((1,2), {call := some (.tup [A (spL s), i64 0])}), ((4,2), {call := some (bl true)}), ((6,3), {call := some (.sl 2 (bytesOf 0 2 v)), args := some [A (spL s), .nsl, i64 0, i64 v]}), ((6,4), {sym := true})])
    (ps := [Pu 30 [i64 0, i64 n] (.tup [A (spL s), i64 0]), Pu 31 [A (spL s), i64 v] (bl true), Pu 32 [A (spL s), .nsl, i64 0, i64 v] (.sl 2 (bytesOf 0 2 v)), [A (spL s), .nsl, i64 0, i64 v] = [A (spL s), .nsl, i64 0, i64 v], true = true, (bytesOf 0 2 v).all isU8 = true])
    (by kernel_rfl) ⟨known_some 0 n s (by simp) h, hv ▸ has_ok s v, add_ok s v 0 2 (by simp) (by simp) hw, rfl, rfl, bytesOf_u8 _ _ _, trivial⟩
theorem put_0_4 (n v : Int) (s : Span) (h : knownD n = some s) (hw : s.wide 4) (hv : hasD s v = true) : Pu 18 [i64 0, i64 n, i64 v] (.tup [st (strA (bytesOf 0 4 v)), i64 0]) :=
  pure_of (hs := hint [((1,2), {call := some (.tup [A (spL s), i64 0])}), ((4,2), {call := some (bl true)}), ((6,3), {call := some (.sl 4 (bytesOf 0 4 v)), args := some [A (spL s), .nsl, i64 0, i64 v]}), ((6,4), {sym := true})])
    (ps := [Pu 30 [i64 0, i64 n] (.tup [A (spL s), i64 0]), Pu 31 [A (spL s), i64 v] (bl true), Pu 32 [A (spL s), .nsl, i64 0, i64 v] (.sl 4 (bytesOf 0 4 v)), [A (spL s), .nsl, i64 0, i64 v] = [A (spL s), .nsl, i64 0, i64 v], true = true, (bytesOf 0 4 v).all isU8 = true])
    (by kernel_rfl) ⟨known_some 0 n s (by simp) h, hv ▸ has_ok s v, add_ok s v 0 4 (by simp) (by simp) hw, rfl, rfl, bytesOf_u8 _ _ _, trivial⟩
theorem put_1_1 (n v : Int) (s : Span) (h : knownD n = some s) (hw : s.wide 1) (hv : hasD s v = true) : Pu 18 [i64 1, i64 n, i64 v] (.tup [st (strA (bytesOf 1 1 v)), i64 0]) :=
  pure_of (hs := hint [((1,2), {call := some (.tup [A (spL s), i64 0])}), ((4,2), {call := some (bl true)}), ((6,3), {call := some (.sl 1 (bytesOf 1 1 v)), args := some [A (spL s), .nsl, i64 1, i64 v]}), ((6,4), {sym := true})])
    (ps := [Pu 30 [i64 1, i64 n] (.tup [A (spL s), i64 0]), Pu 31 [A (spL s), i64 v] (bl true), Pu 32 [A (spL s), .nsl, i64 1, i64 v] (.sl 1 (bytesOf 1 1 v)), [A (spL s), .nsl, i64 1, i64 v] = [A (spL s), .nsl, i64 1, i64 v], true = true, (bytesOf 1 1 v).all isU8 = true])
    (by kernel_rfl) ⟨known_some 1 n s (by simp) h, hv ▸ has_ok s v, add_ok s v 1 1 (by simp) (by simp) hw, rfl, rfl, bytesOf_u8 _ _ _, trivial⟩
theorem put_1_2 (n v : Int) (s : Span) (h : knownD n = some s) (hw : s.wide 2) (hv : hasD s v = true) : Pu 18 [i64 1, i64 n, i64 v] (.tup [st (strA (bytesOf 1 2 v)), i64 0]) :=
  pure_of (hs := hint [((1,2), {call := some (.tup [A (spL s), i64 0])}), ((4,2), {call := some (bl true)}), ((6,3), {call := some (.sl 2 (bytesOf 1 2 v)), args := some [A (spL s), .nsl, i64 1, i64 v]}), ((6,4), {sym := true})])
    (ps := [Pu 30 [i64 1, i64 n] (.tup [A (spL s), i64 0]), Pu 31 [A (spL s), i64 v] (bl true), Pu 32 [A (spL s), .nsl, i64 1, i64 v] (.sl 2 (bytesOf 1 2 v)), [A (spL s), .nsl, i64 1, i64 v] = [A (spL s), .nsl, i64 1, i64 v], true = true, (bytesOf 1 2 v).all isU8 = true])
    (by kernel_rfl) ⟨known_some 1 n s (by simp) h, hv ▸ has_ok s v, add_ok s v 1 2 (by simp) (by simp) hw, rfl, rfl, bytesOf_u8 _ _ _, trivial⟩
theorem put_1_4 (n v : Int) (s : Span) (h : knownD n = some s) (hw : s.wide 4) (hv : hasD s v = true) : Pu 18 [i64 1, i64 n, i64 v] (.tup [st (strA (bytesOf 1 4 v)), i64 0]) :=
  pure_of (hs := hint [((1,2), {call := some (.tup [A (spL s), i64 0])}), ((4,2), {call := some (bl true)}), ((6,3), {call := some (.sl 4 (bytesOf 1 4 v)), args := some [A (spL s), .nsl, i64 1, i64 v]}), ((6,4), {sym := true})])
    (ps := [Pu 30 [i64 1, i64 n] (.tup [A (spL s), i64 0]), Pu 31 [A (spL s), i64 v] (bl true), Pu 32 [A (spL s), .nsl, i64 1, i64 v] (.sl 4 (bytesOf 1 4 v)), [A (spL s), .nsl, i64 1, i64 v] = [A (spL s), .nsl, i64 1, i64 v], true = true, (bytesOf 1 4 v).all isU8 = true])
    (by kernel_rfl) ⟨known_some 1 n s (by simp) h, hv ▸ has_ok s v, add_ok s v 1 4 (by simp) (by simp) hw, rfl, rfl, bytesOf_u8 _ _ _, trivial⟩
theorem put_ok (a n v : Int) (s : Span) (w : Nat) (ha : a = 0 ∨ a = 1) (h : knownD n = some s) (h3 : w = 1 ∨ w = 2 ∨ w = 4) (hw : s.wide w) (hv : hasD s v = true) : Pu 18 [i64 a, i64 n, i64 v] (.tup [st (strA (bytesOf a w v)), i64 0]) := by
  rcases ha with rfl | rfl <;> rcases h3 with rfl | rfl | rfl
  · exact put_0_1 n v s h hw hv
  · exact put_0_2 n v s h hw hv
  · exact put_0_4 n v s h hw hv
  · exact put_1_1 n v s h hw hv
  · exact put_1_2 n v s h hw hv
  · exact put_1_4 n v s h hw hv
theorem known_wide {n : Int} {s : Span} (h : knownD n = some s) : ∃ w : Nat, (w = 1 ∨ w = 2 ∨ w = 4) ∧ s.wide w ∧ s.size = n := by
  unfold knownD at h
  split at h
  · cases h; exact ⟨1, by simp, .inl rfl, by simp [*]⟩
  · split at h
    · cases h; exact ⟨2, by simp, .inl rfl, by simp [*]⟩
    · split at h
      · cases h; exact ⟨4, by simp, .inl rfl, by simp [*]⟩
      · split at h
        · cases h; exact ⟨1, by simp, .inr rfl, by simp [*]⟩
        · split at h
          · cases h; exact ⟨2, by simp, .inr rfl, by simp [*]⟩
          · split at h
            · cases h; exact ⟨4, by simp, .inr rfl, by simp [*]⟩
            · cases h
/-! the padding -/
def padD (n : Int) : Int := if n < 0 then 0 else (4 - n.tmod 4).tmod 4
end Go.Proofs.YtdcoomeagbjhlaaDoor.Or
