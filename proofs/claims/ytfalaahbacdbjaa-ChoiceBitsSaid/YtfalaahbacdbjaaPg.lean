/- Bits of masks; ref.has, isMask, Same, has. By the prover of this seat. -/
import Derived.Test.YtfalaahbacdbjaaPf
set_option linter.unusedVariables false
set_option linter.unusedSimpArgs false
set_option maxRecDepth 100000
set_option maxHeartbeats 4000000
namespace Go.Proofs.Ytfalaahbacdbjaa
open Go.RowKit Go.Pm
noncomputable def G1 : Nat → Option (List AV) := fun _ => none
noncomputable def C0 : Cx := ⟨Try.prog, G1, 0⟩
abbrev Pu (f : FuncId) (args : List AV) (r : AV) : Prop := Pure Try.prog G1 f args r []
/-- & of two numbers -/
def andI (a b : Int) : Int := IntKind.i64.wrap ((BitVec.ofInt 64 a &&& BitVec.ofInt 64 b).toNat : Int)
theorem mask13 (x : Nat) : x &&& 8191 = x % 8192 := Nat.and_two_pow_sub_one_eq_mod x 13
theorem andI_mask (a : Int) : andI a 8191 = a % 8192 := by
  unfold andI
  rw [BitVec.toNat_and, BitVec.toNat_ofInt, BitVec.toNat_ofInt, show ((8191 : Int) % (2 ^ 64 : Nat)).toNat = 8191 by decide, mask13]
  rw [wrap_i64 (by omega) (by omega)]
  omega
theorem andI_nat (a b : Nat) (ha : a ≤ 8191) (hb : b < 2 ^ 64) : andI a b = ((a &&& b : Nat) : Int) := by
  have h1 : a &&& b ≤ a := Nat.and_le_left
  unfold andI
  rw [BitVec.toNat_and, BitVec.toNat_ofInt, BitVec.toNat_ofInt, show ((a : Int) % (2 ^ 64 : Nat)).toNat = a by omega, show ((b : Int) % (2 ^ 64 : Nat)).toNat = b by omega]
  rw [wrap_i64 (by omega) (by omega)]
/-! has, by the document -/
def bitN (a i : Nat) : Bool := decide (a / 2 ^ i % 2 = 1)
def hasN (a b : Nat) : Bool := (List.range 13).any fun i => bitN a i && bitN b i
theorem bit_test (a i : Nat) : bitN a i = a.testBit i := by unfold bitN; rw [Nat.testBit_eq_decide_div_mod_eq]
theorem bit_lt {a i : Nat} (ha : a < 8192) (hi : 13 ≤ i) : a.testBit i = false := Nat.testBit_lt_two_pow (Nat.lt_of_lt_of_le ha (by rw [show 8192 = 2 ^ 13 from rfl]; exact Nat.pow_le_pow_right (by omega) hi))
theorem and_bits (a b : Nat) : (a &&& b) ≠ 0 ↔ ∃ i, a.testBit i = true ∧ b.testBit i = true := by
  constructor
  · intro h
    refine Classical.byContradiction fun q => h (Nat.eq_of_testBit_eq fun i => ?_)
    rw [Nat.testBit_and, Nat.zero_testBit]
    cases h1 : a.testBit i with
    | false => rfl
    | true =>
      cases h2 : b.testBit i with
      | false => rfl
      | true => exact absurd ⟨i, h1, h2⟩ q
  · rintro ⟨i, h1, h2⟩ h
    have : (a &&& b).testBit i = true := by rw [Nat.testBit_and, h1, h2]; rfl
    rw [h] at this
    simp at this
theorem hasN_eq (a b : Nat) (ha : a < 8192) : hasN a b = decide ((a &&& b) ≠ 0) := by
  unfold hasN
  by_cases h : (a &&& b) ≠ 0
  · rw [decide_eq_true h]
    obtain ⟨i, h1, h2⟩ := (and_bits a b).1 h
    have hi : i < 13 := by
      rcases Nat.lt_or_ge i 13 with q | q
      · exact q
      · rw [bit_lt ha q] at h1; cases h1
    exact List.any_eq_true.2 ⟨i, List.mem_range.2 hi, by rw [bit_test, bit_test, h1, h2]; rfl⟩
  · rw [decide_eq_false h]
    refine List.any_eq_false.2 fun i hi q => h ((and_bits a b).2 ⟨i, ?_⟩)
    rw [bit_test, bit_test, Bool.and_eq_true] at q
    exact q
noncomputable def hsB : Code := loopOf Try.prog 27 2
def hsS (a b k : Nat) : St := ⟨mkT 22 [(0, i64 ((a / 2 ^ k : Nat) : Int)), (1, i64 ((b / 2 ^ k : Nat) : Int)), (5, i64 k)], []⟩
def hsH : St := ⟨mkT 22 [(4, bl true)], []⟩
theorem mod2 (a k : Nat) : ((a / 2 ^ k : Nat) : Int).tmod 2 = ((a / 2 ^ k % 2 : Nat) : Int) := by
  generalize a / 2 ^ k = n
  rw [Int.tmod_eq_emod_of_nonneg (by omega)]; omega
theorem quo2 (a k : Nat) (ha : a < 8192) : IntKind.i64.wrap (((a / 2 ^ k : Nat) : Int).tdiv 2) = ((a / 2 ^ (k + 1) : Nat) : Int) := by
  have h : a / 2 ^ k ≤ a := Nat.div_le_self _ _
  rw [Nat.pow_succ, ← Nat.div_div_eq_div_mul]
  generalize a / 2 ^ k = n at h ⊢
  rw [Int.tdiv_eq_ediv_of_nonneg (by omega)]
  rw [wrap_i64 (by omega) (by omega)]
  omega
theorem hs_go (a b k : Nat) (x y x' y' : Int) (p q : Int) (hk : k < 13) (h1 : x.tmod 2 = p) (h2 : y.tmod 2 = q) (h3 : IntKind.i64.wrap (x.tdiv 2) = x') (h4 : IntKind.i64.wrap (y.tdiv 2) = y') (h : ¬ (p = 1 ∧ q = 1)) : Tri C0 hsB ⟨mkT 22 [(0, i64 x), (1, i64 y), (5, i64 k)], []⟩ .normal ⟨mkT 22 [(0, i64 x'), (1, i64 y'), (5, i64 (k + 1))], []⟩ := by
  by_cases h5 : p = (1 : Int)
  · exact runF_ok (hs := hint [((2,1), {val := some (bl (true))}), ((4,1), { val := some (i64 p) }), ((4,3), {val := some (bl (true))}), ((4,5), { val := some (i64 q) }), ((4,7), {val := some (bl (false))}), ((6,1), { val := some (i64 x') }), ((6,3), { val := some (i64 y') }), ((3,1), {val := some (i64 ((↑k : Int) + (1 : Int)))})]) (f := { ks := [0, 1, 5] }) (ps := [bl (decide ((↑k : Int) < (13 : Int))) = bl (true), i64 (x.tmod (2 : Int)) = i64 (p), bl (p == (1 : Int)) = bl (true), i64 (y.tmod (2 : Int)) = i64 (q), bl (q == (1 : Int)) = bl (false), i64 (IntKind.i64.wrap (x.tdiv (2 : Int))) = i64 (x'), i64 (IntKind.i64.wrap (y.tdiv (2 : Int))) = i64 (y'), i64 (IntKind.i64.wrap ((↑k : Int) + (1 : Int))) = i64 ((↑k : Int) + (1 : Int)), true = true]) (by kernel_rfl) ⟨(bdT (by omega)), (by exact intE h1), (beT h5), (by exact intE h2), (beF (by omega)), (by exact intE h3), (by exact intE h4), (intE (by exact wrap_i64 (by omega) (by omega))), rfl, trivial⟩
  · exact runF_ok (hs := hint [((2,1), {val := some (bl (true))}), ((4,1), { val := some (i64 p) }), ((4,3), {val := some (bl (false))}), ((6,1), { val := some (i64 x') }), ((6,3), { val := some (i64 y') }), ((3,1), {val := some (i64 ((↑k : Int) + (1 : Int)))})]) (f := { ks := [0, 1, 5] }) (ps := [bl (decide ((↑k : Int) < (13 : Int))) = bl (true), i64 (x.tmod (2 : Int)) = i64 (p), bl (p == (1 : Int)) = bl (false), i64 (IntKind.i64.wrap (x.tdiv (2 : Int))) = i64 (x'), i64 (IntKind.i64.wrap (y.tdiv (2 : Int))) = i64 (y'), i64 (IntKind.i64.wrap ((↑k : Int) + (1 : Int))) = i64 ((↑k : Int) + (1 : Int)), true = true]) (by kernel_rfl) ⟨(bdT (by omega)), (by exact intE h1), (beF h5), (by exact intE h3), (by exact intE h4), (intE (by exact wrap_i64 (by omega) (by omega))), rfl, trivial⟩
theorem hs_hitg (k : Nat) (x y : Int) (p q : Int) (hk : k < 13) (h1 : x.tmod 2 = p) (h2 : y.tmod 2 = q) (hp : p = 1) (hq : q = 1) : LoopT C0 hsB ⟨mkT 22 [(0, i64 x), (1, i64 y), (5, i64 k)], []⟩ .ret hsH := by
  exact LoopT.fin (hs := hint [((2,1), {val := some (bl (true))}), ((4,1), { val := some (i64 p) }), ((4,3), {val := some (bl (true))}), ((4,5), { val := some (i64 q) }), ((4,7), {val := some (bl (true))})]) (f := { ks := [4] }) (ps := [bl (decide ((↑k : Int) < (13 : Int))) = bl (true), i64 (x.tmod (2 : Int)) = i64 (p), bl (p == (1 : Int)) = bl (true), i64 (y.tmod (2 : Int)) = i64 (q), bl (q == (1 : Int)) = bl (true), true = true]) (by kernel_rfl) ⟨(bdT (by omega)), (by exact intE h1), (beT (by assumption)), (by exact intE h2), (beT (by assumption)), rfl, trivial⟩ (by decide)
theorem hs_end (x y : Int) : LoopT C0 hsB ⟨mkT 22 [(0, i64 x), (1, i64 y), (5, i64 13)], []⟩ (.exit 0) ⟨mkT 22 [(0, i64 x), (1, i64 y), (5, i64 13)], []⟩ := by
  exact LoopT.fin (hs := hint []) (f := { ks := [0, 1, 5] }) (ps := [true = true]) (by kernel_rfl) ⟨rfl, trivial⟩ (by decide)
theorem nth_range (n k : Nat) (h : k < n) : nth (List.range n) k = k := by rw [nth_eq (by rw [List.length_range]; exact h), List.getElem_range]
theorem bit_int (a k : Nat) : bitN a k = true ↔ ((a / 2 ^ k % 2 : Nat) : Int) = 1 := by unfold bitN; rw [decide_eq_true_eq]; omega
theorem has_ok (a b : Nat) (ha : a < 8192) (hb : b < 8192) : Pu 27 [i64 a, i64 b] (bl (hasN a b)) := by
  unfold hasN
  rw [← idx_isSome]
  have e0 : ∀ c : Nat, ((c / 2 ^ 0 : Nat) : Int) = c := fun c => by rw [Nat.pow_zero, Nat.div_one]
  cases h : idxD (fun i => bitN a i && bitN b i) (List.range 13) with
  | some m =>
    obtain ⟨h1, h2, h3⟩ := idx_some h
    rw [List.length_range] at h1
    rw [nth_range 13 m h1, Bool.and_eq_true] at h2
    have L := LoopT.count (hsS a b) m (fun k hk => by
      have := h3 k hk
      rw [nth_range 13 k (by omega), Bool.and_eq_true, bit_int, bit_int] at this
      exact hs_go a b k _ _ _ _ _ _ (by omega) (mod2 a k) (mod2 b k) (quo2 a k ha) (quo2 b k hb) this) (hs_hitg m _ _ _ _ h1 (mod2 a m) (mod2 b m) ((bit_int a m).1 h2.1) ((bit_int b m).1 h2.2)) 0 (by omega)
    unfold hsS at L
    rw [e0, e0] at L
    exact pure_of (hs := hint [((2,1000), {loop := some ({ ks := [0, 1, 5] }, { t := mkT (22 : Nat) [((0 : Nat), i64 (↑a : Int)), ((1 : Nat), i64 (↑b : Int)), ((5 : Nat), i64 (↑(0 : Nat) : Int))], h := [] : St }, Ex.ret, hsH)})]) (ps := [{ t := mkT (22 : Nat) [((0 : Nat), i64 (↑a : Int)), ((1 : Nat), i64 (↑b : Int)), ((5 : Nat), i64 (↑(0 : Nat) : Int))], h := [] : St } = { t := mkT (22 : Nat) [((0 : Nat), i64 (↑a : Int)), ((1 : Nat), i64 (↑b : Int)), ((5 : Nat), i64 (↑(0 : Nat) : Int))], h := [] : St }, _, true = true]) (by kernel_rfl) ⟨rfl, L, rfl, trivial⟩
  | none =>
    have h3 := idx_none h
    have L := LoopT.count (hsS a b) 13 (fun k hk => by
      have := h3 k (by rw [List.length_range]; omega)
      rw [nth_range 13 k (by omega), Bool.and_eq_true, bit_int, bit_int] at this
      exact hs_go a b k _ _ _ _ _ _ (by omega) (mod2 a k) (mod2 b k) (quo2 a k ha) (quo2 b k hb) this) (hs_end _ _) 0 (by omega)
    unfold hsS at L
    rw [e0, e0] at L
    exact pure_of (hs := hint [((2,1000), {loop := some ({ ks := [0, 1, 5] }, { t := mkT (22 : Nat) [((0 : Nat), i64 (↑a : Int)), ((1 : Nat), i64 (↑b : Int)), ((5 : Nat), i64 (↑(0 : Nat) : Int))], h := [] : St }, Ex.exit (0 : Nat), { t := mkT (22 : Nat) [((0 : Nat), i64 (↑(a / (2 : Nat) ^ (13 : Nat)) : Int)), ((1 : Nat), i64 (↑(b / (2 : Nat) ^ (13 : Nat)) : Int)), ((5 : Nat), i64 (13 : Int))], h := [] : St })})]) (ps := [{ t := mkT (22 : Nat) [((0 : Nat), i64 (↑a : Int)), ((1 : Nat), i64 (↑b : Int)), ((5 : Nat), i64 (↑(0 : Nat) : Int))], h := [] : St } = { t := mkT (22 : Nat) [((0 : Nat), i64 (↑a : Int)), ((1 : Nat), i64 (↑b : Int)), ((5 : Nat), i64 (↑(0 : Nat) : Int))], h := [] : St }, _, true = true]) (by kernel_rfl) ⟨rfl, L, rfl, trivial⟩
theorem ismask_ok (m : Int) : Pu 29 [i64 m] (bl (decide (0 ≤ m ∧ m ≤ 8191))) := by
  by_cases h : 0 ≤ m ∧ m ≤ 8191
  · rw [decide_eq_true h]
    exact pure_cast (pure_of (hs := hint [((1,2), {val := some (bl (true))})]) (r := bl (decide (m ≤ (8191 : Int)))) (ps := [bl (decide (m ≥ (0 : Int))) = bl (true)]) (by kernel_rfl) ⟨(bdT (by omega)), trivial⟩) (by (simp; omega))
  · rw [decide_eq_false h]
    by_cases h1 : m ≥ (0 : Int)
    · exact pure_cast (pure_of (hs := hint [((1,2), {val := some (bl (true))})]) (r := bl (decide (m ≤ (8191 : Int)))) (ps := [bl (decide (m ≥ (0 : Int))) = bl (true)]) (by kernel_rfl) ⟨(bdT h1), trivial⟩) (by (simp; omega))
    · exact pure_of (hs := hint [((1,2), {val := some (bl (false))})]) (ps := [bl (decide (m ≥ (0 : Int))) = bl (false)]) (by kernel_rfl) ⟨(bdF h1), trivial⟩
end Go.Proofs.Ytfalaahbacdbjaa
