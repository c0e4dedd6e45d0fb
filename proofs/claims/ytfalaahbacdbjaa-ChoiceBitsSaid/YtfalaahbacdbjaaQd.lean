/- Bits. By the prover of this seat. -/
import Derived.Test.YtfalaahbacdbjaaQc
set_option linter.unusedVariables false
set_option linter.unusedSimpArgs false
set_option maxRecDepth 100000
set_option maxHeartbeats 4000000
namespace Go.Proofs.Ytfalaahbacdbjaa
open Go.RowKit Go.Pm
/-- | of two numbers -/
def orI (a b : Int) : Int := IntKind.i64.wrap ((BitVec.ofInt 64 a ||| BitVec.ofInt 64 b).toNat : Int)
theorem or_lt {a b : Nat} (ha : a < 8192) (hb : b < 8192) : a ||| b < 8192 := Nat.or_lt_two_pow (n := 13) ha hb
theorem orI_nat (a b : Nat) (ha : a < 8192) (hb : b < 8192) : orI a b = ((a ||| b : Nat) : Int) := by
  have h1 : a ||| b < 8192 := or_lt ha hb
  unfold orI
  rw [BitVec.toNat_or, BitVec.toNat_ofInt, BitVec.toNat_ofInt, show ((a : Int) % (2 ^ 64 : Nat)).toNat = a by omega, show ((b : Int) % (2 ^ 64 : Nat)).toNat = b by omega]
  rw [wrap_i64 (by omega) (by omega)]
theorem has_or (v a b : Nat) : hasN v (a ||| b) = (hasN v a || hasN v b) := by
  unfold hasN
  induction List.range 13 with
  | nil => rfl
  | cons i l ih =>
    rw [List.any_cons, List.any_cons, List.any_cons, ih, bit_test, bit_test, bit_test, bit_test, Nat.testBit_or]
    cases v.testBit i <;> cases a.testBit i <;> cases b.testBit i <;> simp
theorem has_zero (v : Nat) : hasN v 0 = false := by
  unfold hasN
  refine List.any_eq_false.2 fun i _ q => ?_
  rw [bit_test, bit_test, Nat.zero_testBit, Bool.and_false] at q
  cases q
theorem mem_who {l : List Row} {id : Int} {n : Nat} {k : Int} (h1 : 1 ≤ k) (h2 : k ≤ 8) : decide (k ∈ whoR l id n) = hasN (maskR l k id) n := by
  unfold whoR
  cases hh : hasN (maskR l k id) n with
  | true => exact decide_eq_true (List.mem_filter.2 ⟨k8_mem' h1 h2, hh⟩)
  | false => exact decide_eq_false fun q => by have := (List.mem_filter.1 q).2; unfold whoP at this; rw [hh] at this; cases this
theorem who_zero (l : List Row) (id : Int) : whoR l id 0 = [] := List.filter_eq_nil_iff.2 fun k _ q => by unfold whoP at q; rw [has_zero] at q; cases q
/-- how many of the first k clients are among some -/
def cntW (w : List Int) (k : Nat) : Nat := ((k8.take k).filter fun x => decide (x ∈ w)).length
theorem cnt_succ (w : List Int) (k : Nat) (hk : k < 8) : cntW w (k + 1) = cntW w k + if (k : Int) + 1 ∈ w then 1 else 0 := by
  unfold cntW
  rw [take_nthA (show k < k8.length from hk), List.filter_append, List.length_append, k8_nth k hk, List.filter_cons]
  split
  · rename_i h; rw [if_pos (by simpa using h)]; rfl
  · rename_i h; rw [if_neg (by simpa using h)]; rfl
theorem cnt_le (w : List Int) (k : Nat) : cntW w k ≤ 8 := Nat.le_trans (List.length_filter_le _ _) (by
  rw [List.length_take]; exact Nat.min_le_right _ _)
theorem cnt_all (l : List Row) (id : Int) (n : Nat) : cntW (whoR l id n) 8 = (whoR l id n).length := by
  unfold cntW
  rw [show k8.take 8 = k8 from rfl]
  unfold whoR
  congr 1
  refine List.filter_congr fun x hx => ?_
  cases hh : whoP l id n x with
  | true => exact decide_eq_true (List.mem_filter.2 ⟨hx, hh⟩)
  | false => exact decide_eq_false fun q => by have := (List.mem_filter.1 q).2; rw [hh] at this; cases this
theorem shl_val (k : Nat) (hk : k < 13) : IntKind.i64.wrap (1 * 2 ^ min ((k : Int)).toNat IntKind.i64.bits) = ((2 ^ k : Nat) : Int) := by
  match k, hk with
  | 0, _ => rfl
  | 1, _ => rfl
  | 2, _ => rfl
  | 3, _ => rfl
  | 4, _ => rfl
  | 5, _ => rfl
  | 6, _ => rfl
  | 7, _ => rfl
  | 8, _ => rfl
  | 9, _ => rfl
  | 10, _ => rfl
  | 11, _ => rfl
  | 12, _ => rfl
theorem shr_val (m k : Nat) (hk : k < 13) : (m : Int).fdiv (2 ^ min ((k : Int)).toNat IntKind.i64.bits) = ((m / 2 ^ k : Nat) : Int) := by
  rw [show min ((k : Int)).toNat IntKind.i64.bits = k by show min ((k : Int)).toNat 64 = k; omega]
  rw [show ((2 : Int) ^ k) = ((2 ^ k : Nat) : Int) by simp]
  rw [Int.fdiv_eq_ediv_of_nonneg _ (Int.natCast_nonneg _)]
  rfl
theorem and_one (v : Nat) (hv : v ≤ 65535) : andI v 1 = ((v % 2 : Nat) : Int) := by
  unfold andI
  rw [BitVec.toNat_and, BitVec.toNat_ofInt, BitVec.toNat_ofInt, show ((v : Int) % (2 ^ 64 : Nat)).toNat = v by omega, show ((1 : Int) % (2 ^ 64 : Nat)).toNat = 1 by decide, Nat.and_one_is_mod]
  rw [wrap_i64 (by omega) (by omega)]
noncomputable def biB : Code := loopOf Try.prog 5 10
def biS (id c m : Int) (l : List Row) (w0 w1 w2 : List Int) (k n : Nat) : St := ⟨mkT 118 [(1, u32 id), (4, i64 c), (5, u16 m), (13, .ptr 0 0), (18, slJ w0), (19, slJ w1), (20, slJ w2), (21, i64 n), (22, i64 ((k : Int) + 1))], [boxA l]⟩
theorem bi_1 (id c m : Int) (l : List Row) (w0 w1 w2 : List Int) (k n : Nat) (hk : k < 8) (hn : n ≤ 8) (h1 : Pu 16 [slJ w1, i64 ((k : Int) + 1)] (bl true)) (h0 : Pu 16 [slJ w0, i64 ((k : Int) + 1)] (bl true)) : Tri C0 biB (biS id c m l w0 w1 w2 k n) .normal (biS id c m l w0 w1 w2 (k + 1) (n + 1)) := by
  exact runF_ok (hs := hint [((10,1), {val := some (bl (true))}), ((12,2), {call := some ((bl true))}), ((14,1), {val := some (i64 ((↑n : Int) + (1 : Int)))}), ((15,2), {call := some ((bl true))}), ((11,1), {val := some (i64 ((↑k : Int) + (1 : Int) + (1 : Int)))})]) (f := { ks := [1, 4, 5, 13, 18, 19, 20, 21, 22], l := [0] }) (ps := [bl (decide ((↑k : Int) + (1 : Int) ≤ (8 : Int))) = bl (true), _, i64 (IntKind.i64.wrap ((↑n : Int) + (1 : Int))) = i64 ((↑n : Int) + (1 : Int)), _, i64 (IntKind.i64.wrap ((↑k : Int) + (1 : Int) + (1 : Int))) = i64 ((↑k : Int) + (1 : Int) + (1 : Int)), true = true, true = true]) (by kernel_rfl) ⟨(bdT (by omega)), (h1), (intE (by exact wrap_i64 (by omega) (by omega))), (h0), (intE (by exact wrap_i64 (by omega) (by omega))), rfl, rfl, trivial⟩
theorem bi_2 (id c m : Int) (l : List Row) (w0 w1 w2 : List Int) (k n : Nat) (hk : k < 8) (hn : n ≤ 8) (h1 : Pu 16 [slJ w1, i64 ((k : Int) + 1)] (bl false)) (h2 : Pu 16 [slJ w2, i64 ((k : Int) + 1)] (bl true)) (h0 : Pu 16 [slJ w0, i64 ((k : Int) + 1)] (bl true)) : Tri C0 biB (biS id c m l w0 w1 w2 k n) .normal (biS id c m l w0 w1 w2 (k + 1) (n + 1)) := by
  exact runF_ok (hs := hint [((10,1), {val := some (bl (true))}), ((12,2), {call := some ((bl false))}), ((12,6), {call := some ((bl true))}), ((14,1), {val := some (i64 ((↑n : Int) + (1 : Int)))}), ((15,2), {call := some ((bl true))}), ((11,1), {val := some (i64 ((↑k : Int) + (1 : Int) + (1 : Int)))})]) (f := { ks := [1, 4, 5, 13, 18, 19, 20, 21, 22], l := [0] }) (ps := [bl (decide ((↑k : Int) + (1 : Int) ≤ (8 : Int))) = bl (true), _, _, i64 (IntKind.i64.wrap ((↑n : Int) + (1 : Int))) = i64 ((↑n : Int) + (1 : Int)), _, i64 (IntKind.i64.wrap ((↑k : Int) + (1 : Int) + (1 : Int))) = i64 ((↑k : Int) + (1 : Int) + (1 : Int)), true = true, true = true]) (by kernel_rfl) ⟨(bdT (by omega)), (h1), (h2), (intE (by exact wrap_i64 (by omega) (by omega))), (h0), (intE (by exact wrap_i64 (by omega) (by omega))), rfl, rfl, trivial⟩
theorem bi_3 (id c m : Int) (l : List Row) (w0 w1 w2 : List Int) (k n : Nat) (hk : k < 8) (hn : n ≤ 8) (h1 : Pu 16 [slJ w1, i64 ((k : Int) + 1)] (bl false)) (h2 : Pu 16 [slJ w2, i64 ((k : Int) + 1)] (bl false)) (h0 : Pu 16 [slJ w0, i64 ((k : Int) + 1)] (bl false)) : Tri C0 biB (biS id c m l w0 w1 w2 k n) .normal (biS id c m l w0 w1 w2 (k + 1) n) := by
  exact runF_ok (hs := hint [((10,1), {val := some (bl (true))}), ((12,2), {call := some ((bl false))}), ((12,6), {call := some ((bl false))}), ((15,2), {call := some ((bl false))}), ((11,1), {val := some (i64 ((↑k : Int) + (1 : Int) + (1 : Int)))})]) (f := { ks := [1, 4, 5, 13, 18, 19, 20, 21, 22], l := [0] }) (ps := [bl (decide ((↑k : Int) + (1 : Int) ≤ (8 : Int))) = bl (true), _, _, _, i64 (IntKind.i64.wrap ((↑k : Int) + (1 : Int) + (1 : Int))) = i64 ((↑k : Int) + (1 : Int) + (1 : Int)), true = true, true = true]) (by kernel_rfl) ⟨(bdT (by omega)), (h1), (h2), (h0), (intE (by exact wrap_i64 (by omega) (by omega))), rfl, rfl, trivial⟩
theorem bi_end (id c m : Int) (l : List Row) (w0 w1 w2 : List Int) (n : Nat) : LoopT C0 biB (biS id c m l w0 w1 w2 8 n) (.exit 0) (biS id c m l w0 w1 w2 8 n) := by
  exact LoopT.fin (hs := hint []) (f := { ks := [1, 4, 5, 13, 18, 19, 20, 21, 22], l := [0] }) (ps := [true = true, true = true]) (by kernel_rfl) ⟨rfl, rfl, trivial⟩ (by decide)
noncomputable def bjB : Code := loopOf Try.prog 5 23
def bjS (id c m : Int) (d : List Row) (k : Nat) : St := ⟨mkT 118 [(1, u32 id), (4, i64 c), (5, u16 m), (24, .ptr 0 0), (26, i64 k)], [boxA d]⟩
theorem bj_step (id c m : Int) (d : List Row) (k : Nat) (hk : k < 13) (m1 : 0 ≤ m) (m2 : m ≤ 65535) (p v : Int) (b : Bool) (w : List Int) (hp : IntKind.i64.wrap (1 * 2 ^ min ((k : Int)).toNat IntKind.i64.bits) = p) (hs : m.fdiv (2 ^ min ((k : Int)).toNat IntKind.i64.bits) = v) (hv : andI v 1 = if b = true then 1 else 0) (hW : Pu 14 [tabC d, u32 id, i64 p] (slJ w)) (hH : Pu 16 [slJ w, i64 c] (bl b)) : Tri C0 bjB (bjS id c m d k) .normal (bjS id c m d (k + 1)) := by
  cases b with
  | true =>
    exact runF_ok (hs := hint [((23,1), {val := some (bl (true))}), ((25,3), { val := some (i64 p) }), ((25,4), {call := some ((slJ w))}), ((25,6), {call := some ((bl true))}), ((25,8), {val := some (i64 (m))}), ((25,10), { val := some (i64 v) }), ((25,11), { val := some (i64 1) }), ((24,1), {val := some (i64 ((↑k : Int) + (1 : Int)))})]) (f := { ks := [1, 4, 5, 24, 26], l := [0] }) (ps := [bl (decide ((↑k : Int) < (13 : Int))) = bl (true), i64 (IntKind.i64.wrap ((1 : Int) * (2 : Int) ^ min (↑k : Int).toNat (64 : Nat))) = i64 (p), _, _, i64 (IntKind.i64.wrap m) = i64 (m), i64 (m.fdiv ((2 : Int) ^ min (↑k : Int).toNat (64 : Nat))) = i64 (v), i64 (IntKind.i64.wrap (↑(BitVec.ofInt (64 : Nat) v &&& BitVec.ofInt (64 : Nat) (1 : Int)).toNat : Int)) = i64 ((1 : Int)), i64 (IntKind.i64.wrap ((↑k : Int) + (1 : Int))) = i64 ((↑k : Int) + (1 : Int)), true = true, true = true]) (by kernel_rfl) ⟨(bdT (by omega)), (by exact intE hp), (hW), (hH), (intE (by exact wrap_i64 (by omega) (by omega))), (by exact intE hs), (by exact intE hv), (intE (by exact wrap_i64 (by omega) (by omega))), rfl, rfl, trivial⟩
  | false =>
    exact runF_ok (hs := hint [((23,1), {val := some (bl (true))}), ((25,3), { val := some (i64 p) }), ((25,4), {call := some ((slJ w))}), ((25,6), {call := some ((bl false))}), ((25,8), {val := some (i64 (m))}), ((25,10), { val := some (i64 v) }), ((25,11), { val := some (i64 0) }), ((24,1), {val := some (i64 ((↑k : Int) + (1 : Int)))})]) (f := { ks := [1, 4, 5, 24, 26], l := [0] }) (ps := [bl (decide ((↑k : Int) < (13 : Int))) = bl (true), i64 (IntKind.i64.wrap ((1 : Int) * (2 : Int) ^ min (↑k : Int).toNat (64 : Nat))) = i64 (p), _, _, i64 (IntKind.i64.wrap m) = i64 (m), i64 (m.fdiv ((2 : Int) ^ min (↑k : Int).toNat (64 : Nat))) = i64 (v), i64 (IntKind.i64.wrap (↑(BitVec.ofInt (64 : Nat) v &&& BitVec.ofInt (64 : Nat) (1 : Int)).toNat : Int)) = i64 ((0 : Int)), i64 (IntKind.i64.wrap ((↑k : Int) + (1 : Int))) = i64 ((↑k : Int) + (1 : Int)), true = true, true = true]) (by kernel_rfl) ⟨(bdT (by omega)), (by exact intE hp), (hW), (hH), (intE (by exact wrap_i64 (by omega) (by omega))), (by exact intE hs), (by exact intE hv), (intE (by exact wrap_i64 (by omega) (by omega))), rfl, rfl, trivial⟩
theorem bj_end (id c m : Int) (d : List Row) : LoopT C0 bjB (bjS id c m d 13) (.exit 2) (bjS id c m d 13) := by
  exact LoopT.fin (hs := hint []) (f := { ks := [1, 4, 5, 24, 26], l := [0] }) (ps := [true = true, true = true]) (by kernel_rfl) ⟨rfl, rfl, trivial⟩ (by decide)
theorem bits_go (acts : List Act) (id a b c m e : Int) (a0 : 0 ≤ a) (a1 : a ≤ 65535) (b0 : 0 ≤ b) (b1 : b ≤ 65535) (m1 : 0 ≤ m) (m2 : m ≤ 65535) (l d : List Row) (x y z : Int) (w0 w1 w2 : List Int) (hw : w0.length ≤ 8) (hl : acts.length ≤ 40) (hx : a.tmod 8192 = x) (hy : b.tmod 8192 = y) (x0 : 0 ≤ x) (x1 : x < 8192) (y0 : 0 ≤ y) (y1 : y < 8192) (hz : orI x y = z) (hP : Pu 10 [slA acts] (playA l)) (h0 : Pu 14 [tabC l, u32 id, i64 z] (slJ w0)) (h1 : Pu 14 [tabC l, u32 id, i64 x] (slJ w1)) (h2 : Pu 14 [tabC l, u32 id, i64 y] (slJ w2)) (h3 : Pu 14 [tabC l, u32 id, i64 0] (slJ [])) (L1 : LoopT C0 biB (biS id c m l w0 w1 w2 0 0) (.exit 0) (biS id c m l w0 w1 w2 8 w0.length)) (hS : Pu 17 [tabC l, i64 c, u32 id, i64 m] (outA d e)) (L2 : e = 0 → LoopT C0 bjB (bjS id c m d 0) (.exit 2) (bjS id c m d 13)) : Pu 5 [slA acts, u32 id, u16 a, u16 b, i64 c, u16 m] (bl true) := by
  by_cases he : e = 0
  · have L3 := L2 he
    subst he
    exact pure_of (hs := hint [((1,0), {call := some ((bl true))}), ((3,2), {val := some (bl (false))}), ((5,1), {call := some ((playA l))}), ((6,1), { val := some (u16 x) }), ((6,2), {val := some (i64 (x))}), ((6,4), { val := some (u16 y) }), ((6,5), {val := some (i64 (y))}), ((7,4), { val := some (i64 z) }), ((7,5), {call := some ((slJ w0))}), ((7,9), {call := some ((slJ w1))}), ((7,13), {call := some ((slJ w2))}), ((10,1000), {loop := some ({ ks := [1, 4, 5, 13, 18, 19, 20, 21, 22], l := [0] }, biS id c m l w0 w1 w2 (0 : Nat) (0 : Nat), Ex.exit (0 : Nat), biS id c m l w0 w1 w2 (8 : Nat) w0.length)}), ((17,4), {val := some (bl (false))}), ((17,7), {call := some ((slJ []))}), ((19,4), {val := some (i64 (m))}), ((19,5), {call := some ((outA d (0 : Int)))}), ((23,1000), {loop := some ({ ks := [1, 4, 5, 24, 26], l := [1] }, bjS id c m d (0 : Nat), Ex.exit (2 : Nat), bjS id c m d (13 : Nat))})]) (ps := [_, bl (decide ((↑acts.length : Int) > (40 : Int))) = bl (false), _, u16 (a.tmod (8192 : Int)) = u16 (x), i64 (IntKind.i64.wrap x) = i64 (x), u16 (b.tmod (8192 : Int)) = u16 (y), i64 (IntKind.i64.wrap y) = i64 (y), i64 (IntKind.i64.wrap (↑(BitVec.ofInt (64 : Nat) x ||| BitVec.ofInt (64 : Nat) y).toNat : Int)) = i64 (z), _, _, _, biS id c m l w0 w1 w2 (0 : Nat) (0 : Nat) = biS id c m l w0 w1 w2 (0 : Nat) (0 : Nat), _, true = true, true = true, bl ((↑w0.length : Int) != (↑w0.length : Int)) = bl (false), _, i64 (IntKind.i64.wrap m) = i64 (m), _, bjS id c m d (0 : Nat) = bjS id c m d (0 : Nat), _, true = true, true = true]) (by kernel_rfl) ⟨(awake_ok), (bdF (by omega)), (hP), (by exact intE hx), (intE (by exact wrap_i64 (by omega) (by omega))), (by exact intE hy), (intE (by exact wrap_i64 (by omega) (by omega))), (by exact intE hz), (h0), (h1), (h2), rfl, L1, rfl, rfl, (neT (by omega)), (h3), (intE (by exact wrap_i64 (by omega) (by omega))), (hS), rfl, L3, rfl, rfl, trivial⟩
  · exact pure_of (hs := hint [((1,0), {call := some ((bl true))}), ((3,2), {val := some (bl (false))}), ((5,1), {call := some ((playA l))}), ((6,1), { val := some (u16 x) }), ((6,2), {val := some (i64 (x))}), ((6,4), { val := some (u16 y) }), ((6,5), {val := some (i64 (y))}), ((7,4), { val := some (i64 z) }), ((7,5), {call := some ((slJ w0))}), ((7,9), {call := some ((slJ w1))}), ((7,13), {call := some ((slJ w2))}), ((10,1000), {loop := some ({ ks := [1, 4, 5, 13, 18, 19, 20, 21, 22], l := [0] }, biS id c m l w0 w1 w2 (0 : Nat) (0 : Nat), Ex.exit (0 : Nat), biS id c m l w0 w1 w2 (8 : Nat) w0.length)}), ((17,4), {val := some (bl (false))}), ((17,7), {call := some ((slJ []))}), ((19,4), {val := some (i64 (m))}), ((19,5), {call := some ((outA d e))}), ((20,1), {val := some (bl (true))})]) (ps := [_, bl (decide ((↑acts.length : Int) > (40 : Int))) = bl (false), _, u16 (a.tmod (8192 : Int)) = u16 (x), i64 (IntKind.i64.wrap x) = i64 (x), u16 (b.tmod (8192 : Int)) = u16 (y), i64 (IntKind.i64.wrap y) = i64 (y), i64 (IntKind.i64.wrap (↑(BitVec.ofInt (64 : Nat) x ||| BitVec.ofInt (64 : Nat) y).toNat : Int)) = i64 (z), _, _, _, biS id c m l w0 w1 w2 (0 : Nat) (0 : Nat) = biS id c m l w0 w1 w2 (0 : Nat) (0 : Nat), _, true = true, true = true, bl ((↑w0.length : Int) != (↑w0.length : Int)) = bl (false), _, i64 (IntKind.i64.wrap m) = i64 (m), _, bl (e != (0 : Int)) = bl (true)]) (by kernel_rfl) ⟨(awake_ok), (bdF (by omega)), (hP), (by exact intE hx), (intE (by exact wrap_i64 (by omega) (by omega))), (by exact intE hy), (intE (by exact wrap_i64 (by omega) (by omega))), (by exact intE hz), (h0), (h1), (h2), rfl, L1, rfl, rfl, (neT (by omega)), (h3), (intE (by exact wrap_i64 (by omega) (by omega))), (hS), (neF (by assumption)), trivial⟩
theorem bits_ok (acts : List Act) (ha : ∀ a ∈ acts, AOk a) (id a b c m : Int) (h2 : 0 ≤ id) (h3 : id ≤ 4294967295) (a0 : 0 ≤ a) (a1 : a ≤ 65535) (b0 : 0 ≤ b) (b1 : b ≤ 65535) (c1 : -9223372036854775808 ≤ c) (c2 : c ≤ 9223372036854775807) (m1 : 0 ≤ m) (m2 : m ≤ 65535) : Pu 5 [slA acts, u32 id, u16 a, u16 b, i64 c, u16 m] (bl true) := by
  by_cases hl : acts.length ≤ 40
  · have hP := played_ok acts ha hl
    obtain ⟨q1, q2⟩ := run_ok acts ha hl
    generalize runR acts = l at *
    obtain ⟨x, hx⟩ : ∃ x : Nat, (x : Int) = a.tmod 8192 := ⟨(a.tmod 8192).toNat, by rw [Int.tmod_eq_emod_of_nonneg a0]; omega⟩
    obtain ⟨y, hy⟩ : ∃ y : Nat, (y : Int) = b.tmod 8192 := ⟨(b.tmod 8192).toNat, by rw [Int.tmod_eq_emod_of_nonneg b0]; omega⟩
    have x1 : x < 8192 := by rw [Int.tmod_eq_emod_of_nonneg a0] at hx; omega
    have y1 : y < 8192 := by rw [Int.tmod_eq_emod_of_nonneg b0] at hy; omega
    have z1 := or_lt x1 y1
    have w0 := pwho_ok l q1 id ((x ||| y : Nat) : Int) h2 h3
    have w1 := pwho_ok l q1 id (x : Int) h2 h3
    have w2 := pwho_ok l q1 id (y : Int) h2 h3
    have w3 := pwho_ok l q1 id 0 h2 h3
    rw [mN_nat _ z1] at w0
    rw [mN_nat _ x1] at w1
    rw [mN_nat _ y1] at w2
    rw [show mN 0 = 0 from rfl, who_zero] at w3
    have L1 := LoopT.count (fun k => biS id c m l (whoR l id (x ||| y)) (whoR l id x) (whoR l id y) k (cntW (whoR l id (x ||| y)) k)) 8 (fun k hk => by
      have e0 := mem_who (l := l) (id := id) (n := x ||| y) (k := (k : Int) + 1) (by omega) (by omega)
      have e1 := mem_who (l := l) (id := id) (n := x) (k := (k : Int) + 1) (by omega) (by omega)
      have e2 := mem_who (l := l) (id := id) (n := y) (k := (k : Int) + 1) (by omega) (by omega)
      have p0 := lhas_ok (whoR l id (x ||| y)) ((k : Int) + 1) (by have := who_len l id (x ||| y); omega)
      have p1 := lhas_ok (whoR l id x) ((k : Int) + 1) (by have := who_len l id x; omega)
      have p2 := lhas_ok (whoR l id y) ((k : Int) + 1) (by have := who_len l id y; omega)
      have hc := cnt_succ (whoR l id (x ||| y)) k hk
      have hle := cnt_le (whoR l id (x ||| y)) k
      rw [has_or] at e0
      cases f1 : hasN (maskR l ((k : Int) + 1) id) x with
      | true =>
        rw [f1, Bool.true_or] at e0
        rw [f1] at e1
        rw [if_pos (of_decide_eq_true e0)] at hc
        rw [e0] at p0
        rw [e1] at p1
        rw [hc]
        exact bi_1 id c m l _ _ _ k _ hk hle p1 p0
      | false =>
        cases f2 : hasN (maskR l ((k : Int) + 1) id) y with
        | true =>
          rw [f1, f2, Bool.false_or] at e0
          rw [f1] at e1
          rw [f2] at e2
          rw [if_pos (of_decide_eq_true e0)] at hc
          rw [e0] at p0
          rw [e1] at p1
          rw [e2] at p2
          rw [hc]
          exact bi_2 id c m l _ _ _ k _ hk hle p1 p2 p0
        | false =>
          rw [f1, f2, Bool.false_or] at e0
          rw [f1] at e1
          rw [f2] at e2
          rw [if_neg (of_decide_eq_false e0), Nat.add_zero] at hc
          rw [e0] at p0
          rw [e1] at p1
          rw [e2] at p2
          rw [hc]
          exact bi_3 id c m l _ _ _ k _ hk hle p1 p2 p0) (bi_end id c m l _ _ _ _) 0 (by omega)
    simp only [cnt_all] at L1
    have hS := pset_ok l q1 c id m h2 h3
    have qd := lok_set q1 c id m h2 h3 (by omega)
    refine bits_go acts id a b c m _ a0 a1 b0 b1 m1 m2 l _ x y _ _ _ _ (who_len _ _ _) hl hx.symm hy.symm (by omega) (by omega) (by omega) (by omega) (orI_nat x y x1 y1) hP w0 w1 w2 w3 L1 hS fun he => ?_
    obtain ⟨g1, g2, g3, g4⟩ := set_e he
    have hm := set_mask he
    obtain ⟨n, rfl⟩ : ∃ n : Nat, m = (n : Int) := ⟨m.toNat, by omega⟩
    refine LoopT.count (bjS id c n (setD l c id n).1) 13 (fun k hk => ?_) (bj_end id c n _) 0 (by omega)
    have w := pwho_ok _ qd id ((2 ^ k : Nat) : Int) h2 h3
    have hp : 2 ^ k < 8192 := by rw [show 8192 = 2 ^ 13 from rfl]; exact Nat.pow_lt_pow_right (by omega) hk
    rw [mN_nat _ hp] at w
    have pw := lhas_ok (whoR (setD l c id n).1 id (2 ^ k)) c (by have := who_len (setD l c id n).1 id (2 ^ k); omega)
    have e := mem_who (l := (setD l c id n).1) (id := id) (n := 2 ^ k) (k := c) g1.1 g1.2
    rw [show maskR (setD l c id n).1 c id = n by omega, hasN_eq _ _ (by omega)] at e
    rw [e] at pw
    refine bj_step id c n _ k hk m1 m2 _ _ _ _ (shl_val k hk) (shr_val n k hk) ?_ w pw
    have hq : n / 2 ^ k ≤ n := Nat.div_le_self _ _
    rw [and_one _ (by omega)]
    have hb := bit_pow n k hk
    rw [← bit_test] at hb
    unfold bitN at hb
    by_cases h5 : n &&& 2 ^ k ≠ 0
    · rw [decide_eq_true h5, if_pos rfl]
      have := of_decide_eq_true (hb.1 h5)
      omega
    · rw [decide_eq_false h5, if_neg (by simp)]
      have : ¬ n / 2 ^ k % 2 = 1 := fun q => h5 (hb.2 (decide_eq_true q))
      omega
  · exact pure_of (hs := hint [((1,0), {call := some ((bl true))}), ((3,2), {val := some (bl (true))})]) (ps := [_, bl (decide ((↑acts.length : Int) > (40 : Int))) = bl (true)]) (by kernel_rfl) ⟨(awake_ok), (bdT (by omega)), trivial⟩
end Go.Proofs.Ytfalaahbacdbjaa
