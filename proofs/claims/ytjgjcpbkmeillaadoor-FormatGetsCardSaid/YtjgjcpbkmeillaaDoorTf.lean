/- Get, by the document: numbers, noughts. By the prover of this seat. -/
import Derived.Test.YtjgjcpbkmeillaaDoorTe
set_option linter.unusedVariables false
set_option linter.unusedSimpArgs false
set_option maxRecDepth 100000
set_option maxHeartbeats 4000000
namespace Go.Proofs.YtjgjcpbkmeillaaDoor
open Go.RowKit Go.Pm
def vaD (o : Int) (b : ByteArray) (n : Nat) : Nat → Int
  | 0 => 0
  | k + 1 => 256 * vaD o b n k + byteAt b (if o = 1 then k else n - 1 - k)
def alD : Nat → Int
  | 0 => 1
  | k + 1 => 256 * alD k
theorem vaD_lt (o : Int) (b : ByteArray) (n : Nat) : ∀ k, 0 ≤ vaD o b n k ∧ vaD o b n k < alD k
  | 0 => by unfold vaD alD; omega
  | k + 1 => by
    have := vaD_lt o b n k
    have h := byte_at b (if o = 1 then k else n - 1 - k)
    unfold vaD alD
    omega
theorem alD_le : ∀ k, k < 4 → 0 ≤ alD k ∧ alD k ≤ 16777216
  | 0, _ => by decide
  | 1, _ => by decide
  | 2, _ => by decide
  | 3, _ => by decide
theorem va_loop (o z : Int) (b : ByteArray) (n : Nat) (ho : o = 0 ∨ o = 1) (hn : n ≤ 4) (hb : b.size = n) : LoopT C1 vaB (vaS o z b n 0 0 1) (.exit 0) (vaS o z b n n (vaD o b n n) (alD n)) :=
  LoopT.count (fun k => vaS o z b n k (vaD o b n k) (alD k)) n (fun k hk => by
    have h1 := vaD_lt o b n k
    have h2 := alD_le k (by omega)
    rcases ho with rfl | rfl
    · have := va_0 z (vaD 0 b n k) (alD k) b n k (n - 1 - k) hk rfl hn hb (by omega) (by omega) (by omega) (by omega)
      exact this
    · have := va_1 z (vaD 1 b n k) (alD k) b n k hk hn hb (by omega) (by omega) (by omega) (by omega)
      exact this) (va_end o z _ _ b n) 0 (Nat.zero_le _)
theorem vaD_num (o : Int) (b : ByteArray) (n : Nat) (ho : o = 0 ∨ o = 1) (hn : n = 1 ∨ n = 2 ∨ n = 4) : vaD o b n n = numD o n b := by
  rcases hn with rfl | rfl | rfl <;> rcases ho with rfl | rfl <;> simp [vaD, numD] <;> omega
theorem val_ok (o z : Int) (b : ByteArray) (ho : o = 0 ∨ o = 1) (hz : szB z = true) (hb : b.size = wdD z) : Pu 45 [i64 o, i64 z, st b] (i64 (getD o z b).1) := by
  have hw := rbytes_ok z hz
  have hwl := wd_le hz
  unfold getD
  rw [if_neg (by omega)]
  cases hk : knownD z with
  | none => unfold szB at hz; rw [hk] at hz; cases hz
  | some sp =>
    obtain ⟨w, h3, hwi, hsz⟩ := known_wide hk
    have e : sp.wd = wdD z := by unfold Span.wd wdD; rw [hsz]
    have hn : wdD z = 1 ∨ wdD z = 2 ∨ wdD z = 4 := by rw [← e]; exact (wide_wd hk).1
    simp only []
    rw [if_neg (by omega), if_neg (by omega)]
    have L := va_loop o z b (wdD z) ho hwl.2 hb
    have hnum := vaD_num o b (wdD z) ho hn
    have hlt := vaD_lt o b (wdD z) (wdD z)
    show Pu 45 [i64 o, i64 z, st b] (i64 (readD o sp b))
    unfold readD
    rw [e]
    rw [hnum] at L hlt
    rcases known_cases hk with ⟨rfl, rfl⟩ | ⟨rfl, rfl⟩ | ⟨rfl, rfl⟩ | ⟨rfl, rfl⟩ | ⟨rfl, rfl⟩ | ⟨rfl, rfl⟩
    · have ea : alD (wdD 1) = 256 := by decide
      rw [if_neg (by show ¬ _ > 255; omega)]
      exact val_p o 1 _ _ b _ (by decide) hw L
    · have ea : alD (wdD 2) = 65536 := by decide
      rw [if_neg (by show ¬ _ > 65535; omega)]
      exact val_p o 2 _ _ b _ (by decide) hw L
    · have ea : alD (wdD 4) = 4294967296 := by decide
      rw [if_neg (by show ¬ _ > 4294967295; omega)]
      exact val_p o 4 _ _ b _ (by decide) hw L
    · have ea : alD (wdD (-1)) = 256 := by decide
      have eh : (256 : Int) / 2 = 128 := by decide
      have e3 : (256 : Int) ^ (wdD (-1)) = 256 := by decide
      rw [ea] at L
      by_cases h : numD o (wdD (-1)) b < 128
      · rw [if_neg (by show ¬ _ > 127; omega)]
        exact val_n o (-1) _ 256 b _ (by decide) (by decide) (by decide) (by rw [eh]; exact h) hw L
      · rw [if_pos (by show _ > 127; omega), e3]
        exact val_m o (-1) _ 256 b _ (by decide) (by decide) (by decide) (by omega) (by omega) (by rw [eh]; exact h) hw L
    · have ea : alD (wdD (-2)) = 65536 := by decide
      have eh : (65536 : Int) / 2 = 32768 := by decide
      have e3 : (256 : Int) ^ (wdD (-2)) = 65536 := by decide
      rw [ea] at L
      by_cases h : numD o (wdD (-2)) b < 32768
      · rw [if_neg (by show ¬ _ > 32767; omega)]
        exact val_n o (-2) _ 65536 b _ (by decide) (by decide) (by decide) (by rw [eh]; exact h) hw L
      · rw [if_pos (by show _ > 32767; omega), e3]
        exact val_m o (-2) _ 65536 b _ (by decide) (by decide) (by decide) (by omega) (by omega) (by rw [eh]; exact h) hw L
    · have ea : alD (wdD (-4)) = 4294967296 := by decide
      have eh : (4294967296 : Int) / 2 = 2147483648 := by decide
      have e3 : (256 : Int) ^ (wdD (-4)) = 4294967296 := by decide
      rw [ea] at L
      by_cases h : numD o (wdD (-4)) b < 2147483648
      · rw [if_neg (by show ¬ _ > 2147483647; omega)]
        exact val_n o (-4) _ 4294967296 b _ (by decide) (by decide) (by decide) (by rw [eh]; exact h) hw L
      · rw [if_pos (by show _ > 2147483647; omega), e3]
        exact val_m o (-4) _ 4294967296 b _ (by decide) (by decide) (by decide) (by omega) (by omega) (by rw [eh]; exact h) hw L
noncomputable def rnoB : Code := loopOf Tryd.prog 46 0
def rnoS (s : ByteArray) (p : Nat) (e : Int) : St := ⟨mkT 30 [(0, .ptr 0 0)], [bA s p e]⟩
noncomputable def C3 : Cx := ⟨Tryd.prog, G1, 1⟩
theorem rno_err (s : ByteArray) (p : Nat) (e : Int) (he : ¬ e = 0) : LoopT C3 rnoB (rnoS s p e) (.exit 0) (rnoS s p e) := by
  exact LoopT.fin (hs := hint [((0,5), {val := some (bl (false))})]) (f := { ks := [0], l := [0] }) (ps := [bl (e == (0 : Int)) = bl (false), true = true, true = true]) (by kernel_rfl) ⟨(beF (by assumption)), rfl, rfl, trivial⟩ (by decide)
theorem rno_end (s : ByteArray) (p : Nat) (h : p % 4 = 0) : LoopT C3 rnoB (rnoS s p 0) (.exit 0) (rnoS s p 0) := by
  exact LoopT.fin (hs := hint [((0,10), {val := some (i64 ((↑p : Int) % (4 : Int)))}), ((0,12), {val := some (bl (false))})]) (f := { ks := [0], l := [0] }) (ps := [i64 ((↑p : Int).tmod (4 : Int)) = i64 ((↑p : Int) % (4 : Int)), bl ((↑p : Int) % (4 : Int) != (0 : Int)) = bl (false), true = true, true = true]) (by kernel_rfl) ⟨(intE (Int.tmod_eq_emod_of_nonneg (by omega))), (neT (by omega)), rfl, rfl, trivial⟩ (by decide)
theorem rno_short (s : ByteArray) (p : Nat) (h : ¬ p % 4 = 0) (hc : CallH Tryd.prog G1 44 [.ptr 0 0, i64 1] [bA s p 0] (st ⟨#[]⟩) [bA s p 3]) : Tri C3 rnoB (rnoS s p 0) .normal (rnoS s p 3) := by
  exact runF_ok (hs := hint [((0,10), {val := some (i64 ((↑p : Int) % (4 : Int)))}), ((0,12), {val := some (bl (true))}), ((1,1), {heap := some ((st { data := #[] : ByteArray }), [bA s p (3 : Int)])})]) (f := { ks := [0], l := [0] }) (ps := [i64 ((↑p : Int).tmod (4 : Int)) = i64 ((↑p : Int) % (4 : Int)), bl ((↑p : Int) % (4 : Int) != (0 : Int)) = bl (true), _, [Bk.arr (3 : Nat) [AV.s (Value.string s), AV.s (Value.int IntKind.i64 (↑p : Int)), AV.s (Value.int IntKind.i64 (0 : Int))] (0 : Fz)].length ≤ [Bk.arr (3 : Nat) [AV.s (Value.string s), AV.s (Value.int IntKind.i64 (↑p : Int)), AV.s (Value.int IntKind.i64 (3 : Int))] (0 : Fz)].length, true = true, true = true]) (by kernel_rfl) ⟨(intE (Int.tmod_eq_emod_of_nonneg (by omega))), (neF (by omega)), (hc), (by (simp; done)), rfl, rfl, trivial⟩
theorem rno_bad (s b : ByteArray) (p : Nat) (h : ¬ p % 4 = 0) (hb : ¬ b = ⟨#[0]⟩) (hc : CallH Tryd.prog G1 44 [.ptr 0 0, i64 1] [bA s p 0] (st b) [bA s (p + 1) 0]) : Tri C3 rnoB (rnoS s p 0) .normal (rnoS s (p + 1) 2) := by
  exact runF_ok (hs := hint [((0,10), {val := some (i64 ((↑p : Int) % (4 : Int)))}), ((0,12), {val := some (bl (true))}), ((1,1), {heap := some ((st b), [bA s (p + (1 : Nat)) (0 : Int)])}), ((2,8), {val := some (bl (true))})]) (f := { ks := [0], l := [0] }) (ps := [i64 ((↑p : Int).tmod (4 : Int)) = i64 ((↑p : Int) % (4 : Int)), bl ((↑p : Int) % (4 : Int) != (0 : Int)) = bl (true), _, [Bk.arr (3 : Nat) [AV.s (Value.string s), AV.s (Value.int IntKind.i64 (↑p : Int)), AV.s (Value.int IntKind.i64 (0 : Int))] (0 : Fz)].length ≤ [Bk.arr (3 : Nat) [AV.s (Value.string s), AV.s (Value.int IntKind.i64 (↑(p + (1 : Nat)) : Int)), AV.s (Value.int IntKind.i64 (0 : Int))] (0 : Fz)].length, bl (!b.toList == { data := #[(0 : UInt8)] : ByteArray }.toList) = bl (true), true = true, true = true]) (by kernel_rfl) ⟨(intE (Int.tmod_eq_emod_of_nonneg (by omega))), (neF (by omega)), (hc), (by (simp; done)), (bnF (bsF (by assumption))), rfl, rfl, trivial⟩
theorem rno_step (s : ByteArray) (p : Nat) (h : ¬ p % 4 = 0) (hc : CallH Tryd.prog G1 44 [.ptr 0 0, i64 1] [bA s p 0] (st ⟨#[0]⟩) [bA s (p + 1) 0]) : Tri C3 rnoB (rnoS s p 0) .normal (rnoS s (p + 1) 0) := by
  exact runF_ok (hs := hint [((0,10), {val := some (i64 ((↑p : Int) % (4 : Int)))}), ((0,12), {val := some (bl (true))}), ((1,1), {heap := some ((st { data := #[(0 : UInt8)] : ByteArray }), [bA s (p + (1 : Nat)) (0 : Int)])})]) (f := { ks := [0], l := [0] }) (ps := [i64 ((↑p : Int).tmod (4 : Int)) = i64 ((↑p : Int) % (4 : Int)), bl ((↑p : Int) % (4 : Int) != (0 : Int)) = bl (true), _, [Bk.arr (3 : Nat) [AV.s (Value.string s), AV.s (Value.int IntKind.i64 (↑p : Int)), AV.s (Value.int IntKind.i64 (0 : Int))] (0 : Fz)].length ≤ [Bk.arr (3 : Nat) [AV.s (Value.string s), AV.s (Value.int IntKind.i64 (↑(p + (1 : Nat)) : Int)), AV.s (Value.int IntKind.i64 (0 : Int))] (0 : Fz)].length, true = true, true = true]) (by kernel_rfl) ⟨(intE (Int.tmod_eq_emod_of_nonneg (by omega))), (neF (by omega)), (hc), (by (simp; done)), rfl, rfl, trivial⟩
theorem rno_fn (s : ByteArray) (p p' : Nat) (e e' : Int) (L : LoopT C3 rnoB (rnoS s p e) (.exit 0) (rnoS s p' e')) : CallH Tryd.prog G1 46 [.ptr 0 0] [bA s p e] (.tup []) [bA s p' e'] := by
  exact (fnRun_ok (hs := hint [((0,1000), {loop := some ({ ks := [0], l := [0] }, rnoS s p e, Ex.exit (0 : Nat), rnoS s p' e')})]) (ps := [rnoS s p e = rnoS s p e, _, true = true, true = true]) (by kernel_rfl) ⟨rfl, L, rfl, rfl, trivial⟩).1
end Go.Proofs.YtjgjcpbkmeillaaDoor
