/- How many bytes a form has at least; the same fields; light ones. By the prover of this seat. -/
import Derived.Test.YtcnlgdbmcdlknaaDoorFs
set_option linter.unusedVariables false
set_option linter.unusedSimpArgs false
set_option maxRecDepth 100000
set_option maxHeartbeats 4000000
namespace Go.Proofs.YtcnlgdbmcdlknaaDoor.Fo
open Go.RowKit Go.Pm
def sumW (zs : List Int) : Nat → Nat
  | 0 => 0
  | k + 1 => sumW zs k + wdD (nth zs k)
theorem wd_le {z : Int} (h : szB z = true) : 1 ≤ wdD z ∧ wdD z ≤ 4 := by
  unfold szB at h
  cases hk : knownD z with
  | none => rw [hk] at h; cases h
  | some s => rcases known_cases hk with ⟨e, _⟩ | ⟨e, _⟩ | ⟨e, _⟩ | ⟨e, _⟩ | ⟨e, _⟩ | ⟨e, _⟩ <;> rw [e] <;> decide
theorem sumW_le {zs : List Int} : ∀ k, (∀ j, j < k → szB (nth zs j) = true) → sumW zs k ≤ 4 * k := by
  intro k
  induction k with
  | zero => intro _; exact Nat.le_refl _
  | succ k ih =>
    intro h
    have := ih (fun j hj => h j (by omega))
    have := wd_le (h k (by omega))
    rw [sumW]
    omega
def leastD (f : Fm) : Nat := if checkD f = 0 then sumW f.fixed f.fixed.length + padN (sumW f.fixed f.fixed.length) + (if f.bytes = true then 4 else 0) + (if f.list = 0 then 0 else 4) else 0
noncomputable def leB : Code := loopOf Tryd.prog 99 5
def leS (f : Fm) (k n : Nat) : St := ⟨mkT 35 [(1, .ptr 0 0), (3, i64 n), (10, slJ f.fixed), (11, i64 f.fixed.length), (12, i64 k)], [.arr 3 (fmC f) 0]⟩
def lrS (f : Fm) (k n : Nat) : St := ⟨mkT 38 [(1, .ptr 0 0), (3, i64 n), (4, i64 k)], [.arr 3 (fmC f) 0]⟩
def lpS (f : Fm) (n : Nat) : St := ⟨mkT 38 [(1, .ptr 0 0), (3, i64 n)], [.arr 3 (fmC f) 0]⟩
def rrS (a b : List Int) (k : Nat) : St := ⟨mkT 26 [(0, slJ a), (1, slJ b), (5, i64 k)], []⟩
def rrH : St := ⟨mkT 26 [(4, bl false)], []⟩
noncomputable def prB : Code := loopOf Tryd.prog 38 4
def prS (a b : List Int) (k : Nat) : St := ⟨mkT 26 [(0, slJ a), (1, slJ b), (12, i64 a.length), (13, i64 k)], []⟩
def prH : St := ⟨mkT 26 [(4, bl false)], []⟩
theorem pr_step (a b : List Int) (k : Nat) (hk : k < a.length) (hab : a.length = b.length) (hl : a.length ≤ 1000000) (h : nth a k = nth b k) : Tri C1 prB (prS a b k) .normal (prS a b (k + 1)) := by
  exact runF_ok (hs := hint [((4,0), {val := some (bl (true))}), ((6,2), {cells := some (eJ (nth a k) ++ List.flatMap eJ (List.drop (k + (1 : Nat)) a)), sym := true}), ((6,6), {cells := some (eJ (nth b k) ++ List.flatMap eJ (List.drop (k + (1 : Nat)) b)), sym := true}), ((6,8), {val := some (bl (false))}), ((8,0), {val := some (i64 ((↑k : Int) + (1 : Int)))})]) (f := { ks := [0, 1, 12, 13] }) (ps := [bl (decide ((↑k : Int) < (↑a.length : Int))) = bl (true), decide ((0 : Int) ≤ (↑k : Int) ∧ (↑k : Int) < (↑a.length : Int)) = true, ((List.drop ((↑k : Int).toNat * (1 : Nat)) (List.flatMap eJ a)) : List AV) = (eJ (nth a k) ++ List.flatMap eJ (List.drop (k + (1 : Nat)) a)), decide ((0 : Int) ≤ (↑k : Int) ∧ (↑k : Int) < (↑b.length : Int)) = true, ((List.drop ((↑k : Int).toNat * (1 : Nat)) (List.flatMap eJ b)) : List AV) = (eJ (nth b k) ++ List.flatMap eJ (List.drop (k + (1 : Nat)) b)), bl (nth a k != nth b k) = bl (false), i64 (IntKind.i64.wrap ((↑k : Int) + (1 : Int))) = i64 ((↑k : Int) + (1 : Int)), true = true]) (by kernel_rfl) ⟨(bdT (by omega)), (by exact decide_t (by omega)), (by exact flat_nth (sz := 1) (k := k) (fun _ => rfl) (by omega)), (by exact decide_t (by omega)), (by exact flat_nth (sz := 1) (k := k) (fun _ => rfl) (by omega)), (neT (by assumption)), (intE (by exact wrap_i64 (by omega) (by omega))), rfl, trivial⟩
theorem pr_hit (a b : List Int) (k : Nat) (hk : k < a.length) (hab : a.length = b.length) (hl : a.length ≤ 1000000) (h : ¬ nth a k = nth b k) : LoopT C1 prB (prS a b k) .ret prH := by
  exact LoopT.fin (hs := hint [((4,0), {val := some (bl (true))}), ((6,2), {cells := some (eJ (nth a k) ++ List.flatMap eJ (List.drop (k + (1 : Nat)) a)), sym := true}), ((6,6), {cells := some (eJ (nth b k) ++ List.flatMap eJ (List.drop (k + (1 : Nat)) b)), sym := true}), ((6,8), {val := some (bl (true))})]) (f := { ks := [4] }) (ps := [bl (decide ((↑k : Int) < (↑a.length : Int))) = bl (true), decide ((0 : Int) ≤ (↑k : Int) ∧ (↑k : Int) < (↑a.length : Int)) = true, ((List.drop ((↑k : Int).toNat * (1 : Nat)) (List.flatMap eJ a)) : List AV) = (eJ (nth a k) ++ List.flatMap eJ (List.drop (k + (1 : Nat)) a)), decide ((0 : Int) ≤ (↑k : Int) ∧ (↑k : Int) < (↑b.length : Int)) = true, ((List.drop ((↑k : Int).toNat * (1 : Nat)) (List.flatMap eJ b)) : List AV) = (eJ (nth b k) ++ List.flatMap eJ (List.drop (k + (1 : Nat)) b)), bl (nth a k != nth b k) = bl (true), true = true]) (by kernel_rfl) ⟨(bdT (by omega)), (by exact decide_t (by omega)), (by exact flat_nth (sz := 1) (k := k) (fun _ => rfl) (by omega)), (by exact decide_t (by omega)), (by exact flat_nth (sz := 1) (k := k) (fun _ => rfl) (by omega)), (neF (by assumption)), rfl, trivial⟩ (by decide)
theorem pr_end (a b : List Int) : LoopT C1 prB (prS a b a.length) (.exit 0) (prS a b a.length) := by
  exact LoopT.fin (hs := hint [((4,0), {val := some (bl (false))})]) (f := { ks := [0, 1, 12, 13] }) (ps := [bl (decide ((↑a.length : Int) < (↑a.length : Int))) = bl (false), true = true]) (by kernel_rfl) ⟨(bdF (by omega)), rfl, trivial⟩ (by decide)
theorem pr_ne (a b : List Int) (h : ¬ a.length = b.length) : Pu 38 [slJ a, slJ b] (bl false) := by
  exact pure_of (hs := hint [((1,4), {val := some (bl (true))})]) (ps := [bl ((↑a.length : Int) != (↑b.length : Int)) = bl (true)]) (by kernel_rfl) ⟨(neF (by omega)), trivial⟩
theorem pr_f (a b : List Int) (h : a.length = b.length) (L : LoopT C1 prB (prS a b 0) .ret prH) : Pu 38 [slJ a, slJ b] (bl false) := by
  exact pure_of (hs := hint [((1,4), {val := some (bl (false))}), ((4,1000), {loop := some ({ ks := [0, 1, 12, 13] }, prS a b (0 : Nat), Ex.ret, prH)})]) (ps := [bl ((↑a.length : Int) != (↑b.length : Int)) = bl (false), prS a b (0 : Nat) = prS a b (0 : Nat), _, true = true]) (by kernel_rfl) ⟨(neT (by omega)), rfl, L, rfl, trivial⟩
theorem pr_t (a b : List Int) (h : a.length = b.length) (L : LoopT C1 prB (prS a b 0) (.exit 0) (prS a b a.length)) : Pu 38 [slJ a, slJ b] (bl true) := by
  exact pure_of (hs := hint [((1,4), {val := some (bl (false))}), ((4,1000), {loop := some ({ ks := [0, 1, 12, 13] }, prS a b (0 : Nat), Ex.exit (0 : Nat), prS a b a.length)})]) (ps := [bl ((↑a.length : Int) != (↑b.length : Int)) = bl (false), prS a b (0 : Nat) = prS a b (0 : Nat), _, true = true]) (by kernel_rfl) ⟨(neT (by omega)), rfl, L, rfl, trivial⟩
theorem pr_ok (a b : List Int) (hl : a.length ≤ 1000000) : Pu 38 [slJ a, slJ b] (bl (decide (a = b))) := by
  by_cases h : a.length = b.length
  · cases hi : idxD (fun i => !decide (nth a i = nth b i)) (List.range a.length) with
    | some i =>
      obtain ⟨h1, h2, h3⟩ := idx_some hi
      rw [List.length_range] at h1
      rw [nth_range _ _ h1] at h2
      have hne : ¬ nth a i = nth b i := by simpa using h2
      rw [decide_eq_false (fun e => hne (by rw [e]))]
      exact pr_f a b h (LoopT.count (prS a b) i (fun k hk => pr_step a b k (by omega) h hl (by
        have := h3 k hk
        rw [nth_range _ _ (by omega)] at this
        simpa using this)) (pr_hit a b i h1 h hl hne) 0 (Nat.zero_le _))
    | none =>
      have hall : ∀ k, k < a.length → nth a k = nth b k := fun k hk => by
        have := idx_none hi k (by rw [List.length_range]; exact hk)
        rw [nth_range _ _ hk] at this
        simpa using this
      have e : a = b := List.ext_getElem h fun k h1 h2 => by
        have := hall k h1
        rwa [nth_eq h1, nth_eq h2] at this
      rw [decide_eq_true e]
      exact pr_t a b h (LoopT.count (prS a b) a.length (fun k hk => pr_step a b k hk h hl (hall k hk)) (pr_end a b) 0 (Nat.zero_le _))
  · rw [decide_eq_false (fun e => h (by rw [e]))]
    exact pr_ne a b h
def sameD (x y : Fl) : Bool := decide (x.N = y.N) && decide (x.B = y.B) && decide (x.L = y.L)
end Go.Proofs.YtcnlgdbmcdlknaaDoor.Fo
