/- Names as plain values: which are right, where they are found. By the prover of this seat. -/
import Derived.Test.YtgbpjpacmepicaaDoorRows
import Derived.Test.YtgbpjpacmepicaaDoorPmE
set_option linter.unusedVariables false
set_option linter.unusedSimpArgs false
set_option maxRecDepth 100000
set_option maxHeartbeats 4000000
namespace Go.Proofs.YtgbpjpacmepicaaDoor
open Go.RowKit Go.Pm
def kn : List ByteArray := [⟨#[112, 114, 105, 109, 97, 114, 121]⟩, ⟨#[115, 101, 99, 111, 110, 100, 97, 114, 121]⟩, ⟨#[99, 108, 105, 112, 98, 111, 97, 114, 100]⟩, ⟨#[115, 116, 114, 105, 110, 103]⟩, ⟨#[105, 110, 116, 101, 103, 101, 114]⟩, ⟨#[97, 116, 111, 109, 115]⟩, ⟨#[105, 110, 99, 114]⟩, ⟨#[116, 105, 116, 108, 101]⟩, ⟨#[116, 114, 97, 110, 115, 102, 101, 114]⟩, ⟨#[99, 108, 111, 115, 101]⟩]
def eS (s : ByteArray) : List AV := [st s]
def slS (l : List ByteArray) : AV := slE eS l
def G1 : Nat → Option (List AV) := fun g => if g = 0 then some (kn.flatMap eS) else none
noncomputable def C0 : Cx := ⟨Tryd.prog, G1, 0⟩
abbrev Pu (f : FuncId) (args : List AV) (r : AV) : Prop := Pure Tryd.prog G1 f args r []
instance : Inhabited ByteArray := ⟨⟨#[]⟩⟩
/-! right names -/
abbrev byteAt (s : ByteArray) (k : Nat) : Int := ((s.data.toList.getD (k : Int).toNat 0).toNat : Int)
def badB (c : UInt8) : Bool := decide (c.toNat < 32 ∨ 126 < c.toNat)
def rightD (s : ByteArray) : Bool := decide (1 ≤ s.size ∧ s.size ≤ 255) && (idxD badB s.data.toList).isNone
theorem size_len (s : ByteArray) : s.data.toList.length = s.size := by rw [Array.length_toList]; rfl
theorem byte_nth (s : ByteArray) (k : Nat) : byteAt s k = ((nth s.data.toList k).toNat : Int) := by
  unfold byteAt nth
  rw [Int.toNat_natCast]
  rfl
noncomputable def prB : Code := loopOf Tryd.prog 21 4
def prS (s : ByteArray) (k : Nat) : St := ⟨mkT 28 [(0, st s), (3, i64 k)], []⟩
def prH : St := ⟨mkT 28 [(2, bl false)], []⟩
theorem pr_step (s : ByteArray) (k : Nat) (hk : k < s.size) (hl : s.size ≤ 1000000000) (h : ¬ (byteAt s k < 32 ∨ 126 < byteAt s k)) : Tri C0 prB (prS s k) .normal (prS s (k + 1)) := by
  by_cases h1 : (↑(s.data.toList.getD (↑k : Int).toNat (0 : UInt8)).toNat : Int) < (32 : Int)
  · exact False.elim (by (simp_all; done))
  · by_cases h2 : (↑(s.data.toList.getD (↑k : Int).toNat (0 : UInt8)).toNat : Int) > (126 : Int)
    · exact False.elim (by (simp_all; done))
    · exact runF_ok (hs := hint [((4,3), {val := some (bl (true))}), ((6,2), {sym := true}), ((6,4), {val := some (bl (false))}), ((6,7), {sym := true}), ((6,9), {val := some (bl (false))}), ((5,1), {val := some (i64 ((↑k : Int) + (1 : Int)))})]) (f := { ks := [0, 3] }) (ps := [bl (decide ((↑k : Int) < (↑s.size : Int))) = bl (true), decide ((0 : Int) ≤ (↑k : Int) ∧ (↑k : Int) < (↑s.size : Int)) = true, bl (decide ((↑(s.data.toList.getD (↑k : Int).toNat (0 : UInt8)).toNat : Int) < (32 : Int))) = bl (false), decide ((0 : Int) ≤ (↑k : Int) ∧ (↑k : Int) < (↑s.size : Int)) = true, bl (decide ((↑(s.data.toList.getD (↑k : Int).toNat (0 : UInt8)).toNat : Int) > (126 : Int))) = bl (false), i64 (IntKind.i64.wrap ((↑k : Int) + (1 : Int))) = i64 ((↑k : Int) + (1 : Int)), true = true]) (by kernel_rfl) ⟨(bdT (by omega)), (by (simp; omega)), (bdF h1), (by (simp; omega)), (bdF h2), (intE (by exact wrap_i64 (by omega) (by omega))), rfl, trivial⟩
theorem pr_hit (s : ByteArray) (k : Nat) (hk : k < s.size) (hl : s.size ≤ 1000000000) (h : byteAt s k < 32 ∨ 126 < byteAt s k) : LoopT C0 prB (prS s k) .ret prH := by
  by_cases h1 : (↑(s.data.toList.getD (↑k : Int).toNat (0 : UInt8)).toNat : Int) < (32 : Int)
  · exact LoopT.fin (hs := hint [((4,3), {val := some (bl (true))}), ((6,2), {sym := true}), ((6,4), {val := some (bl (true))})]) (f := { ks := [2] }) (ps := [bl (decide ((↑k : Int) < (↑s.size : Int))) = bl (true), decide ((0 : Int) ≤ (↑k : Int) ∧ (↑k : Int) < (↑s.size : Int)) = true, bl (decide ((↑(s.data.toList.getD (↑k : Int).toNat (0 : UInt8)).toNat : Int) < (32 : Int))) = bl (true), true = true]) (by kernel_rfl) ⟨(bdT (by omega)), (by (simp; omega)), (bdT h1), rfl, trivial⟩ (by decide)
  · by_cases h2 : (↑(s.data.toList.getD (↑k : Int).toNat (0 : UInt8)).toNat : Int) > (126 : Int)
    · exact LoopT.fin (hs := hint [((4,3), {val := some (bl (true))}), ((6,2), {sym := true}), ((6,4), {val := some (bl (false))}), ((6,7), {sym := true}), ((6,9), {val := some (bl (true))})]) (f := { ks := [2] }) (ps := [bl (decide ((↑k : Int) < (↑s.size : Int))) = bl (true), decide ((0 : Int) ≤ (↑k : Int) ∧ (↑k : Int) < (↑s.size : Int)) = true, bl (decide ((↑(s.data.toList.getD (↑k : Int).toNat (0 : UInt8)).toNat : Int) < (32 : Int))) = bl (false), decide ((0 : Int) ≤ (↑k : Int) ∧ (↑k : Int) < (↑s.size : Int)) = true, bl (decide ((↑(s.data.toList.getD (↑k : Int).toNat (0 : UInt8)).toNat : Int) > (126 : Int))) = bl (true), true = true]) (by kernel_rfl) ⟨(bdT (by omega)), (by (simp; omega)), (bdF h1), (by (simp; omega)), (bdT h2), rfl, trivial⟩ (by decide)
    · exact False.elim (by (simp_all; done))
theorem pr_end (s : ByteArray) : LoopT C0 prB (prS s s.size) (.exit 0) (prS s s.size) := by
  exact LoopT.fin (hs := hint [((4,3), {val := some (bl (false))})]) (f := { ks := [0, 3] }) (ps := [bl (decide ((↑s.size : Int) < (↑s.size : Int))) = bl (false), true = true]) (by kernel_rfl) ⟨(bdF (by omega)), rfl, trivial⟩ (by decide)
theorem pr_go (s : ByteArray) (hl : s.size ≤ 1000000000) : ((idxD badB s.data.toList).isNone = true ∧ LoopT C0 prB (prS s 0) (.exit 0) (prS s s.size)) ∨ ((idxD badB s.data.toList).isNone = false ∧ LoopT C0 prB (prS s 0) .ret prH) := by
  have hb : ∀ k, badB (nth s.data.toList k) = true ↔ (byteAt s k < 32 ∨ 126 < byteAt s k) := fun k => by
    rw [byte_nth, badB, decide_eq_true_eq]; omega
  cases h : idxD badB s.data.toList with
  | none =>
    refine .inl ⟨rfl, LoopT.count (prS s) s.size (fun k hk => pr_step s k hk hl ?_) (pr_end s) 0 (by omega)⟩
    rw [← hb]
    exact idx_none h k (by rw [size_len]; exact hk)
  | some m =>
    obtain ⟨h1, h2, h3⟩ := idx_some h
    rw [size_len] at h1
    exact .inr ⟨rfl, LoopT.count (prS s) m (fun k hk => pr_step s k (by omega) hl (by rw [← hb]; exact h3 k hk)) (pr_hit s m h1 hl ((hb m).1 h2)) 0 (by omega)⟩
noncomputable def rrB : Code := loopOf Tryd.prog 25 2
def rrS (s : ByteArray) (k : Nat) : St := ⟨mkT 28 [(0, st s), (3, i64 k)], []⟩
def rrH : St := ⟨mkT 28 [(2, bl false)], []⟩
theorem rr_step (s : ByteArray) (k : Nat) (hk : k < s.size) (hl : s.size ≤ 1000000000) (h : ¬ (byteAt s k < 32 ∨ 126 < byteAt s k)) : Tri C0 rrB (rrS s k) .normal (rrS s (k + 1)) := by
  by_cases h1 : (↑(s.data.toList.getD (↑k : Int).toNat (0 : UInt8)).toNat : Int) < (32 : Int)
  · exact False.elim (by (simp_all; done))
  · by_cases h2 : (↑(s.data.toList.getD (↑k : Int).toNat (0 : UInt8)).toNat : Int) > (126 : Int)
    · exact False.elim (by (simp_all; done))
    · exact runF_ok (hs := hint [((2,3), {val := some (bl (true))}), ((4,2), {sym := true}), ((4,4), {val := some (bl (false))}), ((4,7), {sym := true}), ((4,9), {val := some (bl (false))}), ((3,1), {val := some (i64 ((↑k : Int) + (1 : Int)))})]) (f := { ks := [0, 3] }) (ps := [bl (decide ((↑k : Int) < (↑s.size : Int))) = bl (true), decide ((0 : Int) ≤ (↑k : Int) ∧ (↑k : Int) < (↑s.size : Int)) = true, bl (decide ((↑(s.data.toList.getD (↑k : Int).toNat (0 : UInt8)).toNat : Int) < (32 : Int))) = bl (false), decide ((0 : Int) ≤ (↑k : Int) ∧ (↑k : Int) < (↑s.size : Int)) = true, bl (decide ((↑(s.data.toList.getD (↑k : Int).toNat (0 : UInt8)).toNat : Int) > (126 : Int))) = bl (false), i64 (IntKind.i64.wrap ((↑k : Int) + (1 : Int))) = i64 ((↑k : Int) + (1 : Int)), true = true]) (by kernel_rfl) ⟨(bdT (by omega)), (by (simp; omega)), (bdF h1), (by (simp; omega)), (bdF h2), (intE (by exact wrap_i64 (by omega) (by omega))), rfl, trivial⟩
theorem rr_hit (s : ByteArray) (k : Nat) (hk : k < s.size) (hl : s.size ≤ 1000000000) (h : byteAt s k < 32 ∨ 126 < byteAt s k) : LoopT C0 rrB (rrS s k) .ret rrH := by
  by_cases h1 : (↑(s.data.toList.getD (↑k : Int).toNat (0 : UInt8)).toNat : Int) < (32 : Int)
  · exact LoopT.fin (hs := hint [((2,3), {val := some (bl (true))}), ((4,2), {sym := true}), ((4,4), {val := some (bl (true))})]) (f := { ks := [2] }) (ps := [bl (decide ((↑k : Int) < (↑s.size : Int))) = bl (true), decide ((0 : Int) ≤ (↑k : Int) ∧ (↑k : Int) < (↑s.size : Int)) = true, bl (decide ((↑(s.data.toList.getD (↑k : Int).toNat (0 : UInt8)).toNat : Int) < (32 : Int))) = bl (true), true = true]) (by kernel_rfl) ⟨(bdT (by omega)), (by (simp; omega)), (bdT h1), rfl, trivial⟩ (by decide)
  · by_cases h2 : (↑(s.data.toList.getD (↑k : Int).toNat (0 : UInt8)).toNat : Int) > (126 : Int)
    · exact LoopT.fin (hs := hint [((2,3), {val := some (bl (true))}), ((4,2), {sym := true}), ((4,4), {val := some (bl (false))}), ((4,7), {sym := true}), ((4,9), {val := some (bl (true))})]) (f := { ks := [2] }) (ps := [bl (decide ((↑k : Int) < (↑s.size : Int))) = bl (true), decide ((0 : Int) ≤ (↑k : Int) ∧ (↑k : Int) < (↑s.size : Int)) = true, bl (decide ((↑(s.data.toList.getD (↑k : Int).toNat (0 : UInt8)).toNat : Int) < (32 : Int))) = bl (false), decide ((0 : Int) ≤ (↑k : Int) ∧ (↑k : Int) < (↑s.size : Int)) = true, bl (decide ((↑(s.data.toList.getD (↑k : Int).toNat (0 : UInt8)).toNat : Int) > (126 : Int))) = bl (true), true = true]) (by kernel_rfl) ⟨(bdT (by omega)), (by (simp; omega)), (bdF h1), (by (simp; omega)), (bdT h2), rfl, trivial⟩ (by decide)
    · exact False.elim (by (simp_all; done))
theorem rr_end (s : ByteArray) : LoopT C0 rrB (rrS s s.size) (.exit 0) (rrS s s.size) := by
  exact LoopT.fin (hs := hint [((2,3), {val := some (bl (false))})]) (f := { ks := [0, 3] }) (ps := [bl (decide ((↑s.size : Int) < (↑s.size : Int))) = bl (false), true = true]) (by kernel_rfl) ⟨(bdF (by omega)), rfl, trivial⟩ (by decide)
theorem rr_go (s : ByteArray) (hl : s.size ≤ 1000000000) : ((idxD badB s.data.toList).isNone = true ∧ LoopT C0 rrB (rrS s 0) (.exit 0) (rrS s s.size)) ∨ ((idxD badB s.data.toList).isNone = false ∧ LoopT C0 rrB (rrS s 0) .ret rrH) := by
  have hb : ∀ k, badB (nth s.data.toList k) = true ↔ (byteAt s k < 32 ∨ 126 < byteAt s k) := fun k => by
    rw [byte_nth, badB, decide_eq_true_eq]; omega
  cases h : idxD badB s.data.toList with
  | none =>
    refine .inl ⟨rfl, LoopT.count (rrS s) s.size (fun k hk => rr_step s k hk hl ?_) (rr_end s) 0 (by omega)⟩
    rw [← hb]
    exact idx_none h k (by rw [size_len]; exact hk)
  | some m =>
    obtain ⟨h1, h2, h3⟩ := idx_some h
    rw [size_len] at h1
    exact .inr ⟨rfl, LoopT.count (rrS s) m (fun k hk => rr_step s k (by omega) hl (by rw [← hb]; exact h3 k hk)) (rr_hit s m h1 hl ((hb m).1 h2)) 0 (by omega)⟩
theorem right_ok (s : ByteArray) : Pu 21 [st s] (bl (rightD s)) := by
  unfold rightD
  by_cases h : 1 ≤ s.size ∧ s.size ≤ 255
  · rw [decide_eq_true h, Bool.true_and]
    rcases pr_go s (by omega) with ⟨e, L⟩ | ⟨e, L⟩
    · rw [e]
      exact pure_of (hs := hint [((1,3), {val := some (bl (false))}), ((1,7), {val := some (bl (false))}), ((4,1000), {loop := some ({ ks := [0, 3] }, prS s (0 : Nat), Ex.exit (0 : Nat), prS s s.size)})]) (ps := [bl (decide ((↑s.size : Int) < (1 : Int))) = bl (false), bl (decide ((↑s.size : Int) > (255 : Int))) = bl (false), prS s (0 : Nat) = prS s (0 : Nat), _, true = true]) (by kernel_rfl) ⟨(bdF (by omega)), (bdF (by omega)), rfl, L, rfl, trivial⟩
    · rw [e]
      exact pure_of (hs := hint [((1,3), {val := some (bl (false))}), ((1,7), {val := some (bl (false))}), ((4,1000), {loop := some ({ ks := [0, 3] }, prS s (0 : Nat), Ex.ret, prH)})]) (ps := [bl (decide ((↑s.size : Int) < (1 : Int))) = bl (false), bl (decide ((↑s.size : Int) > (255 : Int))) = bl (false), prS s (0 : Nat) = prS s (0 : Nat), _, true = true]) (by kernel_rfl) ⟨(bdF (by omega)), (bdF (by omega)), rfl, L, rfl, trivial⟩
  · rw [decide_eq_false h, Bool.false_and]
    by_cases h1 : (↑s.size : Int) < (1 : Int)
    · exact pure_of (hs := hint [((1,3), {val := some (bl (true))})]) (ps := [bl (decide ((↑s.size : Int) < (1 : Int))) = bl (true)]) (by kernel_rfl) ⟨(bdT h1), trivial⟩
    · exact pure_of (hs := hint [((1,3), {val := some (bl (false))}), ((1,7), {val := some (bl (true))})]) (ps := [bl (decide ((↑s.size : Int) < (1 : Int))) = bl (false), bl (decide ((↑s.size : Int) > (255 : Int))) = bl (true)]) (by kernel_rfl) ⟨(bdF h1), (bdT (by omega)), trivial⟩
theorem rright_ok (s : ByteArray) (hl : s.size ≤ 1000000000) : Pu 25 [st s] (bl (rightD s)) := by
  unfold rightD
  rcases rr_go s hl with ⟨e, L⟩ | ⟨e, L⟩
  · rw [e, Bool.and_true]
    by_cases h1 : (↑s.size : Int) ≥ (1 : Int)
    · exact pure_cast (pure_of (hs := hint [((2,1000), {loop := some ({ ks := [0, 3] }, rrS s (0 : Nat), Ex.exit (0 : Nat), rrS s s.size)}), ((6,3), {val := some (bl (true))})]) (r := bl (decide ((↑s.size : Int) ≤ (255 : Int)))) (ps := [rrS s (0 : Nat) = rrS s (0 : Nat), _, true = true, bl (decide ((↑s.size : Int) ≥ (1 : Int))) = bl (true)]) (by kernel_rfl) ⟨rfl, L, rfl, (bdT h1), trivial⟩) (by exact dec_dec (by omega))
    · exact pure_cast (pure_of (hs := hint [((2,1000), {loop := some ({ ks := [0, 3] }, rrS s (0 : Nat), Ex.exit (0 : Nat), rrS s s.size)}), ((6,3), {val := some (bl (false))})]) (r := bl (false)) (ps := [rrS s (0 : Nat) = rrS s (0 : Nat), _, true = true, bl (decide ((↑s.size : Int) ≥ (1 : Int))) = bl (false)]) (by kernel_rfl) ⟨rfl, L, rfl, (bdF h1), trivial⟩) (by exact bl_ndec (by omega))
  · rw [e, Bool.and_false]
    exact pure_of (hs := hint [((2,1000), {loop := some ({ ks := [0, 3] }, rrS s (0 : Nat), Ex.ret, rrH)})]) (ps := [rrS s (0 : Nat) = rrS s (0 : Nat), _, true = true]) (by kernel_rfl) ⟨rfl, L, rfl, trivial⟩
/-! Find, Same, Short -/
def eqD (s x : ByteArray) : Bool := decide (x = s)
def numD (l : List ByteArray) (s : ByteArray) : Int := match idxD (eqD s) l with
  | some k => k + 1
  | none => 0
noncomputable def rfB : Code := loopOf Tryd.prog 17 2
def rfS (l : List ByteArray) (s : ByteArray) (k : Nat) : St := ⟨mkT 20 [(0, slS l), (1, st s), (5, i64 k)], []⟩
def rfH (l : List ByteArray) (s : ByteArray) (k : Nat) : St := ⟨mkT 20 [(4, i64 (k + 1))], []⟩
theorem rf_step (l : List ByteArray) (s : ByteArray) (k : Nat) (hk : k < l.length) (hl : l.length ≤ 1000000)  (hp : ¬ eqD s (nth l k) = true) : Tri C0 rfB (rfS l s k) .normal (rfS l s (k + 1)) := by
  simp only [eqD, decide_eq_true_eq] at hp
  exact runF_ok (hs := hint [((2,3), {val := some (bl (true))}), ((4,2), {cells := some (eS (nth l k) ++ List.flatMap eS (List.drop (k + (1 : Nat)) l)), sym := true}), ((4,5), {val := some (bl (false))}), ((3,1), {val := some (i64 ((↑k : Int) + (1 : Int)))})]) (f := { ks := [0, 1, 5] }) (ps := [bl (decide ((↑k : Int) < (↑l.length : Int))) = bl (true), decide ((0 : Int) ≤ (↑k : Int) ∧ (↑k : Int) < (↑l.length : Int)) = true, ((List.drop ((↑k : Int).toNat * (1 : Nat)) (List.flatMap eS l)) : List AV) = (eS (nth l k) ++ List.flatMap eS (List.drop (k + (1 : Nat)) l)), bl ((nth l k).toList == s.toList) = bl (false), i64 (IntKind.i64.wrap ((↑k : Int) + (1 : Int))) = i64 ((↑k : Int) + (1 : Int)), true = true]) (by kernel_rfl) ⟨(bdT (by omega)), (by exact decide_t (by omega)), (by exact flat_nth (sz := 1) (k := k) (fun _ => rfl) (by omega)), (bsF (by assumption)), (intE (by exact wrap_i64 (by omega) (by omega))), rfl, trivial⟩
theorem rf_hit (l : List ByteArray) (s : ByteArray) (k : Nat) (hk : k < l.length) (hl : l.length ≤ 1000000)  (hp : eqD s (nth l k) = true) : LoopT C0 rfB (rfS l s k) .ret (rfH l s k) := by
  simp only [eqD, decide_eq_true_eq] at hp
  exact LoopT.fin (hs := hint [((2,3), {val := some (bl (true))}), ((4,2), {cells := some (eS (nth l k) ++ List.flatMap eS (List.drop (k + (1 : Nat)) l)), sym := true}), ((4,5), {val := some (bl (true))}), ((5,1), {val := some (i64 ((↑k : Int) + (1 : Int)))})]) (f := { ks := [4] }) (ps := [bl (decide ((↑k : Int) < (↑l.length : Int))) = bl (true), decide ((0 : Int) ≤ (↑k : Int) ∧ (↑k : Int) < (↑l.length : Int)) = true, ((List.drop ((↑k : Int).toNat * (1 : Nat)) (List.flatMap eS l)) : List AV) = (eS (nth l k) ++ List.flatMap eS (List.drop (k + (1 : Nat)) l)), bl ((nth l k).toList == s.toList) = bl (true), i64 (IntKind.i64.wrap ((↑k : Int) + (1 : Int))) = i64 ((↑k : Int) + (1 : Int)), true = true]) (by kernel_rfl) ⟨(bdT (by omega)), (by exact decide_t (by omega)), (by exact flat_nth (sz := 1) (k := k) (fun _ => rfl) (by omega)), (bsT (by assumption)), (intE (by exact wrap_i64 (by omega) (by omega))), rfl, trivial⟩ (by decide)
theorem rf_end (l : List ByteArray) (s : ByteArray)  : LoopT C0 rfB (rfS l s l.length) (.exit 0) (rfS l s l.length) := by
  exact LoopT.fin (hs := hint [((2,3), {val := some (bl (false))})]) (f := { ks := [0, 1, 5] }) (ps := [bl (decide ((↑l.length : Int) < (↑l.length : Int))) = bl (false), true = true]) (by kernel_rfl) ⟨(bdF (by omega)), rfl, trivial⟩ (by decide)
theorem rfind_ok (l : List ByteArray) (s : ByteArray) (hl : l.length ≤ 1000000) : Pu 17 [slS l, st s] (i64 (numD l s)) := by
  unfold numD
  cases h : idxD (eqD s) l with
  | some m =>
    obtain ⟨h1, h2, h3⟩ := idx_some h
    have L := LoopT.count (rfS l s) m (fun k hk => rf_step l s k (by omega) hl (h3 k hk)) (rf_hit l s m h1 hl h2) 0 (by omega)
    exact pure_of (hs := hint [((2,1000), {loop := some ({ ks := [0, 1, 5] }, rfS l s (0 : Nat), Ex.ret, rfH l s m)})]) (ps := [rfS l s (0 : Nat) = rfS l s (0 : Nat), _, true = true]) (by kernel_rfl) ⟨rfl, L, rfl, trivial⟩
  | none =>
    have L := LoopT.count (rfS l s) l.length (fun k hk => rf_step l s k hk hl (idx_none h k hk)) (rf_end l s) 0 (by omega)
    exact pure_of (hs := hint [((2,1000), {loop := some ({ ks := [0, 1, 5] }, rfS l s (0 : Nat), Ex.exit (0 : Nat), rfS l s l.length)})]) (ps := [rfS l s (0 : Nat) = rfS l s (0 : Nat), _, true = true]) (by kernel_rfl) ⟨rfl, L, rfl, trivial⟩
/-- two rows alike -/
noncomputable def smB : Code := loopOf Tryd.prog 18 4
def smS (a b : List ByteArray) (k : Nat) : St := ⟨mkT 26 [(0, slS a), (1, slS b), (5, i64 k)], []⟩
theorem sm_step (a b : List ByteArray) (k : Nat) (ha : k < a.length) (hb : k < b.length) (hl : a.length ≤ 1000000) (he : nth a k = nth b k) : Tri C0 smB (smS a b k) .normal (smS a b (k + 1)) := by
  exact runF_ok (hs := hint [((4,3), {val := some (bl (true))}), ((6,2), {cells := some (eS (nth a k) ++ List.flatMap eS (List.drop (k + (1 : Nat)) a)), sym := true}), ((6,6), {cells := some (eS (nth b k) ++ List.flatMap eS (List.drop (k + (1 : Nat)) b)), sym := true}), ((6,8), {val := some (bl (false))}), ((5,1), {val := some (i64 ((↑k : Int) + (1 : Int)))})]) (f := { ks := [0, 1, 5] }) (ps := [bl (decide ((↑k : Int) < (↑a.length : Int))) = bl (true), decide ((0 : Int) ≤ (↑k : Int) ∧ (↑k : Int) < (↑a.length : Int)) = true, ((List.drop ((↑k : Int).toNat * (1 : Nat)) (List.flatMap eS a)) : List AV) = (eS (nth a k) ++ List.flatMap eS (List.drop (k + (1 : Nat)) a)), decide ((0 : Int) ≤ (↑k : Int) ∧ (↑k : Int) < (↑b.length : Int)) = true, ((List.drop ((↑k : Int).toNat * (1 : Nat)) (List.flatMap eS b)) : List AV) = (eS (nth b k) ++ List.flatMap eS (List.drop (k + (1 : Nat)) b)), bl (!(nth a k).toList == (nth b k).toList) = bl (false), i64 (IntKind.i64.wrap ((↑k : Int) + (1 : Int))) = i64 ((↑k : Int) + (1 : Int)), true = true]) (by kernel_rfl) ⟨(bdT (by omega)), (by exact decide_t (by omega)), (by exact flat_nth (sz := 1) (k := k) (fun _ => rfl) (by omega)), (by exact decide_t (by omega)), (by exact flat_nth (sz := 1) (k := k) (fun _ => rfl) (by omega)), (bnT (bsT (by assumption))), (intE (by exact wrap_i64 (by omega) (by omega))), rfl, trivial⟩
theorem sm_end (a b : List ByteArray) : LoopT C0 smB (smS a b a.length) (.exit 0) (smS a b a.length) := by
  exact LoopT.fin (hs := hint [((4,3), {val := some (bl (false))})]) (f := { ks := [0, 1, 5] }) (ps := [bl (decide ((↑a.length : Int) < (↑a.length : Int))) = bl (false), true = true]) (by kernel_rfl) ⟨(bdF (by omega)), rfl, trivial⟩ (by decide)
theorem same_ok (a : List ByteArray) (hl : a.length ≤ 1000000) : Pu 18 [slS a, slS a] (bl true) := by
  have L := LoopT.count (smS a a) a.length (fun k hk => sm_step a a k hk hk hl rfl) (sm_end a a) 0 (by omega)
  exact pure_of (hs := hint [((1,4), {val := some (bl (false))}), ((4,1000), {loop := some ({ ks := [0, 1, 5] }, smS a a (0 : Nat), Ex.exit (0 : Nat), smS a a a.length)})]) (ps := [bl ((↑a.length : Int) != (↑a.length : Int)) = bl (false), smS a a (0 : Nat) = smS a a (0 : Nat), _, true = true]) (by kernel_rfl) ⟨(neT (by omega)), rfl, L, rfl, trivial⟩
/-! Short -/
noncomputable def shB : Code := loopOf Tryd.prog 10 2
def shS (l : List ByteArray) (m : Int) (k : Nat) : St := ⟨mkT 27 [(0, slS l), (1, i64 m), (5, i64 k)], []⟩
def shH : St := ⟨mkT 27 [(4, bl false)], []⟩
theorem sh_step (l : List ByteArray) (m : Int) (k : Nat) (hk : k < l.length) (hm : (k : Int) ≤ m) (hm2 : m ≤ 1000) (hs : ¬ (nth l k).size > 300) : Tri C0 shB (shS l m k) .normal (shS l m (k + 1)) := by
  exact runF_ok (hs := hint [((2,4), {val := some (bl (true))}), ((2,8), {val := some (bl (true))}), ((4,2), {cells := some (eS (nth l k) ++ List.flatMap eS (List.drop (k + (1 : Nat)) l)), sym := true}), ((4,5), {val := some (bl (false))}), ((3,1), {val := some (i64 ((↑k : Int) + (1 : Int)))})]) (f := { ks := [0, 1, 5] }) (ps := [bl (decide ((↑k : Int) < (↑l.length : Int))) = bl (true), bl (decide ((↑k : Int) ≤ m)) = bl (true), decide ((0 : Int) ≤ (↑k : Int) ∧ (↑k : Int) < (↑l.length : Int)) = true, ((List.drop ((↑k : Int).toNat * (1 : Nat)) (List.flatMap eS l)) : List AV) = (eS (nth l k) ++ List.flatMap eS (List.drop (k + (1 : Nat)) l)), bl (decide ((↑(nth l k).size : Int) > (300 : Int))) = bl (false), i64 (IntKind.i64.wrap ((↑k : Int) + (1 : Int))) = i64 ((↑k : Int) + (1 : Int)), true = true]) (by kernel_rfl) ⟨(bdT (by omega)), (bdT (by assumption)), (by exact decide_t (by omega)), (by exact flat_nth (sz := 1) (k := k) (fun _ => rfl) (by omega)), (bdF (by omega)), (intE (by exact wrap_i64 (by omega) (by omega))), rfl, trivial⟩
theorem sh_hit (l : List ByteArray) (m : Int) (k : Nat) (hk : k < l.length) (hm : (k : Int) ≤ m) (hm2 : m ≤ 1000) (hs : (nth l k).size > 300) : LoopT C0 shB (shS l m k) .ret shH := by
  exact LoopT.fin (hs := hint [((2,4), {val := some (bl (true))}), ((2,8), {val := some (bl (true))}), ((4,2), {cells := some (eS (nth l k) ++ List.flatMap eS (List.drop (k + (1 : Nat)) l)), sym := true}), ((4,5), {val := some (bl (true))})]) (f := { ks := [4] }) (ps := [bl (decide ((↑k : Int) < (↑l.length : Int))) = bl (true), bl (decide ((↑k : Int) ≤ m)) = bl (true), decide ((0 : Int) ≤ (↑k : Int) ∧ (↑k : Int) < (↑l.length : Int)) = true, ((List.drop ((↑k : Int).toNat * (1 : Nat)) (List.flatMap eS l)) : List AV) = (eS (nth l k) ++ List.flatMap eS (List.drop (k + (1 : Nat)) l)), bl (decide ((↑(nth l k).size : Int) > (300 : Int))) = bl (true), true = true]) (by kernel_rfl) ⟨(bdT (by omega)), (bdT (by assumption)), (by exact decide_t (by omega)), (by exact flat_nth (sz := 1) (k := k) (fun _ => rfl) (by omega)), (bdT (by omega)), rfl, trivial⟩ (by decide)
theorem sh_end (l : List ByteArray) (m : Int) (k : Nat) (hk : ¬ (k < l.length ∧ (k : Int) ≤ m)) : LoopT C0 shB (shS l m k) (.exit 0) (shS l m k) := by
  by_cases h1 : (↑k : Int) < (↑l.length : Int)
  · exact LoopT.fin (hs := hint [((2,4), {val := some (bl (true))}), ((2,8), {val := some (bl (false))})]) (f := { ks := [0, 1, 5] }) (ps := [bl (decide ((↑k : Int) < (↑l.length : Int))) = bl (true), bl (decide ((↑k : Int) ≤ m)) = bl (false), true = true]) (by kernel_rfl) ⟨(bdT h1), (bdF (by omega)), rfl, trivial⟩ (by decide)
  · exact LoopT.fin (hs := hint [((2,4), {val := some (bl (false))})]) (f := { ks := [0, 1, 5] }) (ps := [bl (decide ((↑k : Int) < (↑l.length : Int))) = bl (false), true = true]) (by kernel_rfl) ⟨(bdF h1), rfl, trivial⟩ (by decide)
/-- names that aren't too many, nor too long -/
def shortD (l : List ByteArray) (m : Nat) : Bool := decide (l.length ≤ m) && (l.take (m + 1)).all fun s => decide (s.size ≤ 300)
theorem nth_take (l : List ByteArray) (n j : Nat) (h : j < n) : nth (l.take n) j = nth l j := by
  simp [nth, List.getD_eq_getElem?_getD, List.getElem?_take, h]
theorem short_ok (l : List ByteArray) (m : Nat) (hm : m ≤ 1000) : Pu 10 [slS l, i64 m] (bl (shortD l m)) := by
  unfold shortD
  cases h : idxD (fun s : ByteArray => decide (s.size > 300)) (l.take (m + 1)) with
  | some k =>
    obtain ⟨h1, h2, h3⟩ := idx_some h
    have hl : k < l.length ∧ k ≤ m := by rw [List.length_take] at h1; omega
    have e : (l.take (m + 1)).all (fun s => decide (s.size ≤ 300)) = false := by
      rw [List.all_eq_false]
      refine ⟨_, nth_mem h1, ?_⟩
      simp only [decide_eq_true_eq] at h2 ⊢
      omega
    rw [e, Bool.and_false]
    have L := LoopT.count (shS l m) k (fun j hj => by
      have := h3 j hj
      rw [nth_take l _ j (by omega)] at this
      exact sh_step l m j (by omega) (by omega) (by omega) (by simpa using this)) (sh_hit l m k hl.1 (by omega) (by omega) (by rw [nth_take l _ k (by omega)] at h2; simpa using h2)) 0 (by omega)
    exact pure_of (hs := hint [((2,1000), {loop := some ({ ks := [0, 1, 5] }, shS l (↑m : Int) (0 : Nat), Ex.ret, shH)})]) (ps := [shS l (↑m : Int) (0 : Nat) = shS l (↑m : Int) (0 : Nat), _, true = true]) (by kernel_rfl) ⟨rfl, L, rfl, trivial⟩
  | none =>
    have h3 := idx_none h
    have e : (l.take (m + 1)).all (fun s => decide (s.size ≤ 300)) = true := by
      rw [List.all_eq_true]
      intro s hs
      obtain ⟨j, hj, rfl⟩ := List.getElem_of_mem hs
      have := h3 j hj
      rw [nth_eq hj] at this
      simp only [decide_eq_true_eq] at this ⊢
      omega
    rw [e, Bool.and_true]
    have L := LoopT.count (shS l m) (min l.length (m + 1)) (fun j hj => by
      have := h3 j (by rw [List.length_take]; omega)
      rw [nth_take l _ j (by omega)] at this
      exact sh_step l m j (by omega) (by omega) (by omega) (by simpa using this)) (sh_end l m _ (by omega)) 0 (by omega)
    exact pure_cast (pure_of (hs := hint [((2,1000), {loop := some ({ ks := [0, 1, 5] }, shS l (↑m : Int) (0 : Nat), Ex.exit (0 : Nat), shS l (↑m : Int) (min l.length (m + (1 : Nat))))})]) (r := bl (decide ((↑l.length : Int) ≤ (↑m : Int)))) (ps := [shS l (↑m : Int) (0 : Nat) = shS l (↑m : Int) (0 : Nat), _, true = true]) (by kernel_rfl) ⟨rfl, L, rfl, trivial⟩) (by exact dec_dec (by omega))
theorem short_len {l : List ByteArray} {m : Nat} (h : shortD l m = true) : l.length ≤ m ∧ ∀ s ∈ l, s.size ≤ 300 := by
  unfold shortD at h
  rw [Bool.and_eq_true, decide_eq_true_eq] at h
  refine ⟨h.1, fun s hs => ?_⟩
  have := List.all_eq_true.1 h.2 s (by rw [List.take_of_length_le (by omega)]; exact hs)
  simpa using this
end Go.Proofs.YtgbpjpacmepicaaDoor
