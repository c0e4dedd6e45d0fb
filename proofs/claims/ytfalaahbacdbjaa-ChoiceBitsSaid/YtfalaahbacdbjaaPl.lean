/- Find, by the program; Copy, copied. By the prover of this seat. -/
import Derived.Test.YtfalaahbacdbjaaPk
set_option linter.unusedVariables false
set_option linter.unusedSimpArgs false
set_option maxRecDepth 100000
set_option maxHeartbeats 4000000
namespace Go.Proofs.Ytfalaahbacdbjaa
open Go.RowKit Go.Pm
theorem mN_nat (n : Nat) (h : n < 8192) : mN (n : Int) = n := by unfold mN; omega
noncomputable def pfB : Code := loopOf Try.prog 11 3
def pfS (l : List Row) (path : List Int) (n : Nat) (k : Nat) : St := ⟨mkT 38 [(2, i64 n), (3, .ptr 0 0), (13, slI path), (14, i64 path.length), (15, i64 k)], [.arr 2 [.mp (rowsK l), .mp (rowsT l)] 0]⟩
def pfH (id : Int) (w : List Int) : St := ⟨mkT 38 [(6, u32 id), (7, slJ w)], []⟩
def pfE : St := ⟨mkT 38 [], []⟩
theorem pf_step (l : List Row) (h : LOk l) (path : List Int) (n : Nat) (k : Nat) (hk : k < path.length) (hl : path.length ≤ 1000000) (v x : Int) (h2 : 0 ≤ nth path k) (h3 : nth path k ≤ 4294967295) (hW : Pu 14 [tabC l, u32 (nth path k), i64 n] (slJ [])) (hv : lookV false (mfind (rowsT l) (u32 (nth path k))) (i64 0) = i64 v) (hx : andI v n = x) (hy : x = 0) : Tri C0 pfB (pfS l path n k) .normal (pfS l path n (k + 1)) := by
  have q1 := kwfS h2 h3
  have q2 := allK_t h
  exact runF_ok (hs := hint [((3,0), {val := some (bl (true))}), ((4,0), {cells := some (eI (nth path k) ++ List.flatMap eI (List.drop (k + (1 : Nat)) path)), sym := true}), ((5,3), {call := some ((slJ []))}), ((8,3), { sym := true, val := some (i64 v) }), ((8,5), { val := some (i64 x) }), ((8,7), {val := some (bl (false))}), ((9,0), {val := some (i64 ((↑k : Int) + (1 : Int)))})]) (f := { ks := [2, 3, 13, 14, 15], l := [0] }) (ps := [bl (decide ((↑k : Int) < (↑path.length : Int))) = bl (true), decide ((0 : Int) ≤ (↑k : Int) ∧ (↑k : Int) < (↑path.length : Int)) = true, ((List.drop ((↑k : Int).toNat * (1 : Nat)) (List.flatMap eI path)) : List AV) = (eI (nth path k) ++ List.flatMap eI (List.drop (k + (1 : Nat)) path)), _, true = true, kwf C0.P (33 : Nat) (AV.s (Value.int IntKind.u32 (nth path k))) = true, allK C0.P (33 : Nat) (rowsT l) = true, (match mfind (rowsT l) (AV.s (Value.int IntKind.u32 (nth path k))) with
  | some v => if false = true then AV.tup [v, AV.s (Value.bool true)] else v
  | none => if false = true then AV.tup [ofV (Value.int IntKind.i64 (0 : Int)), AV.s (Value.bool false)] else ofV (Value.int IntKind.i64 (0 : Int))) = i64 (v), i64 (IntKind.i64.wrap (↑(BitVec.ofInt (64 : Nat) v &&& BitVec.ofInt (64 : Nat) (↑n : Int)).toNat : Int)) = i64 (x), bl (x != (0 : Int)) = bl (false), i64 (IntKind.i64.wrap ((↑k : Int) + (1 : Int))) = i64 ((↑k : Int) + (1 : Int)), true = true, true = true]) (by kernel_rfl) ⟨(bdT (by omega)), (by exact decide_t (by omega)), (by exact flat_nth (sz := 1) (k := k) (fun _ => rfl) (by omega)), (hW), (by (first | assumption | exact hv | rfl)), (by (first | assumption | exact hv | rfl)), (by (first | assumption | exact hv | rfl)), (by (first | assumption | exact hv | rfl)), (by exact intE hx), (neT (by assumption)), (intE (by exact wrap_i64 (by omega) (by omega))), rfl, rfl, trivial⟩
theorem pf_stop (l : List Row) (h : LOk l) (path : List Int) (n : Nat) (k : Nat) (hk : k < path.length) (hl : path.length ≤ 1000000) (v x : Int) (h2 : 0 ≤ nth path k) (h3 : nth path k ≤ 4294967295) (hW : Pu 14 [tabC l, u32 (nth path k), i64 n] (slJ [])) (hv : lookV false (mfind (rowsT l) (u32 (nth path k))) (i64 0) = i64 v) (hx : andI v n = x) (hy : x ≠ 0) : LoopT C0 pfB (pfS l path n k) (.exit 0) pfE := by
  have q1 := kwfS h2 h3
  have q2 := allK_t h
  exact LoopT.fin (hs := hint [((3,0), {val := some (bl (true))}), ((4,0), {cells := some (eI (nth path k) ++ List.flatMap eI (List.drop (k + (1 : Nat)) path)), sym := true}), ((5,3), {call := some ((slJ []))}), ((8,3), { sym := true, val := some (i64 v) }), ((8,5), { val := some (i64 x) }), ((8,7), {val := some (bl (true))})]) (f := { ks := [] }) (ps := [bl (decide ((↑k : Int) < (↑path.length : Int))) = bl (true), decide ((0 : Int) ≤ (↑k : Int) ∧ (↑k : Int) < (↑path.length : Int)) = true, ((List.drop ((↑k : Int).toNat * (1 : Nat)) (List.flatMap eI path)) : List AV) = (eI (nth path k) ++ List.flatMap eI (List.drop (k + (1 : Nat)) path)), _, true = true, kwf C0.P (33 : Nat) (AV.s (Value.int IntKind.u32 (nth path k))) = true, allK C0.P (33 : Nat) (rowsT l) = true, (match mfind (rowsT l) (AV.s (Value.int IntKind.u32 (nth path k))) with
  | some v => if false = true then AV.tup [v, AV.s (Value.bool true)] else v
  | none => if false = true then AV.tup [ofV (Value.int IntKind.i64 (0 : Int)), AV.s (Value.bool false)] else ofV (Value.int IntKind.i64 (0 : Int))) = i64 (v), i64 (IntKind.i64.wrap (↑(BitVec.ofInt (64 : Nat) v &&& BitVec.ofInt (64 : Nat) (↑n : Int)).toNat : Int)) = i64 (x), bl (x != (0 : Int)) = bl (true), true = true]) (by kernel_rfl) ⟨(bdT (by omega)), (by exact decide_t (by omega)), (by exact flat_nth (sz := 1) (k := k) (fun _ => rfl) (by omega)), (hW), (by (first | assumption | exact hv | rfl)), (by (first | assumption | exact hv | rfl)), (by (first | assumption | exact hv | rfl)), (by (first | assumption | exact hv | rfl)), (by exact intE hx), (neF (by assumption)), rfl, trivial⟩ (by decide)
theorem pf_who (l : List Row) (path : List Int) (n : Nat) (k : Nat) (hk : k < path.length) (hl : path.length ≤ 1000000) (w : List Int) (hw : 0 < w.length) (hW : Pu 14 [tabC l, u32 (nth path k), i64 n] (slJ w)) : LoopT C0 pfB (pfS l path n k) .ret (pfH (nth path k) w) := by
  exact LoopT.fin (hs := hint [((3,0), {val := some (bl (true))}), ((4,0), {cells := some (eI (nth path k) ++ List.flatMap eI (List.drop (k + (1 : Nat)) path)), sym := true}), ((5,3), {call := some ((slJ w))}), ((6,3), {val := some (bl (true))})]) (f := { ks := [6, 7] }) (ps := [bl (decide ((↑k : Int) < (↑path.length : Int))) = bl (true), decide ((0 : Int) ≤ (↑k : Int) ∧ (↑k : Int) < (↑path.length : Int)) = true, ((List.drop ((↑k : Int).toNat * (1 : Nat)) (List.flatMap eI path)) : List AV) = (eI (nth path k) ++ List.flatMap eI (List.drop (k + (1 : Nat)) path)), _, bl (decide ((↑w.length : Int) > (0 : Int))) = bl (true), true = true]) (by kernel_rfl) ⟨(bdT (by omega)), (by exact decide_t (by omega)), (by exact flat_nth (sz := 1) (k := k) (fun _ => rfl) (by omega)), (hW), (bdT (by omega)), rfl, trivial⟩ (by decide)
theorem pf_end (l : List Row) (path : List Int) (n : Nat) : LoopT C0 pfB (pfS l path n path.length) (.exit 0) pfE := by
  exact LoopT.fin (hs := hint [((3,0), {val := some (bl (false))})]) (f := { ks := [] }) (ps := [bl (decide ((↑path.length : Int) < (↑path.length : Int))) = bl (false), true = true]) (by kernel_rfl) ⟨(bdF (by omega)), rfl, trivial⟩ (by decide)
theorem pfind_ok (l : List Row) (h : LOk l) (path : List Int) (hi : ∀ x ∈ path, 0 ≤ x ∧ x ≤ 4294967295) (hp : path.length ≤ 1000000) (mask : Int) : Pu 11 [tabC l, slI path, i64 mask] (.tup [u32 (findR l path (mN mask)).1, slJ (findR l path (mN mask)).2]) := by
  have hn := andI_mN mask
  have hlt := mN_lt mask
  have hr : ∀ r ∈ l, r.m ≤ 8191 := fun r hr => (h.row r hr).2.2.2.2
  have hW : ∀ k, k < path.length → Pu 14 [tabC l, u32 (nth path k), i64 (mN mask)] (slJ (whoR l (nth path k) (mN mask))) := fun k hk => by
    have b := hi _ (nth_mem hk)
    have w := pwho_ok l h (nth path k) (mN mask) b.1 b.2
    rw [mN_nat _ hlt] at w
    exact w
  have hx := fun id => andI_nat (maskR l 0 id) (mN mask) (maskR_le hr 0 id) (by omega)
  have hH := fun id => hasN_eq (maskR l 0 id) (mN mask) (by have := maskR_le hr 0 id; omega)
  have step : ∀ k, k < path.length → ¬ hitF l (mN mask) (nth path k) = true → Tri C0 pfB (pfS l path (mN mask) k) .normal (pfS l path (mN mask) (k + 1)) := fun k hk q => by
    obtain ⟨h1, h2⟩ := hit_no q
    have w := hW k hk
    have b := hi _ (nth_mem hk)
    have x := hH (nth path k)
    rw [h1] at w
    rw [h2] at x
    have x : ¬ (maskR l 0 (nth path k) &&& mN mask) ≠ 0 := fun p => by rw [decide_eq_true p] at x; cases x
    exact pf_step l h path _ k hk hp _ _ b.1 b.2 w (look_t l h.apart _) (hx _) (by omega)
  unfold findR
  generalize mN mask = n at *
  cases q : idxD (hitF l n) path with
  | some m =>
    obtain ⟨h1, h2, h3⟩ := idx_some q
    simp only
    have b := hi _ (nth_mem h1)
    by_cases hw : 0 < (whoR l (nth path m) n).length
    · rw [if_pos hw]
      have L := LoopT.count (pfS l path n) m (fun k hk => step k (by omega) (h3 k hk)) (pf_who l path n m h1 hp _ hw (hW _ h1)) 0 (by omega)
      generalize whoR l (nth path m) n = w at L
      exact pure_of (hs := hint [((1,1), { val := some (i64 n) }), ((3,1000), {loop := some ({ ks := [2, 3, 13, 14, 15], l := [0] }, pfS l path n (0 : Nat), Ex.ret, pfH (nth path m) w)})]) (ps := [i64 (IntKind.i64.wrap (↑(BitVec.ofInt (64 : Nat) mask &&& BitVec.ofInt (64 : Nat) (8191 : Int)).toNat : Int)) = i64 ((↑n : Int)), pfS l path n (0 : Nat) = pfS l path n (0 : Nat), _, true = true, true = true]) (by kernel_rfl) ⟨(by exact intE hn), rfl, L, rfl, rfl, trivial⟩
    · rw [if_neg hw]
      have e := List.length_eq_zero_iff.1 (show (whoR l (nth path m) n).length = 0 by omega)
      have w := hW m h1
      have x := hH (nth path m)
      rw [e] at w
      unfold hitF at h2
      rw [e] at h2
      have h2 : hasN (maskR l 0 (nth path m)) n = true := by simpa using h2
      rw [h2] at x
      have x : (maskR l 0 (nth path m) &&& n) ≠ 0 := of_decide_eq_true x.symm
      have L := LoopT.count (pfS l path n) m (fun k hk => step k (by omega) (h3 k hk)) (pf_stop l h path n m h1 hp _ _ b.1 b.2 w (look_t l h.apart _) (hx _) (by omega)) 0 (by omega)
      exact pure_of (hs := hint [((1,1), { val := some (i64 n) }), ((3,1000), {loop := some ({ ks := [2, 3, 13, 14, 15], l := [0] }, pfS l path n (0 : Nat), Ex.exit (0 : Nat), pfE)})]) (ps := [i64 (IntKind.i64.wrap (↑(BitVec.ofInt (64 : Nat) mask &&& BitVec.ofInt (64 : Nat) (8191 : Int)).toNat : Int)) = i64 ((↑n : Int)), pfS l path n (0 : Nat) = pfS l path n (0 : Nat), _, true = true, true = true]) (by kernel_rfl) ⟨(by exact intE hn), rfl, L, rfl, rfl, trivial⟩
  | none =>
    have L := LoopT.count (pfS l path n) path.length (fun k hk => step k hk (idx_none q k hk)) (pf_end l path n) 0 (by omega)
    exact pure_of (hs := hint [((1,1), { val := some (i64 n) }), ((3,1000), {loop := some ({ ks := [2, 3, 13, 14, 15], l := [0] }, pfS l path n (0 : Nat), Ex.exit (0 : Nat), pfE)})]) (ps := [i64 (IntKind.i64.wrap (↑(BitVec.ofInt (64 : Nat) mask &&& BitVec.ofInt (64 : Nat) (8191 : Int)).toNat : Int)) = i64 ((↑n : Int)), pfS l path n (0 : Nat) = pfS l path n (0 : Nat), _, true = true, true = true]) (by kernel_rfl) ⟨(by exact intE hn), rfl, L, rfl, rfl, trivial⟩
end Go.Proofs.Ytfalaahbacdbjaa
