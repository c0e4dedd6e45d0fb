/- Marks; messages that aren't too long; what a cache tells. By the prover of this seat. -/
import Derived.Test.YtdcoomeagbjhlaaDoorBi
set_option linter.unusedVariables false
set_option linter.unusedSimpArgs false
set_option maxRecDepth 100000
set_option maxHeartbeats 4000000
namespace Go.Proofs.YtdcoomeagbjhlaaDoor.Ca
open Go.RowKit Go.Pm
open Go.Proofs.YtdcoomeagbjhlaaDoor.Or (G1 C1 Pu)
def mk1 (b : ByteArray) (n : Int) : Nat → Int
  | 0 => n
  | i + 1 => (mk1 b n i * 257 + byteAt b i + 1) % 1000000007
def mk2 (b : ByteArray) (n : Int) : Int := mk1 b n b.size * 257 % 1000000007
def mkL (l : List ByteArray) : Nat → Int
  | 0 => 0
  | k + 1 => mk2 (nth l k) (mkL l k)
def markD (l : List ByteArray) : Int := mkL l l.length
theorem mk1_bd (b : ByteArray) (n : Int) (h : 0 ≤ n ∧ n < 1000000007) : ∀ i, 0 ≤ mk1 b n i ∧ mk1 b n i < 1000000007 := by
  intro i
  cases i with
  | zero => exact h
  | succ i => rw [mk1]; omega
theorem mkL_bd (l : List ByteArray) : ∀ k, 0 ≤ mkL l k ∧ mkL l k < 1000000007 := by
  intro k
  cases k with
  | zero => exact ⟨Int.le_refl _, show (0 : Int) < 1000000007 by decide⟩
  | succ k => rw [mkL, mk2]; omega
noncomputable def miB : Code := loopOf Tryd.prog 6 6
def miS (l : List ByteArray) (b : ByteArray) (n : Int) (k i : Nat) : St := ⟨mkT 34 [(3, u64 n), (5, st b), (8, slS l), (9, i64 l.length), (10, i64 k), (15, i64 b.size), (16, i64 i)], []⟩
theorem mi_step (l : List ByteArray) (b : ByteArray) (n n' v : Int) (k i : Nat) (hi : i < b.size) (hb : b.size ≤ 1000000) (h0 : 0 ≤ n) (h1 : n < 1000000007) (v0 : 0 ≤ v) (v1 : v ≤ 255) (hv : byteAt b i = v) (hn : (n * 257 + v + 1) % 1000000007 = n') : Tri C1 miB (miS l b n k i) .normal (miS l b n' k (i + 1)) := by
  exact runF_ok (hs := hint [((6,0), {val := some (bl (true))}), ((8,1), {val := some (u64 (n * (257 : Int)))}), ((8,4), { sym := true, val := some (u8 v) }), ((8,5), {val := some (u64 (v))}), ((8,6), {val := some (u64 (n * (257 : Int) + v))}), ((8,7), {val := some (u64 (n * (257 : Int) + v + (1 : Int)))}), ((8,8), { val := some (u64 n') }), ((9,0), {val := some (i64 ((↑i : Int) + (1 : Int)))})]) (f := { ks := [3, 5, 8, 9, 10, 15, 16] }) (ps := [bl (decide ((↑i : Int) < (↑b.size : Int))) = bl (true), u64 (IntKind.u64.wrap (n * (257 : Int))) = u64 (n * (257 : Int)), decide ((0 : Int) ≤ (↑i : Int) ∧ (↑i : Int) < (↑b.size : Int)) = true, u8 ((↑(b.data.toList.getD (↑i : Int).toNat (0 : UInt8)).toNat : Int)) = u8 (v), u64 (IntKind.u64.wrap v) = u64 (v), u64 (IntKind.u64.wrap (n * (257 : Int) + v)) = u64 (n * (257 : Int) + v), u64 (IntKind.u64.wrap (n * (257 : Int) + v + (1 : Int))) = u64 (n * (257 : Int) + v + (1 : Int)), u64 ((n * (257 : Int) + v + (1 : Int)).tmod (1000000007 : Int)) = u64 (n'), i64 (IntKind.i64.wrap ((↑i : Int) + (1 : Int))) = i64 ((↑i : Int) + (1 : Int)), true = true]) (by kernel_rfl) ⟨(bdT (by omega)), (intE (by exact wrap_u64 (by omega) (by omega))), (by (first | exact intE hv | exact decide_t ⟨by omega, by omega⟩)), (by (first | exact intE hv | exact decide_t ⟨by omega, by omega⟩)), (intE (by exact wrap_u64 (by omega) (by omega))), (intE (by exact wrap_u64 (by omega) (by omega))), (intE (by exact wrap_u64 (by omega) (by omega))), (by (first | exact intE hn | exact intE (by rw [Int.tmod_eq_emod_of_nonneg (by omega)]; exact hn))), (intE (by exact wrap_i64 (by omega) (by omega))), rfl, trivial⟩
theorem mi_end (l : List ByteArray) (b : ByteArray) (n : Int) (k : Nat) : LoopT C1 miB (miS l b n k b.size) (.exit 2) (miS l b n k b.size) := by
  exact LoopT.fin (hs := hint [((6,0), {val := some (bl (false))})]) (f := { ks := [3, 5, 8, 9, 10, 15, 16] }) (ps := [bl (decide ((↑b.size : Int) < (↑b.size : Int))) = bl (false), true = true]) (by kernel_rfl) ⟨(bdF (by omega)), rfl, trivial⟩ (by decide)
noncomputable def moB : Code := loopOf Tryd.prog 6 3
def moS (l : List ByteArray) (n : Int) (k : Nat) : St := ⟨mkT 34 [(3, u64 n), (8, slS l), (9, i64 l.length), (10, i64 k)], []⟩
theorem mo_step (l : List ByteArray) (n n1 n2 : Int) (k : Nat) (hk : k < l.length) (hl : l.length ≤ 1000) (h0 : 0 ≤ n1) (h1 : n1 < 1000000007) (hn : n1 * 257 % 1000000007 = n2) (L : LoopT C1 miB (miS l (nth l k) n k 0) (.exit 2) (miS l (nth l k) n1 k (nth l k).size)) : Tri C1 moB (moS l n k) .normal (moS l n2 (k + 1)) := by
  exact runF_ok (hs := hint [((3,0), {val := some (bl (true))}), ((4,0), {cells := some (eS (nth l k) ++ List.flatMap eS (List.drop (k + (1 : Nat)) l)), sym := true}), ((6,1000), {loop := some ({ ks := [3, 5, 8, 9, 10, 15, 16] }, miS l (nth l k) n k (0 : Nat), Ex.exit (2 : Nat), miS l (nth l k) n1 k (nth l k).size)}), ((10,1), {val := some (u64 (n1 * (257 : Int)))}), ((10,2), { val := some (u64 n2) }), ((11,0), {val := some (i64 ((↑k : Int) + (1 : Int)))})]) (f := { ks := [3, 8, 9, 10] }) (ps := [bl (decide ((↑k : Int) < (↑l.length : Int))) = bl (true), decide ((0 : Int) ≤ (↑k : Int) ∧ (↑k : Int) < (↑l.length : Int)) = true, ((List.drop ((↑k : Int).toNat * (1 : Nat)) (List.flatMap eS l)) : List AV) = (eS (nth l k) ++ List.flatMap eS (List.drop (k + (1 : Nat)) l)), miS l (nth l k) n k (0 : Nat) = miS l (nth l k) n k (0 : Nat), _, true = true, u64 (IntKind.u64.wrap (n1 * (257 : Int))) = u64 (n1 * (257 : Int)), u64 ((n1 * (257 : Int)).tmod (1000000007 : Int)) = u64 (n2), i64 (IntKind.i64.wrap ((↑k : Int) + (1 : Int))) = i64 ((↑k : Int) + (1 : Int)), true = true]) (by kernel_rfl) ⟨(bdT (by omega)), (by exact decide_t (by omega)), (by exact flat_nth (sz := 1) (k := k) (fun _ => rfl) (by omega)), rfl, L, rfl, (intE (by exact wrap_u64 (by omega) (by omega))), (by (first | exact intE hn | exact intE (by rw [Int.tmod_eq_emod_of_nonneg (by omega)]; exact hn))), (intE (by exact wrap_i64 (by omega) (by omega))), rfl, trivial⟩
theorem mo_end (l : List ByteArray) (n : Int) : LoopT C1 moB (moS l n l.length) (.exit 0) (moS l n l.length) := by
  exact LoopT.fin (hs := hint [((3,0), {val := some (bl (false))})]) (f := { ks := [3, 8, 9, 10] }) (ps := [bl (decide ((↑l.length : Int) < (↑l.length : Int))) = bl (false), true = true]) (by kernel_rfl) ⟨(bdF (by omega)), rfl, trivial⟩ (by decide)
theorem mark_ok (m : Int) (l : List ByteArray) (hl : l.length ≤ 1000) (hs : ∀ x ∈ l, x.size ≤ 1000000) : Pu 6 [cacheA m l] (u64 (markD l)) := by
  have L := LoopT.count (fun k => moS l (mkL l k) k) l.length (fun k hk => by
    have h := mkL_bd l k
    have h1 := mk1_bd (nth l k) (mkL l k) h
    have L1 := LoopT.count (fun i => miS l (nth l k) (mk1 (nth l k) (mkL l k) i) k i) (nth l k).size (fun i hi => mi_step l _ _ _ _ k i hi (hs _ (nth_mem hk)) (h1 i).1 (h1 i).2 (byte_lt _ i).1 (byte_lt _ i).2 rfl rfl) (mi_end l _ _ k) 0 (by omega)
    exact mo_step l _ _ _ k hk hl (h1 _).1 (h1 _).2 rfl L1) (mo_end l _) 0 (by omega)
  unfold markD
  simp only [mkL] at L
  generalize mkL l l.length = n at L ⊢
  exact pure_of (hs := hint [((3,1000), {loop := some ({ ks := [3, 8, 9, 10] }, moS l (0 : Int) (0 : Nat), Ex.exit (0 : Nat), moS l n l.length)})]) (ps := [moS l (0 : Int) (0 : Nat) = moS l (0 : Int) (0 : Nat), _, true = true]) (by kernel_rfl) ⟨rfl, L, rfl, trivial⟩
/-! the document's -/
def niS (m : Int) (l : List ByteArray) (n : Int) (k i : Nat) : St := ⟨mkT 40 [(1, .ptr 0 0), (3, u64 n), (4, i64 k), (5, i64 i)], [.arr 2 [i64 m, slS l] 0]⟩
def noS (m : Int) (l : List ByteArray) (n : Int) (k : Nat) : St := ⟨mkT 40 [(1, .ptr 0 0), (3, u64 n), (4, i64 k)], [.arr 2 [i64 m, slS l] 0]⟩
def shS (l : List ByteArray) (m : Int) (k : Nat) : St := ⟨mkT 27 [(0, slS l), (1, i64 m), (5, i64 k)], []⟩
def shH : St := ⟨mkT 27 [(4, bl false)], []⟩
/-- messages that aren't too many, nor too long -/
def shortD (l : List ByteArray) (m : Nat) : Bool := decide (l.length ≤ m) && (l.take (m + 1)).all fun s => decide (s.size ≤ 600)
theorem nth_take (l : List ByteArray) (n j : Nat) (h : j < n) : nth (l.take n) j = nth l j := by
  simp [nth, List.getD_eq_getElem?_getD, List.getElem?_take, h]
theorem short_len {l : List ByteArray} {m : Nat} (h : shortD l m = true) : l.length ≤ m ∧ ∀ s ∈ l, s.size ≤ 600 := by
  unfold shortD at h
  rw [Bool.and_eq_true, decide_eq_true_eq] at h
  refine ⟨h.1, fun s hs => ?_⟩
  have := List.all_eq_true.1 h.2 s (by rw [List.take_of_length_le (by omega)]; exact hs)
  simpa using this
end Go.Proofs.YtdcoomeagbjhlaaDoor.Ca
