/- Who, both; Same; has; ids. By the prover of this seat. -/
import Derived.Test.YtfalaahbacdbjaaPi
set_option linter.unusedVariables false
set_option linter.unusedSimpArgs false
set_option maxRecDepth 100000
set_option maxHeartbeats 4000000
namespace Go.Proofs.Ytfalaahbacdbjaa
open Go.RowKit Go.Pm
def k8 : List Int := [1, 2, 3, 4, 5, 6, 7, 8]
theorem k8_nth (k : Nat) (hk : k < 8) : nth k8 k = (k : Int) + 1 := by
  match k, hk with
  | 0, _ => rfl
  | 1, _ => rfl
  | 2, _ => rfl
  | 3, _ => rfl
  | 4, _ => rfl
  | 5, _ => rfl
  | 6, _ => rfl
  | 7, _ => rfl
/-- a mask's bits -/
def mN (mask : Int) : Nat := (mask % 8192).toNat
theorem mN_int (mask : Int) : ((mN mask : Nat) : Int) = mask % 8192 := by unfold mN; omega
theorem mN_lt (mask : Int) : mN mask < 8192 := by unfold mN; omega
theorem andI_mN (mask : Int) : andI mask 8191 = (mN mask : Int) := by rw [andI_mask, mN_int]
def whoP (l : List Row) (id : Int) (n : Nat) (k : Int) : Bool := hasN (maskR l k id) n
def whoR (l : List Row) (id : Int) (n : Nat) : List Int := k8.filter (whoP l id n)
/-! the document's -/
noncomputable def rwB : Code := loopOf Try.prog 26 3
def rwS (l : List Row) (id mask : Int) (k m : Nat) (ks : List Int) : St := ⟨mkT 25 [(0, slR l), (1, u32 id), (2, i64 mask), (7, .osl 0 0 m 1), (8, i64 ((k : Int) + 1))], [.arr (m * 1) (ks.flatMap eJ) 0]⟩
theorem rw_yes (l : List Row) (id mask : Int) (n : Nat) (hn : andI mask 8191 = (n : Int)) (k m : Nat) (ks : List Int) (hk : k < 8) (hm : m = ks.length) (hm2 : m ≤ k) (hM : Pu 28 [slR l, i64 ((k : Int) + 1), u32 id] (i64 (maskR l ((k : Int) + 1) id : Int))) (hH : Pu 27 [i64 (maskR l ((k : Int) + 1) id : Int), i64 n] (bl true)) : Tri C0 rwB (rwS l id mask k m ks) .normal (rwS l id mask (k + 1) (m + 1) (ks ++ [(k : Int) + 1])) := by
  have e1 : (ks ++ [(k : Int) + 1]).flatMap eJ = ks.flatMap eJ ++ eJ ((k : Int) + 1) := row_snoc ks _
  exact runF_ok (hs := hint [((3,1), {val := some (bl (true))}), ((5,3), {call := some ((i64 (↑(maskR l ((↑k : Int) + (1 : Int)) id) : Int)))}), ((5,5), { val := some (i64 n) }), ((5,6), {call := some ((bl true))}), ((6,3), { sym := true, cells := some ((ks ++ [(k : Int) + 1]).flatMap eJ) }), ((4,1), {val := some (i64 ((↑k : Int) + (1 : Int) + (1 : Int)))})]) (f := { ks := [0, 1, 2, 7, 8], l := [2] }) (ps := [bl (decide ((↑k : Int) + (1 : Int) ≤ (8 : Int))) = bl (true), _, i64 (IntKind.i64.wrap (↑(BitVec.ofInt (64 : Nat) mask &&& BitVec.ofInt (64 : Nat) (8191 : Int)).toNat : Int)) = i64 ((↑n : Int)), _, decide (m * (1 : Nat) = m * (1 : Nat) ∧ (0 : Nat) ≤ m * (1 : Nat) ∧ m * (1 : Nat) = (List.flatMap eJ ks).length) = true, decide ((m + (1 : Nat)) * (8 : Nat) ≤ (140737488355328 : Nat)) = true, true = true, ((List.flatMap eJ ks ++ [AV.s (Value.int IntKind.i64 ((↑k : Int) + (1 : Int)))]) : List AV) = (List.flatMap eJ (ks ++ [(↑k : Int) + (1 : Int)])), i64 (IntKind.i64.wrap ((↑k : Int) + (1 : Int) + (1 : Int))) = i64 ((↑k : Int) + (1 : Int) + (1 : Int)), true = true, pureB (Bk.arr ((m + (1 : Nat)) * (1 : Nat)) (List.flatMap eJ (ks ++ [(↑k : Int) + (1 : Int)])) (0 : Nat)) = true]) (by kernel_rfl) ⟨(bdT (by omega)), (hM), (by exact intE hn), (hH), (by (first | exact e1.symm | exact decide_t (by omega) | exact decide_t ⟨by omega, by omega, by rw [row_len (sz := 1) (fun _ => rfl)]; omega⟩ | exact decide_t (by rw [row_len (sz := 1) (fun _ => rfl)]; omega))), (by (first | exact e1.symm | exact decide_t (by omega) | exact decide_t ⟨by omega, by omega, by rw [row_len (sz := 1) (fun _ => rfl)]; omega⟩ | exact decide_t (by rw [row_len (sz := 1) (fun _ => rfl)]; omega))), rfl, (by (first | exact e1.symm | exact decide_t (by omega) | exact decide_t ⟨by omega, by omega, by rw [row_len (sz := 1) (fun _ => rfl)]; omega⟩ | exact decide_t (by rw [row_len (sz := 1) (fun _ => rfl)]; omega))), (intE (by exact wrap_i64 (by omega) (by omega))), rfl, (by exact row_pureB (fun _ => rfl) _ _ _), trivial⟩
theorem rw_no (l : List Row) (id mask : Int) (n : Nat) (hn : andI mask 8191 = (n : Int)) (k m : Nat) (ks : List Int) (hk : k < 8) (hM : Pu 28 [slR l, i64 ((k : Int) + 1), u32 id] (i64 (maskR l ((k : Int) + 1) id : Int))) (hH : Pu 27 [i64 (maskR l ((k : Int) + 1) id : Int), i64 n] (bl false)) : Tri C0 rwB (rwS l id mask k m ks) .normal (rwS l id mask (k + 1) m ks) := by
  exact runF_ok (hs := hint [((3,1), {val := some (bl (true))}), ((5,3), {call := some ((i64 (↑(maskR l ((↑k : Int) + (1 : Int)) id) : Int)))}), ((5,5), { val := some (i64 n) }), ((5,6), {call := some ((bl false))}), ((4,1), {val := some (i64 ((↑k : Int) + (1 : Int) + (1 : Int)))})]) (f := { ks := [0, 1, 2, 7, 8], l := [0] }) (ps := [bl (decide ((↑k : Int) + (1 : Int) ≤ (8 : Int))) = bl (true), _, i64 (IntKind.i64.wrap (↑(BitVec.ofInt (64 : Nat) mask &&& BitVec.ofInt (64 : Nat) (8191 : Int)).toNat : Int)) = i64 ((↑n : Int)), _, i64 (IntKind.i64.wrap ((↑k : Int) + (1 : Int) + (1 : Int))) = i64 ((↑k : Int) + (1 : Int) + (1 : Int)), true = true, pureB (Bk.arr (m * (1 : Nat)) (List.flatMap eJ ks) (0 : Nat)) = true]) (by kernel_rfl) ⟨(bdT (by omega)), (hM), (by exact intE hn), (hH), (intE (by exact wrap_i64 (by omega) (by omega))), rfl, (by exact row_pureB (fun _ => rfl) _ _ _), trivial⟩
theorem rw_end (l : List Row) (id mask : Int) (m : Nat) (ks : List Int) : LoopT C0 rwB (rwS l id mask 8 m ks) (.exit 0) (rwS l id mask 8 m ks) := by
  exact LoopT.fin (hs := hint []) (f := { ks := [0, 1, 2, 7, 8], l := [0] }) (ps := [true = true, pureB (Bk.arr (m * (1 : Nat)) (List.flatMap eJ ks) (0 : Nat)) = true]) (by kernel_rfl) ⟨rfl, (by exact row_pureB (fun _ => rfl) _ _ _), trivial⟩ (by decide)
theorem who_len (l : List Row) (id : Int) (n : Nat) : (whoR l id n).length ≤ 8 := List.length_filter_le _ _
theorem rwho_ok (l : List Row) (hr : ∀ r ∈ l, r.m ≤ 8191) (hl : l.length ≤ 1000000) (id mask : Int) : Pu 26 [slR l, u32 id, i64 mask] (slJ (whoR l id (mN mask))) := by
  have hn := andI_mN mask
  have L := LoopT.gather (rwS l id mask) (oneF (whoP l id (mN mask))) k8 (one_le _) (fun k m ks hk hm hm2 => by
    have hk : k < 8 := hk
    have hM := mask_ok l ((k : Int) + 1) id hl
    have hH := has_ok (maskR l ((k : Int) + 1) id) (mN mask) (by have := maskR_le hr ((k : Int) + 1) id; omega) (mN_lt mask)
    rw [k8_nth k hk]
    unfold oneF whoP
    cases hp : hasN (maskR l ((k : Int) + 1) id) (mN mask) with
    | true =>
      rw [hp] at hH
      rw [if_pos rfl]
      exact rw_yes l id mask _ hn k m ks hk hm hm2 hM hH
    | false =>
      rw [hp] at hH
      rw [if_neg (by simp), List.append_nil]
      exact rw_no l id mask _ hn k m ks hk hM hH) (rw_end l id mask _ _)
  rw [one_flat] at L
  have hlen := who_len l id (mN mask)
  unfold whoR at hlen ⊢
  generalize k8.filter (whoP l id (mN mask)) = ks at L hlen ⊢
  unfold rwS at L
  rw [List.flatMap_nil] at L
  exact pure_cast (pure_said (hs := hint [((3,1000), {loop := some ({ ks := [0, 1, 2, 8], gh := [(7, 1)] }, { t := mkT (25 : Nat) [((0 : Nat), slR l), ((1 : Nat), u32 id), ((2 : Nat), i64 mask), ((7 : Nat), AV.osl (0 : Nat) (0 : Nat) (0 : Nat) (1 : Nat)), ((8 : Nat), i64 ((↑(0 : Nat) : Int) + (1 : Int)))], h := [Bk.arr ((0 : Nat) * (1 : Nat)) [] (0 : Nat)] : St }, Ex.exit (0 : Nat), { t := mkT (25 : Nat) [((0 : Nat), slR l), ((1 : Nat), u32 id), ((2 : Nat), i64 mask), ((7 : Nat), AV.osl (0 : Nat) (0 : Nat) ks.length (1 : Nat)), ((8 : Nat), i64 ((↑(8 : Nat) : Int) + (1 : Int)))], h := [Bk.arr (ks.length * (1 : Nat)) (List.flatMap eJ ks) (0 : Nat)] : St })})]) (r := AV.sl (ks.length) (List.take (ks.length * (1 : Nat)) (List.drop (0 : Nat) (List.flatMap eJ ks)))) (ps := [{ t := mkT (25 : Nat) [((0 : Nat), slR l), ((1 : Nat), u32 id), ((2 : Nat), i64 mask), ((7 : Nat), AV.osl (0 : Nat) (0 : Nat) (0 : Nat) (1 : Nat)), ((8 : Nat), i64 ((↑(0 : Nat) : Int) + (1 : Int)))], h := [Bk.arr ((0 : Nat) * (1 : Nat)) [] (0 : Nat)] : St } = { t := mkT (25 : Nat) [((0 : Nat), slR l), ((1 : Nat), u32 id), ((2 : Nat), i64 mask), ((7 : Nat), AV.osl (0 : Nat) (0 : Nat) (0 : Nat) (1 : Nat)), ((8 : Nat), i64 ((↑(0 : Nat) : Int) + (1 : Int)))], h := [Bk.arr ((0 : Nat) * (1 : Nat)) [] (0 : Nat)] : St }, _, true = true, ([(0 : Nat)].all fun (i : Nat) => (Option.map pureB [Bk.arr (ks.length * (1 : Nat)) (List.flatMap eJ ks) (0 : Nat)][i]?).getD false) = true, true = true]) (by kernel_rfl) ⟨rfl, L, rfl, (by exact row_ids (fun _ => rfl) _ _ _ _ _ rfl), rfl, trivial⟩) (by exact row_sl (sz := 1) (fun _ => rfl) _ _ _ (by omega) (by omega))
/-! the program's -/
noncomputable def pwB : Code := loopOf Try.prog 14 4
def pwS (l : List Row) (id : Int) (n : Nat) (k m : Nat) (ks : List Int) : St := ⟨mkT 29 [(1, u32 id), (2, i64 n), (3, .ptr 0 0), (7, .osl 1 0 m 1), (8, i64 ((k : Int) + 1))], [.arr 2 [.mp (rowsK l), .mp (rowsT l)] 0, .arr (m * 1) (ks.flatMap eJ) 0]⟩
theorem pw_step (l : List Row) (h : LOk l) (id : Int) (h2 : 0 ≤ id) (h3 : id ≤ 4294967295) (n : Nat) (v x : Int) (k m : Nat) (ks : List Int) (hk : k < 8) (hm : m = ks.length) (hm2 : m ≤ k) (hv : lookV false (mfind (rowsK l) (A [i64 ((k : Int) + 1), u32 id])) (i64 0) = i64 v) (hx : andI v n = x) (hy : x ≠ 0) : Tri C0 pwB (pwS l id n k m ks) .normal (pwS l id n (k + 1) (m + 1) (ks ++ [(k : Int) + 1])) := by
  have e1 : (ks ++ [(k : Int) + 1]).flatMap eJ = ks.flatMap eJ ++ eJ ((k : Int) + 1) := row_snoc ks _
  have q1 := kwfP (c := (k : Int) + 1) (by omega) (by omega) h2 h3
  have q2 := allK_k h
  exact runF_ok (hs := hint [((4,1), {val := some (bl (true))}), ((6,5), { sym := true, val := some (i64 v) }), ((6,7), { val := some (i64 x) }), ((6,8), {val := some (bl (true))}), ((7,3), { sym := true, cells := some ((ks ++ [(k : Int) + 1]).flatMap eJ) }), ((5,1), {val := some (i64 ((↑k : Int) + (1 : Int) + (1 : Int)))})]) (f := { ks := [1, 2, 3, 7, 8], l := [0, 3] }) (ps := [bl (decide ((↑k : Int) + (1 : Int) ≤ (8 : Int))) = bl (true), true = true, kwf C0.P (67 : Nat) (AV.agg [AV.s (Value.int IntKind.i64 ((↑k : Int) + (1 : Int))), AV.s (Value.int IntKind.u32 id)]) = true, allK C0.P (67 : Nat) (rowsK l) = true, (match mfind (rowsK l) (AV.agg [AV.s (Value.int IntKind.i64 ((↑k : Int) + (1 : Int))), AV.s (Value.int IntKind.u32 id)]) with
  | some v => if false = true then AV.tup [v, AV.s (Value.bool true)] else v
  | none => if false = true then AV.tup [ofV (Value.int IntKind.i64 (0 : Int)), AV.s (Value.bool false)] else ofV (Value.int IntKind.i64 (0 : Int))) = i64 (v), i64 (IntKind.i64.wrap (↑(BitVec.ofInt (64 : Nat) v &&& BitVec.ofInt (64 : Nat) (↑n : Int)).toNat : Int)) = i64 (x), bl (x != (0 : Int)) = bl (true), decide (m * (1 : Nat) = m * (1 : Nat) ∧ (0 : Nat) ≤ m * (1 : Nat) ∧ m * (1 : Nat) = (List.flatMap eJ ks).length) = true, decide ((m + (1 : Nat)) * (8 : Nat) ≤ (140737488355328 : Nat)) = true, true = true, ((List.flatMap eJ ks ++ [AV.s (Value.int IntKind.i64 ((↑k : Int) + (1 : Int)))]) : List AV) = (List.flatMap eJ (ks ++ [(↑k : Int) + (1 : Int)])), i64 (IntKind.i64.wrap ((↑k : Int) + (1 : Int) + (1 : Int))) = i64 ((↑k : Int) + (1 : Int) + (1 : Int)), true = true, true = true, pureB (Bk.arr ((m + (1 : Nat)) * (1 : Nat)) (List.flatMap eJ (ks ++ [(↑k : Int) + (1 : Int)])) (0 : Nat)) = true]) (by kernel_rfl) ⟨(bdT (by omega)), (by (first | assumption | exact hv | rfl)), (by (first | assumption | exact hv | rfl)), (by (first | assumption | exact hv | rfl)), (by (first | assumption | exact hv | rfl)), (by exact intE hx), (neF (by assumption)), (by (first | exact e1.symm | exact decide_t (by omega) | exact decide_t ⟨by omega, by omega, by rw [row_len (sz := 1) (fun _ => rfl)]; omega⟩ | exact decide_t (by rw [row_len (sz := 1) (fun _ => rfl)]; omega))), (by (first | exact e1.symm | exact decide_t (by omega) | exact decide_t ⟨by omega, by omega, by rw [row_len (sz := 1) (fun _ => rfl)]; omega⟩ | exact decide_t (by rw [row_len (sz := 1) (fun _ => rfl)]; omega))), rfl, (by (first | exact e1.symm | exact decide_t (by omega) | exact decide_t ⟨by omega, by omega, by rw [row_len (sz := 1) (fun _ => rfl)]; omega⟩ | exact decide_t (by rw [row_len (sz := 1) (fun _ => rfl)]; omega))), (intE (by exact wrap_i64 (by omega) (by omega))), rfl, rfl, (by exact row_pureB (fun _ => rfl) _ _ _), trivial⟩
theorem pw_skip (l : List Row) (h : LOk l) (id : Int) (h2 : 0 ≤ id) (h3 : id ≤ 4294967295) (n : Nat) (v x : Int) (k m : Nat) (ks : List Int) (hk : k < 8) (hv : lookV false (mfind (rowsK l) (A [i64 ((k : Int) + 1), u32 id])) (i64 0) = i64 v) (hx : andI v n = x) (hy : x = 0) : Tri C0 pwB (pwS l id n k m ks) .normal (pwS l id n (k + 1) m ks) := by
  have q1 := kwfP (c := (k : Int) + 1) (by omega) (by omega) h2 h3
  have q2 := allK_k h
  exact runF_ok (hs := hint [((4,1), {val := some (bl (true))}), ((6,5), { sym := true, val := some (i64 v) }), ((6,7), { val := some (i64 x) }), ((6,8), {val := some (bl (false))}), ((5,1), {val := some (i64 ((↑k : Int) + (1 : Int) + (1 : Int)))})]) (f := { ks := [1, 2, 3, 7, 8], l := [0, 1] }) (ps := [bl (decide ((↑k : Int) + (1 : Int) ≤ (8 : Int))) = bl (true), true = true, kwf C0.P (67 : Nat) (AV.agg [AV.s (Value.int IntKind.i64 ((↑k : Int) + (1 : Int))), AV.s (Value.int IntKind.u32 id)]) = true, allK C0.P (67 : Nat) (rowsK l) = true, (match mfind (rowsK l) (AV.agg [AV.s (Value.int IntKind.i64 ((↑k : Int) + (1 : Int))), AV.s (Value.int IntKind.u32 id)]) with
  | some v => if false = true then AV.tup [v, AV.s (Value.bool true)] else v
  | none => if false = true then AV.tup [ofV (Value.int IntKind.i64 (0 : Int)), AV.s (Value.bool false)] else ofV (Value.int IntKind.i64 (0 : Int))) = i64 (v), i64 (IntKind.i64.wrap (↑(BitVec.ofInt (64 : Nat) v &&& BitVec.ofInt (64 : Nat) (↑n : Int)).toNat : Int)) = i64 (x), bl (x != (0 : Int)) = bl (false), i64 (IntKind.i64.wrap ((↑k : Int) + (1 : Int) + (1 : Int))) = i64 ((↑k : Int) + (1 : Int) + (1 : Int)), true = true, true = true, pureB (Bk.arr (m * (1 : Nat)) (List.flatMap eJ ks) (0 : Nat)) = true]) (by kernel_rfl) ⟨(bdT (by omega)), (by (first | assumption | exact hv | rfl)), (by (first | assumption | exact hv | rfl)), (by (first | assumption | exact hv | rfl)), (by (first | assumption | exact hv | rfl)), (by exact intE hx), (neT (by assumption)), (intE (by exact wrap_i64 (by omega) (by omega))), rfl, rfl, (by exact row_pureB (fun _ => rfl) _ _ _), trivial⟩
theorem pw_end (l : List Row) (id : Int) (n : Nat) (m : Nat) (ks : List Int) : LoopT C0 pwB (pwS l id n 8 m ks) (.exit 0) (pwS l id n 8 m ks) := by
  exact LoopT.fin (hs := hint []) (f := { ks := [1, 2, 3, 7, 8], l := [0, 1] }) (ps := [true = true, true = true, pureB (Bk.arr (m * (1 : Nat)) (List.flatMap eJ ks) (0 : Nat)) = true]) (by kernel_rfl) ⟨rfl, rfl, (by exact row_pureB (fun _ => rfl) _ _ _), trivial⟩ (by decide)
theorem pwho_ok (l : List Row) (h : LOk l) (id mask : Int) (h2 : 0 ≤ id) (h3 : id ≤ 4294967295) : Pu 14 [tabC l, u32 id, i64 mask] (slJ (whoR l id (mN mask))) := by
  have hn := andI_mN mask
  have L := LoopT.gather (pwS l id (mN mask)) (oneF (whoP l id (mN mask))) k8 (one_le _) (fun k m ks hk hm hm2 => by
    have hk : k < 8 := hk
    have hle := maskR_le (fun r hr => (h.row r hr).2.2.2.2) ((k : Int) + 1) id
    have hv := look_k l h.apart ((k : Int) + 1) id (by omega)
    have hx := andI_nat (maskR l ((k : Int) + 1) id) (mN mask) hle (by have := mN_lt mask; omega)
    have hH := hasN_eq (maskR l ((k : Int) + 1) id) (mN mask) (by omega)
    rw [k8_nth k hk]
    unfold oneF whoP
    by_cases hp : (maskR l ((k : Int) + 1) id &&& mN mask) ≠ 0
    · rw [hH, decide_eq_true hp, if_pos rfl]
      exact pw_step l h id h2 h3 _ _ _ k m ks hk hm hm2 hv hx (by omega)
    · rw [hH, decide_eq_false hp, if_neg (by simp), List.append_nil]
      exact pw_skip l h id h2 h3 _ _ _ k m ks hk hv hx (by omega)) (pw_end l id _ _ _)
  rw [one_flat] at L
  have hlen := who_len l id (mN mask)
  unfold whoR at hlen ⊢
  generalize k8.filter (whoP l id (mN mask)) = ks at L hlen ⊢
  generalize mN mask = n at L hn
  unfold pwS at L
  rw [List.flatMap_nil] at L
  exact pure_cast (pure_said (hs := hint [((1,1), { val := some (i64 n) }), ((4,1000), {loop := some ({ ks := [1, 2, 3, 8], l := [0], gh := [(7, 1)] }, { t := mkT (29 : Nat) [((1 : Nat), u32 id), ((2 : Nat), i64 (↑n : Int)), ((3 : Nat), AV.ptr (0 : Nat) (0 : Nat)), ((7 : Nat), AV.osl (1 : Nat) (0 : Nat) (0 : Nat) (1 : Nat)), ((8 : Nat), i64 ((↑(0 : Nat) : Int) + (1 : Int)))], h := [Bk.arr (2 : Nat) [AV.mp (rowsK l), AV.mp (rowsT l)] (0 : Nat), Bk.arr ((0 : Nat) * (1 : Nat)) [] (0 : Nat)] : St }, Ex.exit (0 : Nat), { t := mkT (29 : Nat) [((1 : Nat), u32 id), ((2 : Nat), i64 (↑n : Int)), ((3 : Nat), AV.ptr (0 : Nat) (0 : Nat)), ((7 : Nat), AV.osl (1 : Nat) (0 : Nat) ks.length (1 : Nat)), ((8 : Nat), i64 ((↑(8 : Nat) : Int) + (1 : Int)))], h := [Bk.arr (2 : Nat) [AV.mp (rowsK l), AV.mp (rowsT l)] (0 : Nat), Bk.arr (ks.length * (1 : Nat)) (List.flatMap eJ ks) (0 : Nat)] : St })})]) (r := AV.sl (ks.length) (List.take (ks.length * (1 : Nat)) (List.drop (0 : Nat) (List.flatMap eJ ks)))) (ps := [i64 (IntKind.i64.wrap (↑(BitVec.ofInt (64 : Nat) mask &&& BitVec.ofInt (64 : Nat) (8191 : Int)).toNat : Int)) = i64 ((↑n : Int)), { t := mkT (29 : Nat) [((1 : Nat), u32 id), ((2 : Nat), i64 (↑n : Int)), ((3 : Nat), AV.ptr (0 : Nat) (0 : Nat)), ((7 : Nat), AV.osl (1 : Nat) (0 : Nat) (0 : Nat) (1 : Nat)), ((8 : Nat), i64 ((↑(0 : Nat) : Int) + (1 : Int)))], h := [Bk.arr (2 : Nat) [AV.mp (rowsK l), AV.mp (rowsT l)] (0 : Nat), Bk.arr ((0 : Nat) * (1 : Nat)) [] (0 : Nat)] : St } = { t := mkT (29 : Nat) [((1 : Nat), u32 id), ((2 : Nat), i64 (↑n : Int)), ((3 : Nat), AV.ptr (0 : Nat) (0 : Nat)), ((7 : Nat), AV.osl (1 : Nat) (0 : Nat) (0 : Nat) (1 : Nat)), ((8 : Nat), i64 ((↑(0 : Nat) : Int) + (1 : Int)))], h := [Bk.arr (2 : Nat) [AV.mp (rowsK l), AV.mp (rowsT l)] (0 : Nat), Bk.arr ((0 : Nat) * (1 : Nat)) [] (0 : Nat)] : St }, _, true = true, true = true, ([(1 : Nat)].all fun (i : Nat) => (Option.map pureB [Bk.arr (2 : Nat) [AV.mp (rowsK l), AV.mp (rowsT l)] (0 : Nat), Bk.arr (ks.length * (1 : Nat)) (List.flatMap eJ ks) (0 : Nat)][i]?).getD false) = true, true = true]) (by kernel_rfl) ⟨(by exact intE hn), rfl, L, rfl, rfl, (by exact row_ids (fun _ => rfl) _ _ _ _ _ rfl), rfl, trivial⟩) (by exact row_sl (sz := 1) (fun _ => rfl) _ _ _ (by omega) (by omega))
end Go.Proofs.Ytfalaahbacdbjaa
