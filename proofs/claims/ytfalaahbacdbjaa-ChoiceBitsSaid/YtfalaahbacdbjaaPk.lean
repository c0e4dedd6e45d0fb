/- Find, both; Same; has; ids. By the prover of this seat. -/
import Derived.Test.YtfalaahbacdbjaaPj
set_option linter.unusedVariables false
set_option linter.unusedSimpArgs false
set_option maxRecDepth 100000
set_option maxHeartbeats 4000000
namespace Go.Proofs.Ytfalaahbacdbjaa
open Go.RowKit Go.Pm
/-! Same -/
noncomputable def smB : Code := loopOf Try.prog 13 4
def smS (a b : List Int) (k : Nat) : St := ⟨mkT 26 [(0, slJ a), (1, slJ b), (5, i64 k)], []⟩
theorem sm_step (a b : List Int) (k : Nat) (ha : k < a.length) (hb : k < b.length) (hl : a.length ≤ 1000000) (he : nth a k = nth b k) : Tri C0 smB (smS a b k) .normal (smS a b (k + 1)) := by
  exact runF_ok (hs := hint [((4,3), {val := some (bl (true))}), ((6,2), {cells := some (eJ (nth a k) ++ List.flatMap eJ (List.drop (k + (1 : Nat)) a)), sym := true}), ((6,6), {cells := some (eJ (nth b k) ++ List.flatMap eJ (List.drop (k + (1 : Nat)) b)), sym := true}), ((6,8), {val := some (bl (false))}), ((5,1), {val := some (i64 ((↑k : Int) + (1 : Int)))})]) (f := { ks := [0, 1, 5] }) (ps := [bl (decide ((↑k : Int) < (↑a.length : Int))) = bl (true), decide ((0 : Int) ≤ (↑k : Int) ∧ (↑k : Int) < (↑a.length : Int)) = true, ((List.drop ((↑k : Int).toNat * (1 : Nat)) (List.flatMap eJ a)) : List AV) = (eJ (nth a k) ++ List.flatMap eJ (List.drop (k + (1 : Nat)) a)), decide ((0 : Int) ≤ (↑k : Int) ∧ (↑k : Int) < (↑b.length : Int)) = true, ((List.drop ((↑k : Int).toNat * (1 : Nat)) (List.flatMap eJ b)) : List AV) = (eJ (nth b k) ++ List.flatMap eJ (List.drop (k + (1 : Nat)) b)), bl (nth a k != nth b k) = bl (false), i64 (IntKind.i64.wrap ((↑k : Int) + (1 : Int))) = i64 ((↑k : Int) + (1 : Int)), true = true]) (by kernel_rfl) ⟨(bdT (by omega)), (by exact decide_t (by omega)), (by exact flat_nth (sz := 1) (k := k) (fun _ => rfl) (by omega)), (by exact decide_t (by omega)), (by exact flat_nth (sz := 1) (k := k) (fun _ => rfl) (by omega)), (neT (by assumption)), (intE (by exact wrap_i64 (by omega) (by omega))), rfl, trivial⟩
theorem sm_end (a b : List Int) : LoopT C0 smB (smS a b a.length) (.exit 0) (smS a b a.length) := by
  exact LoopT.fin (hs := hint [((4,3), {val := some (bl (false))})]) (f := { ks := [0, 1, 5] }) (ps := [bl (decide ((↑a.length : Int) < (↑a.length : Int))) = bl (false), true = true]) (by kernel_rfl) ⟨(bdF (by omega)), rfl, trivial⟩ (by decide)
theorem same_ok (a : List Int) (hl : a.length ≤ 1000000) : Pu 13 [slJ a, slJ a] (bl true) := by
  have L := LoopT.count (smS a a) a.length (fun k hk => sm_step a a k hk hk hl rfl) (sm_end a a) 0 (by omega)
  exact pure_of (hs := hint [((1,4), {val := some (bl (false))}), ((4,1000), {loop := some ({ ks := [0, 1, 5] }, smS a a (0 : Nat), Ex.exit (0 : Nat), smS a a a.length)})]) (ps := [bl ((↑a.length : Int) != (↑a.length : Int)) = bl (false), smS a a (0 : Nat) = smS a a (0 : Nat), _, true = true]) (by kernel_rfl) ⟨(neT (by omega)), rfl, L, rfl, trivial⟩
/-! has -/
def eqJ (c x : Int) : Bool := decide (x = c)
noncomputable def lhB : Code := loopOf Try.prog 16 2
def lhS (l : List Int) (c : Int) (k : Nat) : St := ⟨mkT 18 [(0, slJ l), (1, i64 c), (5, i64 k)], []⟩
def lhH (l : List Int) (c : Int) (k : Nat) : St := ⟨mkT 18 [(4, bl true)], []⟩
theorem lh_step (l : List Int) (c : Int) (k : Nat) (hk : k < l.length) (hl : l.length ≤ 1000000)  (hp : ¬ eqJ c (nth l k) = true) : Tri C0 lhB (lhS l c k) .normal (lhS l c (k + 1)) := by
  simp only [eqJ, decide_eq_true_eq] at hp
  exact runF_ok (hs := hint [((2,3), {val := some (bl (true))}), ((4,2), {cells := some (eJ (nth l k) ++ List.flatMap eJ (List.drop (k + (1 : Nat)) l)), sym := true}), ((4,5), {val := some (bl (false))}), ((3,1), {val := some (i64 ((↑k : Int) + (1 : Int)))})]) (f := { ks := [0, 1, 5] }) (ps := [bl (decide ((↑k : Int) < (↑l.length : Int))) = bl (true), decide ((0 : Int) ≤ (↑k : Int) ∧ (↑k : Int) < (↑l.length : Int)) = true, ((List.drop ((↑k : Int).toNat * (1 : Nat)) (List.flatMap eJ l)) : List AV) = (eJ (nth l k) ++ List.flatMap eJ (List.drop (k + (1 : Nat)) l)), bl (nth l k == c) = bl (false), i64 (IntKind.i64.wrap ((↑k : Int) + (1 : Int))) = i64 ((↑k : Int) + (1 : Int)), true = true]) (by kernel_rfl) ⟨(bdT (by omega)), (by exact decide_t (by omega)), (by exact flat_nth (sz := 1) (k := k) (fun _ => rfl) (by omega)), (beF (by assumption)), (intE (by exact wrap_i64 (by omega) (by omega))), rfl, trivial⟩
theorem lh_hit (l : List Int) (c : Int) (k : Nat) (hk : k < l.length) (hl : l.length ≤ 1000000)  (hp : eqJ c (nth l k) = true) : LoopT C0 lhB (lhS l c k) .ret (lhH l c k) := by
  simp only [eqJ, decide_eq_true_eq] at hp
  exact LoopT.fin (hs := hint [((2,3), {val := some (bl (true))}), ((4,2), {cells := some (eJ (nth l k) ++ List.flatMap eJ (List.drop (k + (1 : Nat)) l)), sym := true}), ((4,5), {val := some (bl (true))})]) (f := { ks := [4] }) (ps := [bl (decide ((↑k : Int) < (↑l.length : Int))) = bl (true), decide ((0 : Int) ≤ (↑k : Int) ∧ (↑k : Int) < (↑l.length : Int)) = true, ((List.drop ((↑k : Int).toNat * (1 : Nat)) (List.flatMap eJ l)) : List AV) = (eJ (nth l k) ++ List.flatMap eJ (List.drop (k + (1 : Nat)) l)), bl (nth l k == c) = bl (true), true = true]) (by kernel_rfl) ⟨(bdT (by omega)), (by exact decide_t (by omega)), (by exact flat_nth (sz := 1) (k := k) (fun _ => rfl) (by omega)), (beT (by assumption)), rfl, trivial⟩ (by decide)
theorem lh_end (l : List Int) (c : Int)  : LoopT C0 lhB (lhS l c l.length) (.exit 0) (lhS l c l.length) := by
  exact LoopT.fin (hs := hint [((2,3), {val := some (bl (false))})]) (f := { ks := [0, 1, 5] }) (ps := [bl (decide ((↑l.length : Int) < (↑l.length : Int))) = bl (false), true = true]) (by kernel_rfl) ⟨(bdF (by omega)), rfl, trivial⟩ (by decide)
theorem lh_ok (l : List Int) (c : Int) (hl : l.length ≤ 1000000)  : Pu 16 [slJ l, i64 c] (bl (idxD (eqJ c) l).isSome) := by
  cases h : idxD (eqJ c) l with
  | some m =>
    obtain ⟨h1, h2, h3⟩ := idx_some h
    have L := LoopT.count (lhS l c) m (fun k hk => lh_step l c k (by omega) hl (h3 k hk)) (lh_hit l c m h1 hl h2) 0 (by omega)
    exact pure_of (hs := hint [((2,1000), {loop := some ({ ks := [0, 1, 5] }, lhS l c (0 : Nat), Ex.ret, lhH l c m)})]) (ps := [lhS l c (0 : Nat) = lhS l c (0 : Nat), _, true = true]) (by kernel_rfl) ⟨rfl, L, rfl, trivial⟩
  | none =>
    have L := LoopT.count (lhS l c) l.length (fun k hk => lh_step l c k hk hl (idx_none h k hk)) (lh_end l c) 0 (by omega)
    exact pure_of (hs := hint [((2,1000), {loop := some ({ ks := [0, 1, 5] }, lhS l c (0 : Nat), Ex.exit (0 : Nat), lhS l c l.length)})]) (ps := [lhS l c (0 : Nat) = lhS l c (0 : Nat), _, true = true]) (by kernel_rfl) ⟨rfl, L, rfl, trivial⟩
theorem lhas_ok (l : List Int) (c : Int) (hl : l.length ≤ 1000000) : Pu 16 [slJ l, i64 c] (bl (decide (c ∈ l))) := by
  have h := lh_ok l c hl
  rw [idx_isSome] at h
  have e : l.any (eqJ c) = decide (c ∈ l) := by
    by_cases q : c ∈ l
    · rw [decide_eq_true q]; exact List.any_eq_true.2 ⟨c, q, by simp [eqJ]⟩
    · rw [decide_eq_false q]; exact List.any_eq_false.2 fun x hx p => q (by simp only [eqJ, decide_eq_true_eq] at p; exact p ▸ hx)
  rw [e] at h
  exact h
/-! what is done -/
structure Act where
  op : Int
  c : Int
  id : Int
  m : Int
instance : Inhabited Act := ⟨⟨0, 0, 0, 0⟩⟩
def actL (a : Act) : List AV := [i64 a.op, i64 a.c, u32 a.id, i64 a.m]
def slA (l : List Act) : AV := slE actL l
/-! ids -/
def idsR (l : List Act) : List Int := 1 :: l.map Act.id
noncomputable def idB : Code := loopOf Try.prog 19 3
def idS (l : List Act) (k m : Nat) (ks : List Int) : St := ⟨mkT 21 [(0, slA l), (3, .osl 0 0 m 1), (4, i64 k)], [.arr (m * 1) (ks.flatMap eI) 0]⟩
theorem id_step (l : List Act) (k m : Nat) (ks : List Int) (hk : k < l.length) (hl : l.length ≤ 1000000) (hm : m = ks.length) (hm2 : m ≤ k + 1) : Tri C0 idB (idS l k m ks) .normal (idS l (k + 1) (m + 1) (ks ++ [(nth l k).id])) := by
  have e1 : (ks ++ [(nth l k).id]).flatMap eI = ks.flatMap eI ++ eI (nth l k).id := row_snoc ks _
  exact runF_ok (hs := hint [((3,3), {val := some (bl (true))}), ((5,3), {cells := some (actL (nth l k) ++ List.flatMap actL (List.drop (k + (1 : Nat)) l)), sym := true}), ((5,7), { sym := true, cells := some ((ks ++ [(nth l k).id]).flatMap eI) }), ((4,1), {val := some (i64 ((↑k : Int) + (1 : Int)))})]) (f := { ks := [0, 3, 4], l := [2] }) (ps := [bl (decide ((↑k : Int) < (↑l.length : Int))) = bl (true), decide ((0 : Int) ≤ (↑k : Int) ∧ (↑k : Int) < (↑l.length : Int)) = true, ((List.drop ((↑k : Int).toNat * (4 : Nat)) (List.flatMap actL l)) : List AV) = (actL (nth l k) ++ List.flatMap actL (List.drop (k + (1 : Nat)) l)), decide (m * (1 : Nat) = m * (1 : Nat) ∧ (0 : Nat) ≤ m * (1 : Nat) ∧ m * (1 : Nat) = (List.flatMap eI ks).length) = true, decide ((m + (1 : Nat)) * (4 : Nat) ≤ (140737488355328 : Nat)) = true, true = true, ((List.flatMap eI ks ++ [AV.s (Value.int IntKind.u32 (nth l k).id)]) : List AV) = (List.flatMap eI (ks ++ [(nth l k).id])), i64 (IntKind.i64.wrap ((↑k : Int) + (1 : Int))) = i64 ((↑k : Int) + (1 : Int)), true = true, pureB (Bk.arr ((m + (1 : Nat)) * (1 : Nat)) (List.flatMap eI (ks ++ [(nth l k).id])) (0 : Nat)) = true]) (by kernel_rfl) ⟨(bdT (by omega)), (by exact decide_t (by omega)), (by exact flat_nth (sz := 4) (k := k) (fun _ => rfl) (by omega)), (by (first | exact e1.symm | exact decide_t (by omega) | exact decide_t ⟨by omega, by omega, by rw [row_len (sz := 1) (fun _ => rfl)]; omega⟩ | exact decide_t (by rw [row_len (sz := 1) (fun _ => rfl)]; omega))), (by (first | exact e1.symm | exact decide_t (by omega) | exact decide_t ⟨by omega, by omega, by rw [row_len (sz := 1) (fun _ => rfl)]; omega⟩ | exact decide_t (by rw [row_len (sz := 1) (fun _ => rfl)]; omega))), rfl, (by (first | exact e1.symm | exact decide_t (by omega) | exact decide_t ⟨by omega, by omega, by rw [row_len (sz := 1) (fun _ => rfl)]; omega⟩ | exact decide_t (by rw [row_len (sz := 1) (fun _ => rfl)]; omega))), (intE (by exact wrap_i64 (by omega) (by omega))), rfl, (by exact row_pureB (fun _ => rfl) _ _ _), trivial⟩
theorem id_end (l : List Act) (m : Nat) (ks : List Int) : LoopT C0 idB (idS l l.length m ks) (.exit 0) (idS l l.length m ks) := by
  exact LoopT.fin (hs := hint [((3,3), {val := some (bl (false))})]) (f := { ks := [0, 3, 4], l := [0] }) (ps := [bl (decide ((↑l.length : Int) < (↑l.length : Int))) = bl (false), true = true, pureB (Bk.arr (m * (1 : Nat)) (List.flatMap eI ks) (0 : Nat)) = true]) (by kernel_rfl) ⟨(bdF (by omega)), rfl, (by exact row_pureB (fun _ => rfl) _ _ _), trivial⟩ (by decide)
theorem ids_ok (l : List Act) (hl : l.length ≤ 1000) : Pu 19 [slA l] (slI (idsR l)) := by
  have L := LoopT.count (fun k => idS l k (k + 1) (1 :: (l.take k).map Act.id)) l.length (fun k hk => by
    have h := id_step l k (k + 1) (1 :: (l.take k).map Act.id) hk (by omega) (by rw [List.length_cons, List.length_map, List.length_take]; omega) (Nat.le_refl _)
    have e : (1 :: (l.take k).map Act.id) ++ [(nth l k).id] = 1 :: (l.take (k + 1)).map Act.id := by
      rw [take_nth hk, List.map_append]; rfl
    rw [e] at h
    exact h) (id_end l _ _) 0 (by omega)
  unfold idsR
  simp only [List.take_zero, List.map_nil, List.take_length] at L
  have hle : (1 :: l.map Act.id).length = l.length + 1 := by rw [List.length_cons, List.length_map]
  generalize (1 :: l.map Act.id) = ks at L hle ⊢
  unfold idS at L
  rw [show ([1] : List Int).flatMap eI = [u32 1] from rfl] at L
  exact pure_cast (pure_said (hs := hint [((3,1000), {loop := some ({ ks := [0, 3, 4], l := [0] }, { t := mkT (21 : Nat) [((0 : Nat), slA l), ((3 : Nat), AV.osl (0 : Nat) (0 : Nat) ((0 : Nat) + (1 : Nat)) (1 : Nat)), ((4 : Nat), i64 (↑(0 : Nat) : Int))], h := [Bk.arr (((0 : Nat) + (1 : Nat)) * (1 : Nat)) [u32 (1 : Int)] (0 : Nat)] : St }, Ex.exit (0 : Nat), { t := mkT (21 : Nat) [((0 : Nat), slA l), ((3 : Nat), AV.osl (0 : Nat) (0 : Nat) (l.length + (1 : Nat)) (1 : Nat)), ((4 : Nat), i64 (↑l.length : Int))], h := [Bk.arr ((l.length + (1 : Nat)) * (1 : Nat)) (List.flatMap eI ks) (0 : Nat)] : St })})]) (r := AV.sl (l.length + (1 : Nat)) (List.take ((l.length + (1 : Nat)) * (1 : Nat)) (List.drop (0 : Nat) (List.flatMap eI ks)))) (ps := [{ t := mkT (21 : Nat) [((0 : Nat), slA l), ((3 : Nat), AV.osl (0 : Nat) (0 : Nat) ((0 : Nat) + (1 : Nat)) (1 : Nat)), ((4 : Nat), i64 (↑(0 : Nat) : Int))], h := [Bk.arr (((0 : Nat) + (1 : Nat)) * (1 : Nat)) [u32 (1 : Int)] (0 : Nat)] : St } = { t := mkT (21 : Nat) [((0 : Nat), slA l), ((3 : Nat), AV.osl (0 : Nat) (0 : Nat) ((0 : Nat) + (1 : Nat)) (1 : Nat)), ((4 : Nat), i64 (↑(0 : Nat) : Int))], h := [Bk.arr (((0 : Nat) + (1 : Nat)) * (1 : Nat)) [u32 (1 : Int)] (0 : Nat)] : St }, _, true = true, true = true, ([(0 : Nat)].all fun (i : Nat) => (Option.map pureB [Bk.arr ((l.length + (1 : Nat)) * (1 : Nat)) (List.flatMap eI ks) (0 : Nat)][i]?).getD false) = true, true = true]) (by kernel_rfl) ⟨rfl, L, rfl, rfl, (by exact row_ids (fun _ => rfl) _ _ _ _ _ rfl), rfl, trivial⟩) (by exact row_sl (sz := 1) (fun _ => rfl) _ _ _ (by omega) (by omega))
/-! Find, by the document -/
def hitF (l : List Row) (n : Nat) (id : Int) : Bool := decide (0 < (whoR l id n).length) || hasN (maskR l 0 id) n
def findR (l : List Row) (path : List Int) (n : Nat) : Int × List Int := match idxD (hitF l n) path with
  | some k => if 0 < (whoR l (nth path k) n).length then (nth path k, whoR l (nth path k) n) else (0, [])
  | none => (0, [])
noncomputable def rfB : Code := loopOf Try.prog 12 2
def rfS (l : List Row) (path : List Int) (mask : Int) (k : Nat) : St := ⟨mkT 40 [(0, slR l), (1, slI path), (2, i64 mask), (8, i64 k)], []⟩
def rfH (id : Int) (w : List Int) : St := ⟨mkT 40 [(6, u32 id), (7, slJ w)], []⟩
theorem rf_step (l : List Row) (path : List Int) (mask : Int) (n : Nat) (k : Nat) (hk : k < path.length) (hl : path.length ≤ 1000000) (hn : andI mask 8191 = (n : Int)) (hW : Pu 26 [slR l, u32 (nth path k), i64 mask] (slJ [])) (hM : Pu 28 [slR l, i64 0, u32 (nth path k)] (i64 (maskR l 0 (nth path k) : Int))) (hH : Pu 27 [i64 (maskR l 0 (nth path k) : Int), i64 n] (bl false)) : Tri C0 rfB (rfS l path mask k) .normal (rfS l path mask (k + 1)) := by
  exact runF_ok (hs := hint [((2,3), {val := some (bl (true))}), ((4,3), {cells := some (eI (nth path k) ++ List.flatMap eI (List.drop (k + (1 : Nat)) path)), sym := true}), ((4,6), {call := some ((slJ []))}), ((7,3), {cells := some (eI (nth path k) ++ List.flatMap eI (List.drop (k + (1 : Nat)) path)), sym := true}), ((7,5), {call := some ((i64 (↑(maskR l (0 : Int) (nth path k)) : Int)))}), ((7,7), { val := some (i64 n) }), ((7,8), {call := some ((bl false))}), ((3,1), {val := some (i64 ((↑k : Int) + (1 : Int)))})]) (f := { ks := [0, 1, 2, 8] }) (ps := [bl (decide ((↑k : Int) < (↑path.length : Int))) = bl (true), decide ((0 : Int) ≤ (↑k : Int) ∧ (↑k : Int) < (↑path.length : Int)) = true, ((List.drop ((↑k : Int).toNat * (1 : Nat)) (List.flatMap eI path)) : List AV) = (eI (nth path k) ++ List.flatMap eI (List.drop (k + (1 : Nat)) path)), _, decide ((0 : Int) ≤ (↑k : Int) ∧ (↑k : Int) < (↑path.length : Int)) = true, ((List.drop ((↑k : Int).toNat * (1 : Nat)) (List.flatMap eI path)) : List AV) = (eI (nth path k) ++ List.flatMap eI (List.drop (k + (1 : Nat)) path)), _, i64 (IntKind.i64.wrap (↑(BitVec.ofInt (64 : Nat) mask &&& BitVec.ofInt (64 : Nat) (8191 : Int)).toNat : Int)) = i64 ((↑n : Int)), _, i64 (IntKind.i64.wrap ((↑k : Int) + (1 : Int))) = i64 ((↑k : Int) + (1 : Int)), true = true]) (by kernel_rfl) ⟨(bdT (by omega)), (by exact decide_t (by omega)), (by exact flat_nth (sz := 1) (k := k) (fun _ => rfl) (by omega)), (hW), (by exact decide_t (by omega)), (by exact flat_nth (sz := 1) (k := k) (fun _ => rfl) (by omega)), (hM), (by exact intE hn), (hH), (intE (by exact wrap_i64 (by omega) (by omega))), rfl, trivial⟩
theorem rf_who (l : List Row) (path : List Int) (mask : Int) (k : Nat) (hk : k < path.length) (hl : path.length ≤ 1000000) (w : List Int) (hw : 0 < w.length) (hW : Pu 26 [slR l, u32 (nth path k), i64 mask] (slJ w)) : LoopT C0 rfB (rfS l path mask k) .ret (rfH (nth path k) w) := by
  exact LoopT.fin (hs := hint [((2,3), {val := some (bl (true))}), ((4,3), {cells := some (eI (nth path k) ++ List.flatMap eI (List.drop (k + (1 : Nat)) path)), sym := true}), ((4,6), {call := some ((slJ w))}), ((5,2), {val := some (bl (true))}), ((6,2), {cells := some (eI (nth path k) ++ List.flatMap eI (List.drop (k + (1 : Nat)) path)), sym := true})]) (f := { ks := [6, 7] }) (ps := [bl (decide ((↑k : Int) < (↑path.length : Int))) = bl (true), decide ((0 : Int) ≤ (↑k : Int) ∧ (↑k : Int) < (↑path.length : Int)) = true, ((List.drop ((↑k : Int).toNat * (1 : Nat)) (List.flatMap eI path)) : List AV) = (eI (nth path k) ++ List.flatMap eI (List.drop (k + (1 : Nat)) path)), _, bl (decide ((↑w.length : Int) > (0 : Int))) = bl (true), decide ((0 : Int) ≤ (↑k : Int) ∧ (↑k : Int) < (↑path.length : Int)) = true, ((List.drop ((↑k : Int).toNat * (1 : Nat)) (List.flatMap eI path)) : List AV) = (eI (nth path k) ++ List.flatMap eI (List.drop (k + (1 : Nat)) path)), true = true]) (by kernel_rfl) ⟨(bdT (by omega)), (by exact decide_t (by omega)), (by exact flat_nth (sz := 1) (k := k) (fun _ => rfl) (by omega)), (hW), (bdT (by omega)), (by exact decide_t (by omega)), (by exact flat_nth (sz := 1) (k := k) (fun _ => rfl) (by omega)), rfl, trivial⟩ (by decide)
theorem rf_stop (l : List Row) (path : List Int) (mask : Int) (n : Nat) (k : Nat) (hk : k < path.length) (hl : path.length ≤ 1000000) (hn : andI mask 8191 = (n : Int)) (hW : Pu 26 [slR l, u32 (nth path k), i64 mask] (slJ [])) (hM : Pu 28 [slR l, i64 0, u32 (nth path k)] (i64 (maskR l 0 (nth path k) : Int))) (hH : Pu 27 [i64 (maskR l 0 (nth path k) : Int), i64 n] (bl true)) : LoopT C0 rfB (rfS l path mask k) .ret (rfH 0 []) := by
  exact LoopT.fin (hs := hint [((2,3), {val := some (bl (true))}), ((4,3), {cells := some (eI (nth path k) ++ List.flatMap eI (List.drop (k + (1 : Nat)) path)), sym := true}), ((4,6), {call := some ((slJ []))}), ((7,3), {cells := some (eI (nth path k) ++ List.flatMap eI (List.drop (k + (1 : Nat)) path)), sym := true}), ((7,5), {call := some ((i64 (↑(maskR l (0 : Int) (nth path k)) : Int)))}), ((7,7), { val := some (i64 n) }), ((7,8), {call := some ((bl true))})]) (f := { ks := [6, 7] }) (ps := [bl (decide ((↑k : Int) < (↑path.length : Int))) = bl (true), decide ((0 : Int) ≤ (↑k : Int) ∧ (↑k : Int) < (↑path.length : Int)) = true, ((List.drop ((↑k : Int).toNat * (1 : Nat)) (List.flatMap eI path)) : List AV) = (eI (nth path k) ++ List.flatMap eI (List.drop (k + (1 : Nat)) path)), _, decide ((0 : Int) ≤ (↑k : Int) ∧ (↑k : Int) < (↑path.length : Int)) = true, ((List.drop ((↑k : Int).toNat * (1 : Nat)) (List.flatMap eI path)) : List AV) = (eI (nth path k) ++ List.flatMap eI (List.drop (k + (1 : Nat)) path)), _, i64 (IntKind.i64.wrap (↑(BitVec.ofInt (64 : Nat) mask &&& BitVec.ofInt (64 : Nat) (8191 : Int)).toNat : Int)) = i64 ((↑n : Int)), _, true = true]) (by kernel_rfl) ⟨(bdT (by omega)), (by exact decide_t (by omega)), (by exact flat_nth (sz := 1) (k := k) (fun _ => rfl) (by omega)), (hW), (by exact decide_t (by omega)), (by exact flat_nth (sz := 1) (k := k) (fun _ => rfl) (by omega)), (hM), (by exact intE hn), (hH), rfl, trivial⟩ (by decide)
theorem rf_end (l : List Row) (path : List Int) (mask : Int) : LoopT C0 rfB (rfS l path mask path.length) (.exit 0) (rfS l path mask path.length) := by
  exact LoopT.fin (hs := hint [((2,3), {val := some (bl (false))})]) (f := { ks := [0, 1, 2, 8] }) (ps := [bl (decide ((↑path.length : Int) < (↑path.length : Int))) = bl (false), true = true]) (by kernel_rfl) ⟨(bdF (by omega)), rfl, trivial⟩ (by decide)
theorem hit_no {l : List Row} {n : Nat} {id : Int} (h : ¬ hitF l n id = true) : whoR l id n = [] ∧ hasN (maskR l 0 id) n = false := by
  unfold hitF at h
  rw [Bool.or_eq_true, not_or, decide_eq_true_eq] at h
  exact ⟨List.length_eq_zero_iff.1 (by omega), by simpa using h.2⟩
theorem rfind_ok (l : List Row) (hr : ∀ r ∈ l, r.m ≤ 8191) (hl : l.length ≤ 1000000) (path : List Int) (hp : path.length ≤ 1000000) (mask : Int) : Pu 12 [slR l, slI path, i64 mask] (.tup [u32 (findR l path (mN mask)).1, slJ (findR l path (mN mask)).2]) := by
  have hn := andI_mN mask
  have hW := fun id => rwho_ok l hr hl id mask
  have hM := fun id => mask_ok l 0 id hl
  have hH := fun id => has_ok (maskR l 0 id) (mN mask) (by have := maskR_le hr 0 id; omega) (mN_lt mask)
  have step : ∀ k, k < path.length → ¬ hitF l (mN mask) (nth path k) = true → Tri C0 rfB (rfS l path mask k) .normal (rfS l path mask (k + 1)) := fun k hk h => by
    obtain ⟨h1, h2⟩ := hit_no h
    have w := hW (nth path k)
    have x := hH (nth path k)
    rw [h1] at w
    rw [h2] at x
    exact rf_step l path mask _ k hk hp hn w (hM _) x
  unfold findR
  cases h : idxD (hitF l (mN mask)) path with
  | some m =>
    obtain ⟨h1, h2, h3⟩ := idx_some h
    simp only
    by_cases hw : 0 < (whoR l (nth path m) (mN mask)).length
    · rw [if_pos hw]
      have L := LoopT.count (rfS l path mask) m (fun k hk => step k (by omega) (h3 k hk)) (rf_who l path mask m h1 hp _ hw (hW _)) 0 (by omega)
      generalize whoR l (nth path m) (mN mask) = w at L
      exact pure_of (hs := hint [((2,1000), {loop := some ({ ks := [0, 1, 2, 8] }, rfS l path mask (0 : Nat), Ex.ret, rfH (nth path m) w)})]) (ps := [rfS l path mask (0 : Nat) = rfS l path mask (0 : Nat), _, true = true]) (by kernel_rfl) ⟨rfl, L, rfl, trivial⟩
    · rw [if_neg hw]
      have e := List.length_eq_zero_iff.1 (show (whoR l (nth path m) (mN mask)).length = 0 by omega)
      have w := hW (nth path m)
      have x := hH (nth path m)
      rw [e] at w
      unfold hitF at h2
      rw [e] at h2
      have h2 : hasN (maskR l 0 (nth path m)) (mN mask) = true := by simpa using h2
      rw [h2] at x
      have L := LoopT.count (rfS l path mask) m (fun k hk => step k (by omega) (h3 k hk)) (rf_stop l path mask _ m h1 hp hn w (hM _) x) 0 (by omega)
      exact pure_of (hs := hint [((2,1000), {loop := some ({ ks := [0, 1, 2, 8] }, rfS l path mask (0 : Nat), Ex.ret, rfH (0 : Int) [])})]) (ps := [rfS l path mask (0 : Nat) = rfS l path mask (0 : Nat), _, true = true]) (by kernel_rfl) ⟨rfl, L, rfl, trivial⟩
  | none =>
    have L := LoopT.count (rfS l path mask) path.length (fun k hk => step k hk (idx_none h k hk)) (rf_end l path mask) 0 (by omega)
    exact pure_of (hs := hint [((2,1000), {loop := some ({ ks := [0, 1, 2, 8] }, rfS l path mask (0 : Nat), Ex.exit (0 : Nat), rfS l path mask path.length)})]) (ps := [rfS l path mask (0 : Nat) = rfS l path mask (0 : Nat), _, true = true]) (by kernel_rfl) ⟨rfl, L, rfl, trivial⟩
end Go.Proofs.Ytfalaahbacdbjaa
