/- Properties. By the prover of this seat. -/
import Derived.Test.YtdcoomeagbjhlaaVi
set_option linter.unusedVariables false
set_option linter.unusedSimpArgs false
set_option maxRecDepth 100000
set_option maxHeartbeats 4000000
namespace Go.Proofs.Ytdcoomeagbjhlaa
open Go.RowKit Go.Pm
structure Prp where
  name : Int
  type : Int
  fmt : Int
  data : List Int
instance : Inhabited Prp := ⟨⟨0, 0, 0, []⟩⟩
def propL (p : Prp) : List AV := [u32 p.name, u32 p.type, i64 p.fmt, slI p.data]
def lstA (l : List Prp) : AV := A [slE propL l]
def nameD (n : Int) (p : Prp) : Bool := decide (p.name = n)
def fn_p (n : Int) : AV := .fn (.func 74) [] [.fptr [u32 n]]
theorem cl74_ok (n : Int) (p : Prp) : Pu 74 [A (propL p), .fptr [u32 n]] (bl (nameD n p)) := by
  unfold nameD
  by_cases h : p.name = n
  · rw [decide_eq_true h]
    exact pure_cast (pure_of (hs := hint []) (r := bl (p.name == n)) (ps := []) (by kernel_rfl) trivial) (by (simp; omega))
  · rw [decide_eq_false h]
    exact pure_cast (pure_of (hs := hint []) (r := bl (p.name == n)) (ps := []) (by kernel_rfl) trivial) (by (simp; omega))
noncomputable def ipxB : Code := loopOf Try.prog 73 2
def ipxS (n : Int) (l : List Prp) (k : Nat) : St := ⟨mkT 19 [(0, slE propL l), (1, fn_p n), (7, i64 l.length), (8, i64 k)], []⟩
def ipxH (n : Int) (l : List Prp) (k : Nat) : St := ⟨mkT 19 [(4, i64 k)], []⟩
theorem ipx_step (n : Int) (l : List Prp) (k : Nat) (hk : k < l.length) (hl : l.length ≤ 1000000)  (hp : ¬ nameD n (nth l k) = true) : Tri C0 ipxB (ipxS n l k) .normal (ipxS n l (k + 1)) := by
  exact runF_ok (hs := hint [((2,0), {val := some (bl (true))}), ((4,3), {cells := some (propL (nth l k) ++ List.flatMap propL (List.drop (k + (1 : Nat)) l)), sym := true}), ((4,5), {val := some (bl (false)), call := some ((bl (nameD n (nth l k))))}), ((6,0), {val := some (i64 ((↑k : Int) + (1 : Int)))})]) (f := { ks := [0, 1, 7, 8] }) (ps := [bl (decide ((↑k : Int) < (↑l.length : Int))) = bl (true), decide ((0 : Int) ≤ (↑k : Int) ∧ (↑k : Int) < (↑l.length : Int)) = true, ((List.drop ((↑k : Int).toNat * (4 : Nat)) (List.flatMap propL l)) : List AV) = (propL (nth l k) ++ List.flatMap propL (List.drop (k + (1 : Nat)) l)), _, bl (nameD n (nth l k)) = bl (false), i64 (IntKind.i64.wrap ((↑k : Int) + (1 : Int))) = i64 ((↑k : Int) + (1 : Int)), true = true]) (by kernel_rfl) ⟨(bdT (by omega)), (by exact decide_t (by omega)), (by exact flat_nth (sz := 4) (k := k) (fun _ => rfl) (by omega)), (cl74_ok (n) (nth l k)), (bvF (by assumption)), (intE (by exact wrap_i64 (by omega) (by omega))), rfl, trivial⟩
theorem ipx_hit (n : Int) (l : List Prp) (k : Nat) (hk : k < l.length) (hl : l.length ≤ 1000000)  (hp : nameD n (nth l k) = true) : LoopT C0 ipxB (ipxS n l k) .ret (ipxH n l k) := by
  exact LoopT.fin (hs := hint [((2,0), {val := some (bl (true))}), ((4,3), {cells := some (propL (nth l k) ++ List.flatMap propL (List.drop (k + (1 : Nat)) l)), sym := true}), ((4,5), {val := some (bl (true)), call := some ((bl (nameD n (nth l k))))})]) (f := { ks := [4] }) (ps := [bl (decide ((↑k : Int) < (↑l.length : Int))) = bl (true), decide ((0 : Int) ≤ (↑k : Int) ∧ (↑k : Int) < (↑l.length : Int)) = true, ((List.drop ((↑k : Int).toNat * (4 : Nat)) (List.flatMap propL l)) : List AV) = (propL (nth l k) ++ List.flatMap propL (List.drop (k + (1 : Nat)) l)), _, bl (nameD n (nth l k)) = bl (true), true = true]) (by kernel_rfl) ⟨(bdT (by omega)), (by exact decide_t (by omega)), (by exact flat_nth (sz := 4) (k := k) (fun _ => rfl) (by omega)), (cl74_ok (n) (nth l k)), (bvT (by assumption)), rfl, trivial⟩ (by decide)
theorem ipx_end (n : Int) (l : List Prp)  : LoopT C0 ipxB (ipxS n l l.length) (.exit 0) (ipxS n l l.length) := by
  exact LoopT.fin (hs := hint [((2,0), {val := some (bl (false))})]) (f := { ks := [0, 1, 7, 8] }) (ps := [bl (decide ((↑l.length : Int) < (↑l.length : Int))) = bl (false), true = true]) (by kernel_rfl) ⟨(bdF (by omega)), rfl, trivial⟩ (by decide)
theorem ipx_ok (n : Int) (l : List Prp) (hl : l.length ≤ 1000000)  : Pu 73 [slE propL l, fn_p n] (i64 (idxI (idxD (nameD n) l))) := by
  cases h : idxD (nameD n) l with
  | some m =>
    obtain ⟨h1, h2, h3⟩ := idx_some h
    have L := LoopT.count (ipxS n l) m (fun k hk => ipx_step n l k (by omega) hl (h3 k hk)) (ipx_hit n l m h1 hl h2) 0 (by omega)
    exact pure_of (hs := hint [((2,1000), {loop := some ({ ks := [0, 1, 7, 8] }, ipxS n l (0 : Nat), Ex.ret, ipxH n l m)})]) (ps := [ipxS n l (0 : Nat) = ipxS n l (0 : Nat), _, true = true]) (by kernel_rfl) ⟨rfl, L, rfl, trivial⟩
  | none =>
    have L := LoopT.count (ipxS n l) l.length (fun k hk => ipx_step n l k hk hl (idx_none h k hk)) (ipx_end n l) 0 (by omega)
    exact pure_of (hs := hint [((2,1000), {loop := some ({ ks := [0, 1, 7, 8] }, ipxS n l (0 : Nat), Ex.exit (0 : Nat), ipxS n l l.length)})]) (ps := [ipxS n l (0 : Nat) = ipxS n l (0 : Nat), _, true = true]) (by kernel_rfl) ⟨rfl, L, rfl, trivial⟩
theorem at_ok (n : Int) (l : List Prp) (hl : l.length ≤ 1000000) : Pu 53 [lstA l, u32 n] (i64 (idxI (idxD (nameD n) l))) := by
  have hx := ipx_ok n l hl
  exact pure_of (hs := hint [((1,2000), { frz := [1] }), ((1,3), {call := some ((i64 (idxI (idxD (nameD n) l))))})]) (ps := [true = true, _]) (by kernel_rfl) ⟨rfl, (hx), trivial⟩
theorem most_ok : Pu 76 [i64 32] (i64 4294967295) := by
  exact pure_of (hs := hint []) (ps := []) (by kernel_rfl) trivial
theorem join_ok (l m : List Int) (h1 : l.length ≤ 100000) (h2 : m.length ≤ 100000) : Pu 54 [slI l, slI m] (slI (l ++ m)) := by
  have t1 := is_take l (l.length * 1) (by omega)
  have t2 := is_take m (m.length * 1) (by omega)
  obtain ⟨r, hr⟩ : ∃ r : List AV, r = l.flatMap eI ++ replZ m.length [i64 0] := ⟨_, rfl⟩
  have hlr : r.length = l.length + m.length := by rw [hr, List.length_append, is_len, replZ_len]
  have hlm : (l ++ m).length = l.length + m.length := List.length_append
  exact pure_cast (pure_said (hs := hint [((1,4), {val := some (i64 ((↑l.length : Int) + (↑m.length : Int)))}), ((1,5), {sym := true}), ((2,2), { sym := true, cells := some r }), ((3,2), {sym := true}), ((3,4), { sym := true, cells := some ((l ++ m).flatMap eI) })]) (r := AV.sl (((↑l.length : Int) + (↑m.length : Int)).toNat) (List.take (((↑l.length : Int) + (↑m.length : Int)).toNat * (1 : Nat)) (List.drop (0 : Nat) (List.flatMap eI (l ++ m))))) (ps := [i64 (IntKind.i64.wrap ((↑l.length : Int) + (↑m.length : Int))) = i64 ((↑l.length : Int) + (↑m.length : Int)), decide ((0 : Int) ≤ (↑l.length : Int) + (↑m.length : Int) ∧ (↑l.length : Int) + (↑m.length : Int) ≤ (↑l.length : Int) + (↑m.length : Int) ∧ ((↑l.length : Int) + (↑m.length : Int)) * (8 : Int) ≤ (140737488355328 : Int) ∧ (↑l.length : Int) + (↑m.length : Int) ≤ (140737488355328 : Int)) = true, decide ((0 : Nat) + ((↑l.length : Int) + (↑m.length : Int)).toNat * (1 : Nat) ≤ ((↑l.length : Int) + (↑m.length : Int)).toNat * (1 : Nat)) = true, true = true, decide ((List.take (l.length * (1 : Nat)) (List.flatMap eI l)).length = l.length * (1 : Nat)) = true, ((splice (replZ ((↑l.length : Int) + (↑m.length : Int)).toNat [AV.s (Value.int IntKind.i64 (0 : Int))]) (0 : Nat) (List.take (min l.length ((↑l.length : Int) + (↑m.length : Int)).toNat * (1 : Nat)) (List.take (l.length * (1 : Nat)) (List.flatMap eI l)))) : List AV) = (r), (decide ((0 : Int) ≤ (↑(min l.length ((↑l.length : Int) + (↑m.length : Int)).toNat) : Int) ∧ (↑(min l.length ((↑l.length : Int) + (↑m.length : Int)).toNat) : Int) ≤ (↑((↑l.length : Int) + (↑m.length : Int)).toNat : Int) ∧ (↑((↑l.length : Int) + (↑m.length : Int)).toNat : Int) ≤ (↑((↑l.length : Int) + (↑m.length : Int)).toNat : Int) ∧ (↑((↑l.length : Int) + (↑m.length : Int)).toNat : Int) ≤ (↑((↑l.length : Int) + (↑m.length : Int)).toNat : Int)) && true) = true, decide ((0 : Nat) + (↑(min l.length ((↑l.length : Int) + (↑m.length : Int)).toNat) : Int).toNat * (1 : Nat) + ((↑((↑l.length : Int) + (↑m.length : Int)).toNat : Int) - (↑(min l.length ((↑l.length : Int) + (↑m.length : Int)).toNat) : Int)).toNat * (1 : Nat) ≤ ((↑l.length : Int) + (↑m.length : Int)).toNat * (1 : Nat)) = true, decide ((0 : Nat) ≤ (0 : Nat) + (↑(min l.length ((↑l.length : Int) + (↑m.length : Int)).toNat) : Int).toNat * (1 : Nat)) = true, decide ((List.take (m.length * (1 : Nat)) (List.flatMap eI m)).length = m.length * (1 : Nat)) = true, ((splice r ((0 : Nat) + (↑(min l.length ((↑l.length : Int) + (↑m.length : Int)).toNat) : Int).toNat * (1 : Nat)) (List.take (min m.length ((↑((↑l.length : Int) + (↑m.length : Int)).toNat : Int) - (↑(min l.length ((↑l.length : Int) + (↑m.length : Int)).toNat) : Int)).toNat * (1 : Nat)) (List.take (m.length * (1 : Nat)) (List.flatMap eI m)))) : List AV) = (List.flatMap eI (l ++ m)), ([(0 : Nat)].all fun (i : Nat) => (Option.map pureB [Bk.arr (((↑l.length : Int) + (↑m.length : Int)).toNat * (1 : Nat)) (List.flatMap eI (l ++ m)) (0 : Fz)][i]?).getD false) = true, true = true]) (by kernel_rfl) ⟨(intE (by exact wrap_i64 (by omega) (by omega))), (by exact decide_t (by omega)), (by (first | (rw [t1, is_len, Nat.mul_one]; exact decide_t rfl) | exact decide_t (by omega) | (rw [t1, hr]; exact splice_a l m _ _ (by omega) (by omega)))), rfl, (by (first | (rw [t1, is_len, Nat.mul_one]; exact decide_t rfl) | exact decide_t (by omega) | (rw [t1, hr]; exact splice_a l m _ _ (by omega) (by omega)))), (by (first | (rw [t1, is_len, Nat.mul_one]; exact decide_t rfl) | exact decide_t (by omega) | (rw [t1, hr]; exact splice_a l m _ _ (by omega) (by omega)))), (by (simp; omega)), (by (first | (rw [t2, is_len, Nat.mul_one]; exact decide_t rfl) | exact decide_t (by omega) | (rw [t2, hr]; exact splice_b l m _ _ (by omega) (by omega)))), (by (first | (rw [t2, is_len, Nat.mul_one]; exact decide_t rfl) | exact decide_t (by omega) | (rw [t2, hr]; exact splice_b l m _ _ (by omega) (by omega)))), (by (first | (rw [t2, is_len, Nat.mul_one]; exact decide_t rfl) | exact decide_t (by omega) | (rw [t2, hr]; exact splice_b l m _ _ (by omega) (by omega)))), (by (first | (rw [t2, is_len, Nat.mul_one]; exact decide_t rfl) | exact decide_t (by omega) | (rw [t2, hr]; exact splice_b l m _ _ (by omega) (by omega)))), (by exact ids_one _ _ _ rfl (is_pureB _ _ _)), rfl, trivial⟩) (by exact is_sl (l ++ m) _ _ (by omega) (by omega))
noncomputable def chB : Code := loopOf Try.prog 57 11
def chS (p : Prp) (k : Nat) : St := ⟨mkT 40 [(3, i64 4294967295), (26, slI p.data), (27, i64 p.data.length), (28, i64 k)], []⟩
theorem ch_step (p : Prp) (k : Nat) (hk : k < p.data.length) (hl : p.data.length ≤ 16384) (h0 : 0 ≤ nth p.data k) (h1 : nth p.data k ≤ 4294967295) : Tri C0 chB (chS p k) .normal (chS p (k + 1)) := by
  exact runF_ok (hs := hint [((11,0), {val := some (bl (true))}), ((12,0), {cells := some (eI (nth p.data k) ++ List.flatMap eI (List.drop (k + (1 : Nat)) p.data)), sym := true}), ((13,2), {val := some (bl (false))}), ((13,6), {val := some (bl (false))}), ((15,0), {val := some (i64 ((↑k : Int) + (1 : Int)))})]) (f := { ks := [3, 26, 27, 28] }) (ps := [bl (decide ((↑k : Int) < (↑p.data.length : Int))) = bl (true), decide ((0 : Int) ≤ (↑k : Int) ∧ (↑k : Int) < (↑p.data.length : Int)) = true, ((List.drop ((↑k : Int).toNat * (1 : Nat)) (List.flatMap eI p.data)) : List AV) = (eI (nth p.data k) ++ List.flatMap eI (List.drop (k + (1 : Nat)) p.data)), bl (decide (nth p.data k < (0 : Int))) = bl (false), bl (decide (nth p.data k > (4294967295 : Int))) = bl (false), i64 (IntKind.i64.wrap ((↑k : Int) + (1 : Int))) = i64 ((↑k : Int) + (1 : Int)), true = true]) (by kernel_rfl) ⟨(bdT (by omega)), (by exact decide_t (by omega)), (by exact flat_nth (sz := 1) (k := k) (fun _ => rfl) (by omega)), (bdF (by omega)), (bdF (by omega)), (intE (by exact wrap_i64 (by omega) (by omega))), rfl, trivial⟩
theorem ch_end (p : Prp) : LoopT C0 chB (chS p p.data.length) (.exit 1) (chS p p.data.length) := by
  exact LoopT.fin (hs := hint [((11,0), {val := some (bl (false))})]) (f := { ks := [3, 26, 27, 28] }) (ps := [bl (decide ((↑p.data.length : Int) < (↑p.data.length : Int))) = bl (false), true = true]) (by kernel_rfl) ⟨(bdF (by omega)), rfl, trivial⟩ (by decide)
/-- a property that may be laid -/
structure Good (p : Prp) : Prop where
  name : ¬ p.name = 0
  type : ¬ p.type = 0
  fmt : p.fmt = 32
  len : p.data.length ≤ 16384
  nums : ∀ v ∈ p.data, 0 ≤ v ∧ v ≤ 4294967295
theorem check_ok (p : Prp) (h : Good p) : Pu 57 [A (propL p)] (i64 0) := by
  have L := LoopT.count (chS p) p.data.length (fun k hk => ch_step p k hk h.len (h.nums _ (nth_mem hk)).1 (h.nums _ (nth_mem hk)).2) (ch_end p) 0 (by omega)
  obtain ⟨h1, h2, h3, h4, _⟩ := h
  have m := most_ok
  obtain ⟨a, b, c, d⟩ := p
  simp only at h1 h2 h3 h4
  subst h3
  exact pure_of (hs := hint [((1,2), {call := some ((i64 (4294967295 : Int)))}), ((2,3), {val := some (bl (false))}), ((4,3), {val := some (bl (false))}), ((8,4), {val := some (bl (false))}), ((11,1000), {loop := some ({ ks := [3, 26, 27, 28] }, chS { name := a, type := b, fmt := (32 : Int), data := d : Prp } (0 : Nat), Ex.exit (1 : Nat), chS { name := a, type := b, fmt := (32 : Int), data := d : Prp } { name := a, type := b, fmt := (32 : Int), data := d : Prp }.data.length)})]) (ps := [_, bl (a == (0 : Int)) = bl (false), bl (b == (0 : Int)) = bl (false), bl (decide ((↑d.length : Int) > (16384 : Int))) = bl (false), chS { name := a, type := b, fmt := (32 : Int), data := d : Prp } (0 : Nat) = chS { name := a, type := b, fmt := (32 : Int), data := d : Prp } (0 : Nat), _, true = true]) (by kernel_rfl) ⟨(m), (beF (by assumption)), (beF (by assumption)), (bdF (by omega)), rfl, L, rfl, trivial⟩
theorem clone_nil : Pu 58 [.s (.slice none 0 0)] (slE propL []) := by
  exact pure_of (hs := hint []) (ps := []) (by kernel_rfl) trivial
theorem clone_sx (l : List Prp) (hl : l.length ≤ 100000) : Pu 58 [.sx l.length (l.flatMap propL)] (slE propL l) := by
  have e1 := row_take (sz := 4) (enc := propL) (fun _ => rfl) l (l.length * 4) (Nat.le_refl _)
  have e2 := row_len (sz := 4) (enc := propL) (fun _ => rfl) l
  have r1 := row_sl (sz := 4) (enc := propL) (fun _ => rfl) l l.length (l.length * 4) rfl (Nat.le_refl _)
  exact pure_cast (pure_said (hs := hint [((3,2), { sym := true, cells := some (l.flatMap propL) })]) (r := AV.sl ((0 : Nat) + l.length) (List.take (((0 : Nat) + l.length) * (4 : Nat)) (List.drop (0 : Nat) (List.flatMap propL l)))) (ps := [true = true, decide (((0 : Nat) + l.length) * (40 : Nat) ≤ (140737488355328 : Nat)) = true, decide ((List.take (l.length * (4 : Nat)) (List.flatMap propL l)).length = l.length * (4 : Nat)) = true, ((List.take (l.length * (4 : Nat)) (List.flatMap propL l)) : List AV) = (List.flatMap propL l), ([(1 : Nat)].all fun (i : Nat) => (Option.map pureB [Bk.dead, Bk.arr (((0 : Nat) + l.length) * (4 : Nat)) (List.flatMap propL l) (0 : Fz)][i]?).getD false) = true, true = true]) (by kernel_rfl) ⟨rfl, (by (first | exact decide_t (by omega) | exact decide_t (by rw [e1, e2]) | (rw [e1]; rfl))), (by (first | exact decide_t (by omega) | exact decide_t (by rw [e1, e2]) | (rw [e1]; rfl))), (by assumption), (by exact row_ids (fun _ => rfl) _ _ _ _ _ rfl), rfl, trivial⟩) (by (simp only [Nat.zero_add]; exact r1))
theorem clone_ok (l : List Prp) (hl : l.length ≤ 100000) : Pu 58 [slE propL l] (slE propL l) := by
  refine pure_nil1 (clone_sx l hl) fun h0 _ => ?_
  obtain rfl := List.length_eq_zero_iff.1 h0
  exact clone_nil
end Go.Proofs.Ytdcoomeagbjhlaa
