/- Put: the bytes that are other ones. By the prover of this seat. -/
import Derived.Test.YtdcoomeagbjhlaaDoorBe
set_option linter.unusedVariables false
set_option linter.unusedSimpArgs false
set_option maxRecDepth 100000
set_option maxHeartbeats 4000000
namespace Go.Proofs.YtdcoomeagbjhlaaDoor.Ca
open Go.RowKit Go.Pm
open Go.Proofs.YtdcoomeagbjhlaaDoor.Or (G1 C1 Pu)
def e8 (n : Int) : List AV := [u8 n]
def three (b : ByteArray) (i : Nat) : List Int := [(i : Int) / 256, (i : Int) % 256, ((b[i]!).toNat : Int)]
noncomputable def prC : Code := rangeOf Tryd.prog 17 15
noncomputable def C4 : Cx := ⟨Tryd.prog, G1, 4⟩
def prT (x b : ByteArray) : List AV := mkT 82 [(4, .ptr 0 0), (7, .ptr 1 0), (11, .ptr 2 0), (62, .fn (.func 41) [] [.fptr [st x], .fptr [st b]])]
def prU (x b : ByteArray) (i : Nat) : List AV := mkT 82 [(4, .ptr 0 0), (7, .ptr 1 0), (11, .ptr 2 0), (12, i64 i), (13, u8 ((b[i]!).toNat : Int)), (62, .fn (.func 41) [] [.fptr [st x], .fptr [st b]])]
def prG (m : Int) (l' : List ByteArray) (n : Nat) (zs : List Int) : List Bk := [.arr 2 [i64 0, .nsl] 0, .arr 2 [i64 m, slS l'] 0, .arr 1 [.osl 3 0 n 1] 0, .arr (n * 1) (zs.flatMap e8) 0]
def prH (m : Int) (l' : List ByteArray) (n : Nat) (zs : List Int) : List Bk := [.arr 2 [i64 0, .nsl] 0, .arr 2 [i64 m, slS l'] 0, .arr 1 [.osl 4 0 n 1] 0, .dead, .arr (n * 1) (zs.flatMap e8) 0]
theorem pr_assignG (x b : ByteArray) (m : Int) (l' : List ByteArray) (n : Nat) (zs : List Int) (i : Nat) : TriR C4 (assignOf prC) ⟨((prT x b).set 63 (i64 i)).set 64 (u8 ((b[i]!).toNat : Int)), prG m l' n zs⟩ .normal ⟨prU x b i, prG m l' n zs⟩ := by
  exact runFR_ok (hs := hint []) (f := { ks := [4, 7, 11, 12, 13, 62], l := [0, 1, 2, 3], mx := [2] }) (ps := [true = true, true = true, true = true, pureB (Bk.arr (n * (1 : Nat)) (List.flatMap e8 zs) (0 : Fz)) = true]) (by kernel_rfl) ⟨rfl, rfl, rfl, (by exact row_pureB (fun _ => rfl) _ _ _), trivial⟩
theorem pr_assignH (x b : ByteArray) (m : Int) (l' : List ByteArray) (n : Nat) (zs : List Int) (i : Nat) : TriR C4 (assignOf prC) ⟨((prT x b).set 63 (i64 i)).set 64 (u8 ((b[i]!).toNat : Int)), prH m l' n zs⟩ .normal ⟨prU x b i, prH m l' n zs⟩ := by
  exact runFR_ok (hs := hint []) (f := { ks := [4, 7, 11, 12, 13, 62], l := [0, 1, 2, 3, 4], mx := [2] }) (ps := [true = true, true = true, true = true, pureB (Bk.arr (n * (1 : Nat)) (List.flatMap e8 zs) (0 : Fz)) = true]) (by kernel_rfl) ⟨rfl, rfl, rfl, (by exact row_pureB (fun _ => rfl) _ _ _), trivial⟩
theorem pr_goG (x b : ByteArray) (m : Int) (l' : List ByteArray) (n : Nat) (zs : List Int) (i : Nat) (hi : i ≤ 65535) (hn : n = zs.length) (hn2 : n ≤ 1000000) (hv1 : IntKind.u8.wrap ((i : Int) / 256) = (i : Int) / 256) (hv2 : IntKind.u8.wrap (i : Int) = (i : Int) % 256) : TriR C4 (bodyOf prC) ⟨prU x b i, prG m l' n zs⟩ .normal ⟨prT x b, prH m l' (n + 3) (zs ++ three b i)⟩ := by
  have e1 : (zs ++ three b i).flatMap e8 = zs.flatMap e8 ++ (three b i).flatMap e8 := List.flatMap_append
  exact runFR_ok (hs := hint [((15,2), {val := some (i64 ((↑i : Int) / (256 : Int)))}), ((15,3), { val := some (u8 ((i : Int) / 256)) }), ((15,5), { val := some (u8 ((i : Int) % 256)) }), ((15,8), { sym := true, cells := some ((zs ++ three b i).flatMap e8) })]) (f := { ks := [4, 7, 11, 62], l := [0, 1, 2, 3, 5], mx := [2] }) (ps := [i64 ((↑i : Int).fdiv (256 : Int)) = i64 ((↑i : Int) / (256 : Int)), u8 (IntKind.u8.wrap ((↑i : Int) / (256 : Int))) = u8 ((↑i : Int) / (256 : Int)), u8 (IntKind.u8.wrap (↑i : Int)) = u8 ((↑i : Int) % (256 : Int)), decide (n * (1 : Nat) = n * (1 : Nat) ∧ (0 : Nat) ≤ n * (1 : Nat) ∧ n * (1 : Nat) = (List.flatMap e8 zs).length) = true, decide ((n + (3 : Nat)) * (1 : Nat) ≤ (140737488355328 : Nat)) = true, decide ([AV.s (Value.int IntKind.u8 ((↑i : Int) / (256 : Int))), AV.s (Value.int IntKind.u8 ((↑i : Int) % (256 : Int))), AV.s (Value.int IntKind.u8 (↑b[i]!.toNat : Int))].length = (3 : Nat)) = true, ((List.flatMap e8 zs ++ [AV.s (Value.int IntKind.u8 ((↑i : Int) / (256 : Int))), AV.s (Value.int IntKind.u8 ((↑i : Int) % (256 : Int))), AV.s (Value.int IntKind.u8 (↑b[i]!.toNat : Int))]) : List AV) = (List.flatMap e8 (zs ++ [(↑i : Int) / (256 : Int), (↑i : Int) % (256 : Int), (↑b[i]!.toNat : Int)])), true = true, true = true, true = true, pureB (Bk.arr ((n + (3 : Nat)) * (1 : Nat)) (List.flatMap e8 (zs ++ [(↑i : Int) / (256 : Int), (↑i : Int) % (256 : Int), (↑b[i]!.toNat : Int)])) (0 : Fz)) = true]) (by kernel_rfl) ⟨(intE (Int.fdiv_eq_ediv_of_nonneg _ (by decide))), (by exact intE hv1), (by exact intE hv2), (by (first | exact e1.symm | exact decide_t (by omega) | exact decide_t ⟨by omega, by omega, by rw [row_len (sz := 1) (fun _ => rfl)]; omega⟩ | exact decide_t (by rw [row_len (sz := 1) (fun _ => rfl)]; omega))), (by (first | exact e1.symm | exact decide_t (by omega) | exact decide_t ⟨by omega, by omega, by rw [row_len (sz := 1) (fun _ => rfl)]; omega⟩ | exact decide_t (by rw [row_len (sz := 1) (fun _ => rfl)]; omega))), (by (simp; done)), (by (first | exact e1.symm | exact decide_t (by omega) | exact decide_t ⟨by omega, by omega, by rw [row_len (sz := 1) (fun _ => rfl)]; omega⟩ | exact decide_t (by rw [row_len (sz := 1) (fun _ => rfl)]; omega))), rfl, rfl, rfl, (by exact row_pureB (fun _ => rfl) _ _ _), trivial⟩
theorem pr_goH (x b : ByteArray) (m : Int) (l' : List ByteArray) (n : Nat) (zs : List Int) (i : Nat) (hi : i ≤ 65535) (hn : n = zs.length) (hn2 : n ≤ 1000000) (hv1 : IntKind.u8.wrap ((i : Int) / 256) = (i : Int) / 256) (hv2 : IntKind.u8.wrap (i : Int) = (i : Int) % 256) : TriR C4 (bodyOf prC) ⟨prU x b i, prH m l' n zs⟩ .normal ⟨prT x b, prH m l' (n + 3) (zs ++ three b i)⟩ := by
  have e1 : (zs ++ three b i).flatMap e8 = zs.flatMap e8 ++ (three b i).flatMap e8 := List.flatMap_append
  exact runFR_ok (hs := hint [((15,2), {val := some (i64 ((↑i : Int) / (256 : Int)))}), ((15,3), { val := some (u8 ((i : Int) / 256)) }), ((15,5), { val := some (u8 ((i : Int) % 256)) }), ((15,8), { sym := true, cells := some ((zs ++ three b i).flatMap e8) })]) (f := { ks := [4, 7, 11, 62], l := [0, 1, 2, 3, 6], mx := [2] }) (ps := [i64 ((↑i : Int).fdiv (256 : Int)) = i64 ((↑i : Int) / (256 : Int)), u8 (IntKind.u8.wrap ((↑i : Int) / (256 : Int))) = u8 ((↑i : Int) / (256 : Int)), u8 (IntKind.u8.wrap (↑i : Int)) = u8 ((↑i : Int) % (256 : Int)), decide (n * (1 : Nat) = n * (1 : Nat) ∧ (0 : Nat) ≤ n * (1 : Nat) ∧ n * (1 : Nat) = (List.flatMap e8 zs).length) = true, decide ((n + (3 : Nat)) * (1 : Nat) ≤ (140737488355328 : Nat)) = true, decide ([AV.s (Value.int IntKind.u8 ((↑i : Int) / (256 : Int))), AV.s (Value.int IntKind.u8 ((↑i : Int) % (256 : Int))), AV.s (Value.int IntKind.u8 (↑b[i]!.toNat : Int))].length = (3 : Nat)) = true, ((List.flatMap e8 zs ++ [AV.s (Value.int IntKind.u8 ((↑i : Int) / (256 : Int))), AV.s (Value.int IntKind.u8 ((↑i : Int) % (256 : Int))), AV.s (Value.int IntKind.u8 (↑b[i]!.toNat : Int))]) : List AV) = (List.flatMap e8 (zs ++ [(↑i : Int) / (256 : Int), (↑i : Int) % (256 : Int), (↑b[i]!.toNat : Int)])), true = true, true = true, true = true, pureB (Bk.arr ((n + (3 : Nat)) * (1 : Nat)) (List.flatMap e8 (zs ++ [(↑i : Int) / (256 : Int), (↑i : Int) % (256 : Int), (↑b[i]!.toNat : Int)])) (0 : Fz)) = true]) (by kernel_rfl) ⟨(intE (Int.fdiv_eq_ediv_of_nonneg _ (by decide))), (by exact intE hv1), (by exact intE hv2), (by (first | exact e1.symm | exact decide_t (by omega) | exact decide_t ⟨by omega, by omega, by rw [row_len (sz := 1) (fun _ => rfl)]; omega⟩ | exact decide_t (by rw [row_len (sz := 1) (fun _ => rfl)]; omega))), (by (first | exact e1.symm | exact decide_t (by omega) | exact decide_t ⟨by omega, by omega, by rw [row_len (sz := 1) (fun _ => rfl)]; omega⟩ | exact decide_t (by rw [row_len (sz := 1) (fun _ => rfl)]; omega))), (by (simp; done)), (by (first | exact e1.symm | exact decide_t (by omega) | exact decide_t ⟨by omega, by omega, by rw [row_len (sz := 1) (fun _ => rfl)]; omega⟩ | exact decide_t (by rw [row_len (sz := 1) (fun _ => rfl)]; omega))), rfl, rfl, rfl, (by exact row_pureB (fun _ => rfl) _ _ _), trivial⟩
theorem pr_code : prC = .rangeFunc (.tmp 62) #[63, 64] (assignOf prC) (bodyOf prC) := by kernel_rfl
def prZ (b : ByteArray) (zs : List Int) (d : List Nat) (k : Nat) : List Int := zs ++ (d.take k).flatMap (three b)
theorem three_len (b : ByteArray) (l : List Nat) : (l.flatMap (three b)).length = l.length * 3 := by
  induction l with
  | nil => rfl
  | cons x l ih =>
    rw [List.flatMap_cons, List.length_append, ih, List.length_cons]
    show 3 + _ = _
    omega
theorem prZ_len (b : ByteArray) (zs : List Int) (d : List Nat) (k : Nat) (hz : zs.length = 2) (hk : k ≤ d.length) : (prZ b zs d k).length = 2 + 3 * k := by
  unfold prZ
  rw [List.length_append, three_len, List.length_take, hz]
  omega
theorem prZ_succ (b : ByteArray) (zs : List Int) (d : List Nat) (k : Nat) (hk : k < d.length) : prZ b zs d (k + 1) = prZ b zs d k ++ three b (nth d k) := by
  unfold prZ
  rw [take_nthA hk, List.flatMap_append, ← List.append_assoc]
  simp
def prS (b : ByteArray) (m : Int) (l' : List ByteArray) (zs : List Int) (d : List Nat) : Nat → List Bk
  | 0 => prG m l' 2 zs
  | k + 1 => prH m l' (2 + 3 * (k + 1)) (prZ b zs d (k + 1))
theorem difL_lt (a b : ByteArray) (i : Nat) (h : i ∈ difL a b) : i < a.size := by
  unfold difL at h
  exact List.mem_range.1 (List.mem_filter.1 h).1
theorem pr_tri (x b : ByteArray) (m : Int) (l' : List ByteArray) (zs : List Int) (hz : zs.length = 2) (hs : x.size = b.size) (hl : x.size ≤ 65536) : Tri C1 prC ⟨prT x b, prG m l' 2 zs⟩ .normal ⟨prT x b, prS b m l' zs (difL x b) (difL x b).length⟩ := by
  rw [pr_code]
  have hc := difL_le x b
  have hlt := difL_lt x b
  have hX : ∀ (k : Nat) (y : AV × AV), (difX x b)[k]? = some y → k < (difL x b).length ∧ y = (i64 (nth (difL x b) k : Nat), u8 ((b[nth (difL x b) k]!).toNat : Int)) := by
    intro k y hy
    unfold difX at hy
    rw [List.getElem?_map, Option.map_eq_some_iff] at hy
    obtain ⟨i, h1, rfl⟩ := hy
    obtain ⟨h2, h3⟩ := List.getElem?_eq_some_iff.1 h1
    exact ⟨h2, by rw [nth_eq h2, h3]⟩
  have hgo : ∀ k, k < (difL x b).length → ∃ t', TriR C4 (bodyOf prC) ⟨prU x b (nth (difL x b) k), prS b m l' zs (difL x b) k⟩ .normal ⟨t', prS b m l' zs (difL x b) (k + 1)⟩ := by
    intro k hk
    have hi := hlt _ (nth_mem hk)
    have h1 : IntKind.u8.wrap (((nth (difL x b) k : Nat) : Int) / 256) = ((nth (difL x b) k : Nat) : Int) / 256 := by rw [wrap_u8_mod]; omega
    have h2 : IntKind.u8.wrap ((nth (difL x b) k : Nat) : Int) = ((nth (difL x b) k : Nat) : Int) % 256 := wrap_u8_mod _
    cases k with
    | zero =>
      refine ⟨prT x b, ?_⟩
      have := pr_goG x b m l' 2 zs (nth (difL x b) 0) (by omega) hz.symm (by omega) h1 h2
      show TriR C4 (bodyOf prC) ⟨prU x b _, prG m l' 2 zs⟩ .normal ⟨_, prH m l' (2 + 3 * (0 + 1)) (prZ b zs (difL x b) (0 + 1))⟩
      rw [prZ_succ b zs (difL x b) 0 hk, show prZ b zs (difL x b) 0 = zs by unfold prZ; simp]
      exact this
    | succ k =>
      refine ⟨prT x b, ?_⟩
      have := pr_goH x b m l' (2 + 3 * (k + 1)) (prZ b zs (difL x b) (k + 1)) (nth (difL x b) (k + 1)) (by omega) (prZ_len b zs _ _ hz (by omega)).symm (by omega) h1 h2
      show TriR C4 (bodyOf prC) ⟨prU x b _, prH m l' (2 + 3 * (k + 1)) (prZ b zs (difL x b) (k + 1))⟩ .normal ⟨_, prH m l' (2 + 3 * (k + 1 + 1)) (prZ b zs (difL x b) (k + 1 + 1))⟩
      rw [prZ_succ b zs (difL x b) (k + 1) hk]
      exact this
  refine range_tri (difX x b) (others_iter x b hs (by omega)) others_enter rfl rfl (prS b m l' zs (difL x b)) rfl (fun k => prU x b (nth (difL x b) k)) (difL x b).length (by rw [difX_len]; exact Nat.le_refl _) (fun k y hk hy => ?_) hgo .normal _ (.inl ⟨by rw [difX_len], rfl, rfl⟩)
  obtain ⟨h1, rfl⟩ := hX k y hy
  cases k with
  | zero => exact pr_assignG x b m l' 2 zs _
  | succ k => exact pr_assignH x b m l' _ _ _
end Go.Proofs.YtdcoomeagbjhlaaDoor.Ca
