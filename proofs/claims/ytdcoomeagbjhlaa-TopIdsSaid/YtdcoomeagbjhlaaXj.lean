/- Numbers of their own: ids, stubs, the table of resources. By the prover of this seat. -/
import Derived.Test.YtdcoomeagbjhlaaXi
set_option linter.unusedVariables false
set_option linter.unusedSimpArgs false
set_option maxRecDepth 100000
set_option maxHeartbeats 4000000
namespace Go.Proofs.Ytdcoomeagbjhlaa
open Go.RowKit Go.Pm
abbrev ekI (n : Int) : AV := u32 n
theorem ke_I : KeyEq ekI := keyEq_int .u32
theorem kwf_I {a : Int} (h0 : 0 ≤ a) (h1 : a ≤ 4294967295) : kwf Try.prog 62 (u32 a) = true := kwf_int (by kernel_rfl) (by simp [Lit.wf, IntKind.min, IntKind.max, IntKind.signed, IntKind.bits]; omega)
/-- an id: whose, its number, the resource's kind -/
structure Idr where
  c : Int
  k : Int
  kd : Int
  deriving DecidableEq, Inhabited
def idR (x : Idr) : Int := x.c * 1048576 + x.k
structure IOk (x : Idr) : Prop where
  c0 : 1 ≤ x.c
  c1 : x.c ≤ 8
  k0 : 1 ≤ x.k
  k1 : x.k ≤ 1000
  d0 : 2 ≤ x.kd
  d1 : x.kd ≤ 4
theorem IOk.r {x : Idr} (h : IOk x) : 0 ≤ idR x ∧ idR x ≤ 4294967295 := by
  obtain ⟨a, b, c, d, e, f⟩ := h
  unfold idR
  omega
abbrev evI (x : Idr) : AV := i64 x.kd
abbrev rowI : Idr → AV × AV := rowM idR ekI evI
theorem allK_I {l : List Idr} (h : ∀ x ∈ l, IOk x) : allK Try.prog 62 (l.map rowI) = true := allK_row fun x hx => kwf_I (h x hx).r.1 (h x hx).r.2
theorem pureB_I (l : List Idr) (fz : Bool) : pureB (.map (l.map rowI) fz) = true := pureB_row fun x hx => rfl
theorem ids_I (H : List Bk) (i : Nat) (l : List Idr) (fz : Bool) (h : H[i]? = some (.map (l.map rowI) fz)) : ([i].all fun i => (Option.map pureB H[i]?).getD false) = true := ids_one H i _ h (pureB_I l fz)
theorem begin0 : Pu 37 [i64 0] (st "l\x01\x00\x00".toUTF8) := by
  exact pure_of (hs := hint []) (ps := []) (by kernel_rfl) trivial
theorem begin1 : Pu 37 [i64 1] (st "B\x01\x00\x00".toUTF8) := by
  exact pure_of (hs := hint []) (ps := []) (by kernel_rfl) trivial
theorem isc_ok (c : Int) (h0 : 1 ≤ c) (h1 : c ≤ 8) : Pu 61 [i64 c] (bl true) := by
  exact pure_cast (pure_of (hs := hint [((1,2), {val := some (bl (true))})]) (r := bl (decide (c ≤ (8 : Int)))) (ps := [bl (decide ((1 : Int) ≤ c)) = bl (true)]) (by kernel_rfl) ⟨(bdT (by assumption)), trivial⟩) (by (simp; omega))
theorem base_ok (c : Int) (h0 : 1 ≤ c) (h1 : c ≤ 8) : Pu 38 [i64 c] (.tup [u32 (c * 1048576), bl true]) := by
  have h := isc_ok c h0 h1
  exact pure_of (hs := hint [((1,1), {call := some ((bl true))}), ((3,1), {val := some (u32 (c))}), ((3,2), {val := some (u32 (c * (1048576 : Int)))})]) (ps := [_, u32 (IntKind.u32.wrap c) = u32 (c), u32 (IntKind.u32.wrap (c * (1048576 : Int))) = u32 (c * (1048576 : Int))]) (by kernel_rfl) ⟨(h), (intE (by exact wrap_u32 (by omega) (by omega))), (intE (by exact wrap_u32 (by omega) (by omega))), trivial⟩
theorem client_ok (c k : Int) (h0 : 1 ≤ c) (h1 : c ≤ 8) (k0 : 1 ≤ k) (k1 : k ≤ 1000) : Pu 39 [u32 (c * 1048576 + k)] (.tup [i64 c, bl true]) := by
  have h := isc_ok c h0 h1
  have hdv : (c * 1048576 + k).tdiv 1048576 = c := by rw [Int.tdiv_eq_ediv_of_nonneg (by omega)]; omega
  exact pure_of (hs := hint [((1,1), {val := some (bl (false))}), ((3,1), { val := some (u32 c) }), ((3,2), {val := some (i64 (c))}), ((4,1), {val := some (u32 ((c * (1048576 : Int) + k) % (1048576 : Int)))}), ((4,3), {val := some (bl (false))}), ((4,5), {call := some ((bl true))})]) (ps := [bl (c * (1048576 : Int) + k == (1 : Int)) = bl (false), u32 (IntKind.u32.wrap ((c * (1048576 : Int) + k).tdiv (1048576 : Int))) = u32 (c), i64 (IntKind.i64.wrap c) = i64 (c), u32 ((c * (1048576 : Int) + k).tmod (1048576 : Int)) = u32 ((c * (1048576 : Int) + k) % (1048576 : Int)), bl ((c * (1048576 : Int) + k) % (1048576 : Int) == (0 : Int)) = bl (false), _]) (by kernel_rfl) ⟨(beF (by omega)), (by (first | exact decide_t (by omega) | exact intE (by rw [hdv]; exact wrap_u32 (by omega) (by omega)))), (intE (by exact wrap_i64 (by omega) (by omega))), (intE (Int.tmod_eq_emod_of_nonneg (by omega))), (beF (by omega)), (h), trivial⟩
theorem mine_yes (c k : Int) (h0 : 1 ≤ c) (h1 : c ≤ 8) (k0 : 1 ≤ k) (k1 : k ≤ 1000) : Pu 17 [i64 c, u32 (c * 1048576 + k)] (bl true) := by
  have h := client_ok c k h0 h1 k0 k1
  exact pure_cast (pure_of (hs := hint [((1,1), {call := some (AV.tup [(i64 c), (bl true)])}), ((2,5), {val := some (bl (true))})]) (r := bl (c == c)) (ps := [_, bl (c != (0 : Int)) = bl (true)]) (by kernel_rfl) ⟨(h), (neF (by omega)), trivial⟩) (by (simp; done))
theorem mine_no (d c k : Int) (h0 : 1 ≤ c) (h1 : c ≤ 8) (k0 : 1 ≤ k) (k1 : k ≤ 1000) (hd : ¬ c = d) : Pu 17 [i64 d, u32 (c * 1048576 + k)] (bl false) := by
  have h := client_ok c k h0 h1 k0 k1
  exact pure_cast (pure_of (hs := hint [((1,1), {call := some (AV.tup [(i64 c), (bl true)])}), ((2,5), {val := some (bl (true))})]) (r := bl (c == d)) (ps := [_, bl (c != (0 : Int)) = bl (true)]) (by kernel_rfl) ⟨(h), (neF (by omega)), trivial⟩) (by (simp; omega))
/-- a stub: order, client, how many ids it gave, its beginning -/
def stbL (o c k : Int) (b : ByteArray) : List AV := [i64 o, i64 c, bl false, i64 0, i64 0, i64 k, st b, st ⟨#[]⟩, .sl 0 [], .mp []]
theorem new0_ok (c : Int) (h0 : 1 ≤ c) (h1 : c ≤ 8) : Pu 14 [i64 0, i64 c] (.tup [A (stbL 0 c 0 "l\x01\x00\x00".toUTF8), i64 0]) := by
  have h := base_ok c h0 h1
  have b := begin0
  exact pure_of (hs := hint [((1,1), {call := some ((st "l\x01\x00\x00".toUTF8))}), ((4,1), {call := some (AV.tup [(u32 (c * (1048576 : Int))), (bl true)])})]) (ps := [_, _]) (by kernel_rfl) ⟨(b), (h), trivial⟩
theorem new1_ok (c : Int) (h0 : 1 ≤ c) (h1 : c ≤ 8) : Pu 14 [i64 1, i64 c] (.tup [A (stbL 1 c 0 "B\x01\x00\x00".toUTF8), i64 0]) := by
  have h := base_ok c h0 h1
  have b := begin1
  exact pure_of (hs := hint [((1,1), {call := some ((st "B\x01\x00\x00".toUTF8))}), ((4,1), {call := some (AV.tup [(u32 (c * (1048576 : Int))), (bl true)])})]) (ps := [_, _]) (by kernel_rfl) ⟨(b), (h), trivial⟩
theorem fresh_ok (o c k : Int) (b : ByteArray) (h0 : 1 ≤ c) (h1 : c ≤ 8) (k0 : 0 ≤ k) (k1 : k ≤ 900) : Pu 15 [A (stbL o c k b)] (.tup [A (stbL o c (k + 1) b), u32 (c * 1048576 + (k + 1)), i64 0]) := by
  have h := base_ok c h0 h1
  exact pure_of (hs := hint [((1,2), {call := some (AV.tup [(u32 (c * (1048576 : Int))), (bl true)])}), ((2,6), {val := some (bl (false))}), ((4,2), {val := some (i64 (k + (1 : Int)))}), ((5,4), {val := some (u32 (k + (1 : Int)))}), ((5,5), {val := some (u32 (c * (1048576 : Int) + (k + (1 : Int))))})]) (ps := [_, bl (decide (k ≥ (1048575 : Int))) = bl (false), i64 (IntKind.i64.wrap (k + (1 : Int))) = i64 (k + (1 : Int)), u32 (IntKind.u32.wrap (k + (1 : Int))) = u32 (k + (1 : Int)), u32 (IntKind.u32.wrap (c * (1048576 : Int) + (k + (1 : Int)))) = u32 (c * (1048576 : Int) + (k + (1 : Int)))]) (by kernel_rfl) ⟨(h), (bdF (by omega)), (intE (by exact wrap_i64 (by omega) (by omega))), (intE (by exact wrap_u32 (by omega) (by omega))), (intE (by exact wrap_u32 (by omega) (by omega))), trivial⟩
noncomputable def C1i : Cx := ⟨Try.prog, G0, 1⟩
noncomputable def cqB : Code := loopOf Try.prog 41 1
def cqT (D : List Idr) : List AV := mkT 16 [(0, .omp 0), (7, .ptr 1 0)]
def cqA (D : List Idr) : List Bk := [.map (D.map rowI) false, .dead]
theorem cq_step (D R : List Idr) (x : Idr) (hk : kwf Try.prog 62 (u32 (idR x)) = true) (ha : allK Try.prog 62 (D.map rowI) = true) (hm : (mput (D.map rowI) (u32 (idR x)) (i64 x.kd)).Perm ((D ++ [x]).map rowI)) : TriN C1i cqB ⟨putT (cqT D) (some 8) (.tup [.s (.bool true), (rowI x).1, (rowI x).2]), putB (cqA D) (1, .iter [((rowI x).1, (rowI x).2)] (R.map rowI))⟩ .normal ⟨cqT (D ++ [x]), putB (cqA (D ++ [x])) (1, .iter [((rowI x).1, (rowI x).2)] (R.map rowI))⟩ := by
  exact runN_ok (hs := hint [((3,3), { sym := true, ents := some ((D ++ [x]).map rowI) })]) (f := { ks := [0, 7], l := [0, 1] }) (ps := [true = true, true = true, kwf C1i.P (62 : Nat) (AV.s (Value.int IntKind.u32 (idR x))) = true, allK C1i.P (62 : Nat) (List.map rowI D) = true, (mput (List.map rowI D) (AV.s (Value.int IntKind.u32 (idR x))) (AV.s (Value.int IntKind.i64 x.kd))).Perm (List.map rowI (D ++ [x])), true = true, pureB (Bk.map (List.map rowI (D ++ [x])) false) = true]) (by kernel_rfl) ⟨(by (first | assumption | exact hm | rfl)), (by (first | assumption | exact hm | rfl)), (by (first | assumption | exact hm | rfl)), (by (first | assumption | exact hm | rfl)), (by (first | assumption | exact hm | rfl)), rfl, (by exact pureB_I _ _), trivial⟩
theorem cq_end (D : List Idr) (cur : List (AV × AV)) : TriN C1i cqB ⟨putT (cqT D) (some 8) (.tup [.s (.bool false)]), putB (cqA D) (1, .iter cur [])⟩ (.exit 0) ⟨mkT 16 [], [.map (D.map rowI) false]⟩ := by
  exact runN_ok (hs := hint []) (f := { ks := [], l := [0] }) (ps := [true = true, pureB (Bk.map (List.map rowI D) false) = true]) (by kernel_rfl) ⟨rfl, (by exact pureB_I _ _), trivial⟩
theorem cq_all (l : List Idr) (hl : keysApart idR l) (hs : ∀ x ∈ l, IOk x) : LoopT C1i cqB ⟨cqT [], [.map [] false, .iter [] (l.map rowI)]⟩ (.exit 0) ⟨mkT 16 [], [.map (l.map rowI) false]⟩ := by
  obtain ⟨n, hn, hop⟩ : ∃ n : Oper, headN cqB = some n ∧ n.op = .next (.tmp 7) false ∧ n.dst = some 8 := ⟨_, rfl, rfl, rfl⟩
  have hd := hop.2
  refine LoopT.rangeM (b := 1) rowI hn hop.1 l cqT cqA (by intro q; cases q) (fun D => ⟨mkT 16 [], [.map (D.map rowI) false]⟩) (fun D => rfl) (fun D => by simp [cqA]) (fun D x R hp => ?_) (fun D cur hp => ?_) (fun D hp w0 ρ M a W hR => ?_) l.length [] l [] rfl (List.Perm.refl _)
  · rw [hd]
    have ha := apart_perm hp.symm hl
    have hx := (hs x (hp.mem_iff.1 (by simp))).r
    exact cq_step D R x (kwf_I hx.1 hx.2) (allK_I fun y hy => hs y (hp.mem_iff.1 (by simp [hy]))) (by rw [show u32 (idR x) = ekI (idR x) from rfl, mput_fresh ke_I (apart_mid ha)])
  · rw [hd]
    exact cq_end D cur
  · exact hR.perm (i := 0) rfl (hp.map _)
theorem cqy_ok (l : List Idr) (hl : keysApart idR l) (hs : ∀ x ∈ l, IOk x) : CallH Try.prog G0 41 [.omp 0, .mp (l.map rowI)] [.map [] false] (.tup []) [.map (l.map rowI) false] := by
  have L := cq_all l hl hs
  exact (fnRun_ok (hs := hint [((1,1000), {loop := some ({ ks := [0, 7], l := [0, 1] }, { t := cqT [], h := [Bk.map [] false, Bk.iter [] (List.map rowI l)] : St }, Ex.exit (0 : Nat), { t := mkT (16 : Nat) [], h := [Bk.map (List.map rowI l) false] : St })})]) (ps := [{ t := cqT [], h := [Bk.map [] false, Bk.iter [] (List.map rowI l)] : St } = { t := cqT [], h := [Bk.map [] false, Bk.iter [] (List.map rowI l)] : St }, _, true = true, true = true]) (by kernel_rfl) ⟨rfl, L, rfl, rfl, trivial⟩).1
/-- a table of resources -/
def hldA (l : List Idr) : AV := A [.mp (l.map rowI)]
theorem kind_ok (l : List Idr) (x : Idr) (hs : ∀ y ∈ l, IOk y) (hx : IOk x) (hf : ∀ y ∈ l, idR y ≠ idR x) : Pu 16 [hldA l, u32 (x.c * 1048576 + x.k)] (i64 0) := by
  have hk := kwf_I hx.r.1 hx.r.2
  unfold idR at hk
  have ha := allK_I hs
  have hm : lookV false (mfind (l.map rowI) (u32 (x.c * 1048576 + x.k))) (i64 0) = i64 0 := by
    rw [show u32 (x.c * 1048576 + x.k) = ekI (idR x) from rfl, mfind_row ke_I, show findM idR l (idR x) = none from List.find?_eq_none.2 (fun y hy => by simp [hf y hy])]
    rfl
  exact pure_of (hs := hint [((1,3), { sym := true, val := some (i64 0) })]) (ps := [true = true, kwf Try.prog (62 : Nat) (AV.s (Value.int IntKind.u32 (x.c * (1048576 : Int) + x.k))) = true, allK Try.prog (62 : Nat) (List.map rowI l) = true, (match mfind (List.map rowI l) (AV.s (Value.int IntKind.u32 (x.c * (1048576 : Int) + x.k))) with
  | some v => if false = true then AV.tup [v, AV.s (Value.bool true)] else v
  | none => if false = true then AV.tup [ofV (Value.int IntKind.i64 (0 : Int)), AV.s (Value.bool false)] else ofV (Value.int IntKind.i64 (0 : Int))) = i64 ((0 : Int))]) (by kernel_rfl) ⟨(by (first | assumption | exact hm | rfl)), (by (first | assumption | exact hm | rfl)), (by (first | assumption | exact hm | rfl)), (by (first | assumption | exact hm | rfl)), trivial⟩
theorem add_no (l : List Idr) (x : Idr) (d : Int) (hx : IOk x) (hd : ¬ x.c = d) : Pu 18 [hldA l, i64 d, u32 (x.c * 1048576 + x.k), i64 x.kd] (.tup [hldA l, i64 16]) := by
  obtain ⟨c0, c1, k0, k1, d0, d1⟩ := hx
  have h := mine_no d x.c x.k c0 c1 k0 k1 hd
  exact pure_of (hs := hint [((1,2), {val := some (bl (false))}), ((1,6), {val := some (bl (false))}), ((3,2), {call := some ((bl false))})]) (ps := [bl (decide (x.kd < (1 : Int))) = bl (false), bl (decide (x.kd > (4 : Int))) = bl (false), _]) (by kernel_rfl) ⟨(bdF (by omega)), (bdF (by omega)), (h), trivial⟩
theorem add_yes (l : List Idr) (x : Idr) (hl : keysApart idR l) (hs : ∀ y ∈ l, IOk y) (hx : IOk x) (hf : ∀ y ∈ l, idR y ≠ idR x) (hn : l.length ≤ 100) : Pu 18 [hldA l, i64 x.c, u32 (x.c * 1048576 + x.k), i64 x.kd] (.tup [hldA (l ++ [x]), i64 0]) := by
  have hk := kwf_I hx.r.1 hx.r.2
  unfold idR at hk
  have ha := allK_I hs
  have hm : lookV false (mfind (l.map rowI) (u32 (x.c * 1048576 + x.k))) (i64 0) = i64 0 := by
    rw [show u32 (x.c * 1048576 + x.k) = ekI (idR x) from rfl, mfind_row ke_I, show findM idR l (idR x) = none from List.find?_eq_none.2 (fun y hy => by simp [hf y hy])]
    rfl
  have hp : (mput (l.map rowI) (u32 (x.c * 1048576 + x.k)) (i64 x.kd)).Perm ((l ++ [x]).map rowI) := by
    rw [show u32 (x.c * 1048576 + x.k) = ekI (idR x) from rfl, mput_fresh ke_I hf]
  obtain ⟨c0, c1, k0, k1, d0, d1⟩ := hx
  have h := mine_yes x.c x.k c0 c1 k0 k1
  have cp := cqy_ok l hl hs
  have hlen : ((l.map rowI).length : Int) ≤ 100 := by rw [List.length_map]; omega
  exact pure_said (hs := hint [((1,2), {val := some (bl (false))}), ((1,6), {val := some (bl (false))}), ((3,2), {call := some ((bl true))}), ((5,3), { sym := true, val := some (i64 0) }), ((7,4), {val := some (bl (false))}), ((9,2), {val := some (bl (false))}), ((11,3), {val := some (i64 ((↑(List.map rowI l).length : Int) + (1 : Int)))}), ((12,3), {sub := some ([2], [true], [true], AV.tup [], [Bk.map (List.map rowI l) false])}), ((13,3), { sym := true, ents := some ((l ++ [x]).map rowI) })]) (ps := [bl (decide (x.kd < (1 : Int))) = bl (false), bl (decide (x.kd > (4 : Int))) = bl (false), _, true = true, kwf Try.prog (62 : Nat) (AV.s (Value.int IntKind.u32 (x.c * (1048576 : Int) + x.k))) = true, allK Try.prog (62 : Nat) (List.map rowI l) = true, (match mfind (List.map rowI l) (AV.s (Value.int IntKind.u32 (x.c * (1048576 : Int) + x.k))) with
  | some v => if false = true then AV.tup [v, AV.s (Value.bool true)] else v
  | none => if false = true then AV.tup [ofV (Value.int IntKind.i64 (0 : Int)), AV.s (Value.bool false)] else ofV (Value.int IntKind.i64 (0 : Int))) = i64 ((0 : Int)), bl (decide ((↑(List.map rowI l).length : Int) ≥ (1024 : Int))) = bl (false), bl (x.kd == (1 : Int)) = bl (false), i64 (IntKind.i64.wrap ((↑(List.map rowI l).length : Int) + (1 : Int))) = i64 ((↑(List.map rowI l).length : Int) + (1 : Int)), _, true = true, pureB (Bk.map (List.map rowI l) false) = true, true = true, true = true, kwf Try.prog (62 : Nat) (AV.s (Value.int IntKind.u32 (x.c * (1048576 : Int) + x.k))) = true, allK Try.prog (62 : Nat) (List.map rowI l) = true, (mput (List.map rowI l) (AV.s (Value.int IntKind.u32 (x.c * (1048576 : Int) + x.k))) (AV.s (Value.int IntKind.i64 x.kd))).Perm (List.map rowI (l ++ [x])), ([(2 : Nat)].all fun (i : Nat) => (Option.map pureB [Bk.arr (1 : Nat) [AV.mp (List.map rowI l)] (0 : Fz), Bk.arr (1 : Nat) [AV.omp (2 : Nat)] (if false = true then { n := (0 : Nat), ty := some (58 : Nat) : Fz } else (0 : Fz)), Bk.map (List.map rowI (l ++ [x])) false][i]?).getD false) = true, true = true]) (by kernel_rfl) ⟨(bdF (by omega)), (bdF (by omega)), (h), (by (first | assumption | exact hm | rfl)), (by (first | assumption | exact hm | rfl)), (by (first | assumption | exact hm | rfl)), (by (first | assumption | exact hm | rfl)), (bdF (by omega)), (beF (by omega)), (intE (by exact wrap_i64 (by omega) (by omega))), (cp), rfl, (by exact pureB_I _ _), (by (first | assumption | exact hp | rfl)), (by (first | assumption | exact hp | rfl)), (by (first | assumption | exact hp | rfl)), (by (first | assumption | exact hp | rfl)), (by (first | assumption | exact hp | rfl)), (by exact ids_I _ _ _ _ rfl), rfl, trivial⟩
theorem hlen_ok (l : List Idr) : Pu 20 [hldA l] (i64 l.length) := by
  exact pure_cast (pure_of (hs := hint []) (r := i64 ((↑(List.map rowI l).length : Int))) (ps := []) (by kernel_rfl) trivial) (by rw [List.length_map])
end Go.Proofs.Ytdcoomeagbjhlaa
