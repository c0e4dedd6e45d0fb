/- A tree's twin, whole. By the prover of this seat. -/
import Derived.Test.YtcnlgdbmcdlknaaDoorZu
set_option linter.unusedVariables false
set_option linter.unusedSimpArgs false
set_option maxRecDepth 100000
set_option maxHeartbeats 4000000
namespace Go.Proofs.YtcnlgdbmcdlknaaDoor.Tr
open Go.RowKit Go.Pm
theorem apart_eq {K : List Kid} (ha : keysApart Kid.p K) {x y : Kid} (hx : x ∈ K) (hy : y ∈ K) (e : x.p = y.p) : x = y := by
  induction K with
  | nil => cases hx
  | cons z K ih =>
    rcases List.pairwise_cons.1 ha with ⟨h1, h2⟩
    rcases List.mem_cons.1 hx with ex | hx2
    · rcases List.mem_cons.1 hy with ey | hy2
      · rw [ex, ey]
      · rw [ex] at e; exact absurd e (h1 _ hy2)
    · rcases List.mem_cons.1 hy with ey | hy2
      · rw [ey] at e; exact absurd e.symm (h1 _ hx2)
      · exact ih h2 hx2 hy2
theorem find_perm {D K : List Kid} (hp : D.Perm K) (ha : keysApart Kid.p K) (p : Int) : findM Kid.p D p = findM Kid.p K p := by
  cases h : findM Kid.p K p with
  | none =>
    have hn := findM_none h
    refine List.find?_eq_none.2 fun x hx => ?_
    simp [hn x (hp.mem_iff.1 hx)]
  | some y =>
    obtain ⟨q1, q2⟩ := findM_some h
    cases h2 : findM Kid.p D p with
    | none => exact absurd q2 (findM_none h2 y (hp.mem_iff.2 q1))
    | some z =>
      obtain ⟨r1, r2⟩ := findM_some h2
      rw [apart_eq ha (hp.mem_iff.1 r1) q1 (r2.trans q2.symm)]
theorem tws_len (S : List Kid) (U : List Up) (p : Int) (D : List Kid) : 7 < (twS S U p D).length := by
  unfold twS
  split <;> simp [twA]
theorem mput_ownF (j : Nat) (p : Int) {D : List Kid} {x : Kid} (h : ∀ y ∈ D, y.p ≠ x.p) : mput (D.map (rowOwn j p)) (u32 x.p) (evOwn j p x) = (D ++ [x]).map (rowOwn j p) := mput_fresh ke_U h
theorem tw_round (S : List Kid) (U : List Up) (p : Int) (K : List Kid) (hK : DOk K) (D R : List Kid) (x : Kid) (hp : (D ++ x :: R).Perm K) : TriN CT0 twB ⟨putT twT (some 17) (.tup [.s (.bool true), (rowD x).1, (rowD x).2]), putB (twS S U p D) (7, .iter [((rowD x).1, (rowD x).2)] (R.map rowD))⟩ .normal ⟨twT, putB (twS S U p (D ++ [x])) (7, .iter [((rowD x).1, (rowD x).2)] (R.map rowD))⟩ := by
  have ha := apart_perm hp.symm hK.1
  have hf : ∀ y ∈ D, y.p ≠ x.p := apart_mid ha
  have hx := hK.2 x (hp.mem_iff.1 (by simp))
  have hk := kwf_U hx.1 hx.2.1
  have hD : ∀ y ∈ D, 0 ≤ y.p ∧ y.p ≤ 4294967295 := fun y hy => by
    have := hK.2 y (hp.mem_iff.1 (by simp [hy]))
    exact ⟨this.1, this.2.1⟩
  unfold twS
  rw [findM_snoc]
  cases hq : findM Kid.p D p with
  | some y =>
    obtain ⟨q1, q2⟩ := findM_some hq
    have hne : x.p ≠ p := fun e => hf y q1 (q2.trans e.symm)
    have e : evOwn 8 p x = .sl x.l.length (x.l.flatMap eU) := by simp only [evOwn, if_neg hne, evD]
    exact tw_miss1 S U D R x p y.l hx.2.2.1 hx.2.2.2 hk (allK_D hD) (by rw [← e, mput_ownF 8 p hf])
  | none =>
    have hn := findM_none hq
    by_cases hxp : x.p = p
    · simp only [if_pos hxp]
      subst hxp
      have e : evOwn 8 x.p x = .osl 8 0 x.l.length 1 := by simp only [evOwn, if_pos]
      exact tw_hit S U D R x hx.2.2.1 hx.2.2.2 hk (allK_D hD) (by rw [← e, ← own_none 8 x.p D hn, mput_ownF 8 x.p hf])
    · simp only [if_neg hxp]
      exact tw_miss0 S U D R x hx.2.2.1 hx.2.2.2 hk (allK_D hD) (by rw [show (AV.sl x.l.length (x.l.flatMap eU)) = evD x from rfl, show u32 x.p = ekU x.p from rfl, mput_fresh ke_U hf])
theorem tw_loop (S : List Kid) (U : List Up) (p : Int) (K : List Kid) (hK : DOk K) : LoopT CT0 twB ⟨twT, putB (twS S U p []) (7, .iter [] (K.map rowD))⟩ (.exit 0) ⟨mkT 28 [(2, .ptr 3 0), (3, .ptr 6 0)], twS S U p K⟩ := by
  obtain ⟨n, hn, hop⟩ : ∃ n : Oper, headN twB = some n ∧ n.op = .next (.tmp 16) false ∧ n.dst = some 17 := ⟨_, rfl, rfl, rfl⟩
  have hd := hop.2
  refine LoopT.rangeM (b := 7) rowD hn hop.1 K (fun _ => twT) (twS S U p) (by intro q; cases q) (fun D => ⟨mkT 28 [(2, .ptr 3 0), (3, .ptr 6 0)], twS S U p D⟩) (fun D => rfl) (fun D => tws_len S U p D) (fun D x R hp => ?_) (fun D cur hp => ?_) (fun D hp w0 ρ M a W hR => ?_) K.length [] K [] rfl (List.Perm.refl _)
  · rw [hd]
    exact tw_round S U p K hK D R x hp
  · rw [hd]
    show TriN CT0 twB ⟨_, putB (twS S U p D) _⟩ _ ⟨_, twS S U p D⟩
    unfold twS
    cases hq : findM Kid.p D p with
    | none => exact tw_end0 S U D cur
    | some y => exact tw_end1 S U D p y.l cur
  · have hf : findM Kid.p D p = findM Kid.p K p := find_perm hp hK.1 p
    unfold twS at hR ⊢
    rw [hf] at hR
    cases hq : findM Kid.p K p with
    | none =>
      rw [hq] at hR
      exact hR.perm (i := 4) rfl (hp.map _)
    | some y =>
      rw [hq] at hR
      exact hR.perm (i := 4) rfl (hp.map _)
def adH (K : List Kid) (U : List Up) : List Bk := [.arr 2 [.mp (K.map rowD), .mp (U.map rowU)] 0, .arr 2 [.mp [], .mp []] 0]
def twR (K : List Kid) (U : List Up) (m : List (AV × AV)) (r : List Bk) : List Bk := adH K U ++ [.arr 2 [.mp (K.map rowD), .mp (U.map rowU)] 0, .arr 2 [.omp 4, .omp 5] 0, .map m false, .map (U.map rowU) false, .arr 2 [.omp 4, .omp 5] 0, .dead] ++ r
theorem twin_in (U : List Up) (hU : UOk U) (p : Int) (K : List Kid) (hK : DOk K) (y : Kid) (hy : findM Kid.p K p = some y) : CallH Tryd.prog GS 40 [trA K U] (adH K U) (A [.omp 4, .omp 5]) (twR K U (K.map (rowOwn 8 p)) [.arr (y.l.length * 1) (y.l.flatMap eU) 0]) := by
  have hc := ucopy_ok U hU
  have L := tw_loop K U p K hK
  unfold twS at L
  simp only [hy, show findM Kid.p [] p = none from rfl, List.map_nil] at L
  exact (fnRun_ok (hs := hint [((2,4), {sub := some ([5], [true], [true], AV.tup [], [Bk.map (List.map rowU U) false])}), ((4,1000), {loop := some ({ ks := [2, 3, 16], l := [0, 1, 2, 3, 4, 5, 6, 7], mx := [6] }, { t := twT, h := putB (twA K U [] []) ((7 : Nat), Bk.iter [] (List.map rowD K)) : St }, Ex.exit (0 : Nat), { t := mkT (28 : Nat) [((2 : Nat), AV.ptr (3 : Nat) (0 : Nat)), ((3 : Nat), AV.ptr (6 : Nat) (0 : Nat))], h := twA K U (List.map (rowOwn (8 : Nat) p) K) [Bk.arr (y.l.length * (1 : Nat)) (List.flatMap eU y.l) (0 : Fz)] : St })})]) (ps := [_, true = true, pureB (Bk.map (List.map rowU U) false) = true, { t := twT, h := putB (twA K U [] []) ((7 : Nat), Bk.iter [] (List.map rowD K)) : St } = { t := twT, h := putB (twA K U [] []) ((7 : Nat), Bk.iter [] (List.map rowD K)) : St }, _, true = true, true = true, true = true, true = true, true = true, true = true, pureB (Bk.map (List.map rowU U) false) = true]) (by kernel_rfl) ⟨(hc), rfl, (by exact pureB_U _ _), rfl, L, rfl, rfl, rfl, rfl, rfl, rfl, (by exact pureB_U _ _), trivial⟩).1
theorem twin_out (U : List Up) (hU : UOk U) (p : Int) (K : List Kid) (hK : DOk K) (hy : findM Kid.p K p = none) : CallH Tryd.prog GS 40 [trA K U] (adH K U) (A [.omp 4, .omp 5]) (twR K U (K.map rowD) []) := by
  have hc := ucopy_ok U hU
  have L := tw_loop K U p K hK
  unfold twS at L
  simp only [hy, show findM Kid.p [] p = none from rfl, List.map_nil] at L
  exact (fnRun_ok (hs := hint [((2,4), {sub := some ([5], [true], [true], AV.tup [], [Bk.map (List.map rowU U) false])}), ((4,1000), {loop := some ({ ks := [2, 3, 16], l := [0, 1, 2, 3, 4, 5, 6, 7], mx := [6] }, { t := twT, h := putB (twA K U [] []) ((7 : Nat), Bk.iter [] (List.map rowD K)) : St }, Ex.exit (0 : Nat), { t := mkT (28 : Nat) [((2 : Nat), AV.ptr (3 : Nat) (0 : Nat)), ((3 : Nat), AV.ptr (6 : Nat) (0 : Nat))], h := twA K U (List.map rowD K) [] : St })})]) (ps := [_, true = true, pureB (Bk.map (List.map rowU U) false) = true, { t := twT, h := putB (twA K U [] []) ((7 : Nat), Bk.iter [] (List.map rowD K)) : St } = { t := twT, h := putB (twA K U [] []) ((7 : Nat), Bk.iter [] (List.map rowD K)) : St }, _, true = true, true = true, true = true, true = true, true = true, true = true, pureB (Bk.map (List.map rowU U) false) = true]) (by kernel_rfl) ⟨(hc), rfl, (by exact pureB_U _ _), rfl, L, rfl, rfl, rfl, rfl, rfl, rfl, (by exact pureB_U _ _), trivial⟩).1
end Go.Proofs.YtcnlgdbmcdlknaaDoor.Tr
