/- A tree's maps: copied, a twin. By the prover of this seat. -/
import Derived.Test.YtcnlgdbmcdlknaaDoorYf
set_option linter.unusedVariables false
set_option linter.unusedSimpArgs false
set_option maxRecDepth 100000
set_option maxHeartbeats 4000000
namespace Go.Proofs.YtcnlgdbmcdlknaaDoor
open Go.RowKit Go.Pm
def eU (n : Int) : List AV := [u32 n]
abbrev slU (l : List Int) : AV := slE eU l
abbrev ekU (n : Int) : AV := u32 n
theorem ke_U : KeyEq ekU := keyEq_int .u32
theorem kwf_U {a : Int} (h0 : 0 ≤ a) (h1 : a ≤ 4294967295) : kwf Tryd.prog 39 (u32 a) = true := kwf_int (by kernel_rfl) (by simp [Lit.wf, IntKind.min, IntKind.max, IntKind.signed, IntKind.bits]; omega)
structure Up where
  id : Int
  up : Int
  deriving DecidableEq, Inhabited
abbrev evU (x : Up) : AV := u32 x.up
abbrev rowU : Up → AV × AV := rowM Up.id ekU evU
structure Kid where
  p : Int
  l : List Int
  deriving DecidableEq, Inhabited
def evD (x : Kid) : AV := .sl x.l.length (x.l.flatMap eU)
abbrev rowD : Kid → AV × AV := rowM Kid.p ekU evD
def UOk (U : List Up) : Prop := keysApart Up.id U ∧ ∀ x ∈ U, 0 ≤ x.id ∧ x.id ≤ 4294967295
def DOk (K : List Kid) : Prop := keysApart Kid.p K ∧ ∀ x ∈ K, 0 ≤ x.p ∧ x.p ≤ 4294967295 ∧ 1 ≤ x.l.length ∧ x.l.length ≤ 1000
theorem allK_U {U : List Up} (h : ∀ x ∈ U, 0 ≤ x.id ∧ x.id ≤ 4294967295) : allK Tryd.prog 39 (U.map rowU) = true := allK_row fun x hx => kwf_U (h x hx).1 (h x hx).2
theorem allK_D {ev : Kid → AV} {K : List Kid} (h : ∀ x ∈ K, 0 ≤ x.p ∧ x.p ≤ 4294967295) : allK Tryd.prog 39 (K.map (rowM Kid.p ekU ev)) = true := allK_row fun x hx => kwf_U (h x hx).1 (h x hx).2
theorem pureB_U (l : List Up) (fz : Bool) : pureB (.map (l.map rowU) fz) = true := pureB_row fun x hx => rfl
theorem pureB_D (l : List Kid) (fz : Bool) : pureB (.map (l.map rowD) fz) = true := pureB_row fun x hx => rfl
/-! copies -/
noncomputable def CS1 : Cx := ⟨Tryd.prog, GS, 1⟩
noncomputable def cuB : Code := loopOf Tryd.prog 58 1
def cuT (D : List Up) : List AV := mkT 16 [(0, .omp 0), (7, .ptr 1 0)]
def cuA (D : List Up) : List Bk := [.map (D.map rowU) false, .dead]
theorem cu_step (D R : List Up) (x : Up) (hk : kwf Tryd.prog 39 (u32 x.id) = true) (ha : allK Tryd.prog 39 (D.map rowU) = true) (hm : (mput (D.map rowU) (u32 x.id) (u32 x.up)).Perm ((D ++ [x]).map rowU)) : TriN CS1 cuB ⟨putT (cuT D) (some 8) (.tup [.s (.bool true), (rowU x).1, (rowU x).2]), putB (cuA D) (1, .iter [((rowU x).1, (rowU x).2)] (R.map rowU))⟩ .normal ⟨cuT (D ++ [x]), putB (cuA (D ++ [x])) (1, .iter [((rowU x).1, (rowU x).2)] (R.map rowU))⟩ := by
  exact runN_ok (hs := hint [((3,3), { sym := true, ents := some ((D ++ [x]).map rowU) })]) (f := { ks := [0, 7], l := [0, 1] }) (ps := [true = true, true = true, kwf CS1.P (39 : Nat) (AV.s (Value.int IntKind.u32 x.id)) = true, allK CS1.P (39 : Nat) (List.map rowU D) = true, (mput (List.map rowU D) (AV.s (Value.int IntKind.u32 x.id)) (AV.s (Value.int IntKind.u32 x.up))).Perm (List.map rowU (D ++ [x])), true = true, pureB (Bk.map (List.map rowU (D ++ [x])) false) = true]) (by kernel_rfl) ⟨(by (first | assumption | exact hm | rfl)), (by (first | assumption | exact hm | rfl)), (by (first | assumption | exact hm | rfl)), (by (first | assumption | exact hm | rfl)), (by (first | assumption | exact hm | rfl)), rfl, (by exact pureB_U _ _), trivial⟩
theorem cu_end (D : List Up) (cur : List (AV × AV)) : TriN CS1 cuB ⟨putT (cuT D) (some 8) (.tup [.s (.bool false)]), putB (cuA D) (1, .iter cur [])⟩ (.exit 0) ⟨mkT 16 [], [.map (D.map rowU) false]⟩ := by
  exact runN_ok (hs := hint []) (f := { ks := [], l := [0] }) (ps := [true = true, pureB (Bk.map (List.map rowU D) false) = true]) (by kernel_rfl) ⟨rfl, (by exact pureB_U _ _), trivial⟩
theorem cu_all (l : List Up) (h : UOk l) : LoopT CS1 cuB ⟨cuT [], [.map [] false, .iter [] (l.map rowU)]⟩ (.exit 0) ⟨mkT 16 [], [.map (l.map rowU) false]⟩ := by
  obtain ⟨n, hn, hop⟩ : ∃ n : Oper, headN cuB = some n ∧ n.op = .next (.tmp 7) false ∧ n.dst = some 8 := ⟨_, rfl, rfl, rfl⟩
  have hd := hop.2
  refine LoopT.rangeM (b := 1) rowU hn hop.1 l cuT cuA (by intro q; cases q) (fun D => ⟨mkT 16 [], [.map (D.map rowU) false]⟩) (fun D => rfl) (fun D => by simp [cuA]) (fun D x R hp => ?_) (fun D cur hp => ?_) (fun D hp w0 ρ M a W hR => ?_) l.length [] l [] rfl (List.Perm.refl _)
  · rw [hd]
    have ha := apart_perm hp.symm h.1
    have hx := h.2 x (hp.mem_iff.1 (by simp))
    exact cu_step D R x (kwf_U hx.1 hx.2) (allK_U fun y hy => h.2 y (hp.mem_iff.1 (by simp [hy]))) (by rw [show u32 x.id = ekU (Up.id x) from rfl, mput_fresh ke_U (apart_mid ha)])
  · rw [hd]
    exact cu_end D cur
  · exact hR.perm (i := 0) rfl (hp.map _)
theorem ucopy_ok (l : List Up) (h : UOk l) : CallH Tryd.prog GS 58 [.omp 0, .mp (l.map rowU)] [.map [] false] (.tup []) [.map (l.map rowU) false] := by
  have L := cu_all l h
  exact (fnRun_ok (hs := hint [((1,1000), {loop := some ({ ks := [0, 7], l := [0, 1] }, { t := cuT [], h := [Bk.map [] false, Bk.iter [] (List.map rowU l)] : St }, Ex.exit (0 : Nat), { t := mkT (16 : Nat) [], h := [Bk.map (List.map rowU l) false] : St })})]) (ps := [{ t := cuT [], h := [Bk.map [] false, Bk.iter [] (List.map rowU l)] : St } = { t := cuT [], h := [Bk.map [] false, Bk.iter [] (List.map rowU l)] : St }, _, true = true, true = true]) (by kernel_rfl) ⟨rfl, L, rfl, rfl, trivial⟩).1
/-! a row cloned -/
theorem sl_sx {M : Mem} {ρ : Nm} {n : Nat} {cs : List AV} {v : Value} (hn : 1 ≤ n) (h : VR M ρ (.sl n cs) v) : VR M ρ (.sx n cs) v := by
  cases h with
  | sl_e a b =>
    rename_i x cap
    cases x with
    | none => exact absurd (b rfl) (by omega)
    | some A => exact .sx_e a
  | sl f a b c => exact .sx f a b c
theorem callH_sx {f : FuncId} {n : Nat} {cs : List AV} {H H' : List Bk} {r : AV} (hn : 1 ≤ n) (h : CallH Tryd.prog GS f [.sx n cs] H r H') : CallH Tryd.prog GS f [.sl n cs] H r H' :=
  ⟨h.1, fun w0 ρ M W vals hw hg ha => h.2 w0 ρ M W vals hw hg ⟨ha.len, fun i c v hc hv => by
    cases i with
    | zero =>
      simp at hc
      subst hc
      exact sl_sx hn (ha.at_ 0 _ v rfl hv)
    | succ i => simp at hc⟩⟩
theorem clo_x (l : List Int) (hl : l.length ≤ 1000) : Pure Tryd.prog GS 59 [.sx l.length (l.flatMap eU)] (.osl 1 0 (0 + l.length) 1) [.dead, .arr ((0 + l.length) * 1) (l.flatMap eU) 0] := by
  have e := row_take (sz := 1) (enc := eU) (fun _ => rfl) l (l.length * 1) (by omega)
  have e2 : (0 + l.length) = l.length := Nat.zero_add _
  exact (fnRun_ok (hs := hint [((3,2), { sym := true, cells := some (l.flatMap eU) })]) (ps := [true = true, decide (((0 : Nat) + l.length) * (4 : Nat) ≤ (140737488355328 : Nat)) = true, decide ((List.take (l.length * (1 : Nat)) (List.flatMap eU l)).length = l.length * (1 : Nat)) = true, ((List.take (l.length * (1 : Nat)) (List.flatMap eU l)) : List AV) = (List.flatMap eU l)]) (by kernel_rfl) ⟨(by (first | exact decide_t (by omega) | (rw [e]; rfl) | exact decide_t (by rw [e, row_len (sz := 1) (fun _ => rfl)]) | exact decide_t ⟨rfl, Nat.le_refl _, rfl⟩ | rfl)), (by (first | exact decide_t (by omega) | (rw [e]; rfl) | exact decide_t (by rw [e, row_len (sz := 1) (fun _ => rfl)]) | exact decide_t ⟨rfl, Nat.le_refl _, rfl⟩ | rfl)), (by (first | exact decide_t (by omega) | (rw [e]; rfl) | exact decide_t (by rw [e, row_len (sz := 1) (fun _ => rfl)]) | exact decide_t ⟨rfl, Nat.le_refl _, rfl⟩ | rfl)), (by assumption), trivial⟩).1
end Go.Proofs.YtcnlgdbmcdlknaaDoor
