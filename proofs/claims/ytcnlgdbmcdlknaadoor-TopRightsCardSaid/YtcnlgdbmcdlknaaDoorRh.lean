/- What the choice and the redirects tell of each other. By the prover of this seat. -/
import Derived.Test.YtcnlgdbmcdlknaaDoorRg
set_option linter.unusedVariables false
set_option linter.unusedSimpArgs false
set_option maxRecDepth 100000
set_option maxHeartbeats 4000000
namespace Go.Proofs.YtcnlgdbmcdlknaaDoor.Tr
open Go.RowKit Go.Pm Go.Proofs.YtcnlgdbmcdlknaaDoor.Ch
structure Rd where
  id : Int
  c : Int
  deriving DecidableEq, Inhabited
abbrev evR (x : Rd) : AV := i64 x.c
abbrev rowR : Rd → AV × AV := rowM Rd.id ekU evR
theorem pureB_R (l : List Rd) (fz : Bool) : pureB (.map (l.map rowR) fz) = true := pureB_row fun x hx => rfl
theorem allK_R {R : List Rd} (h : ∀ x ∈ R, 0 ≤ x.id ∧ x.id ≤ 4294967295) : allK Tryd.prog 39 (R.map rowR) = true := allK_row fun x hx => kwf_U (h x hx).1 (h x hx).2
theorem findR_some {D : List Rd} {p : Int} {y : Rd} (h : findM Rd.id D p = some y) : y ∈ D ∧ y.id = p :=
  ⟨List.mem_of_find?_eq_some h, by simpa using List.find?_some h⟩
theorem mem_putR {K : List Rd} {x z : Rd} (h : z ∈ putM Rd.id K x) : z = x ∨ z ∈ K := by
  rcases List.mem_append.1 h with h | h
  · exact .inr (List.mem_filter.1 h).1
  · exact .inl (List.mem_singleton.1 h)
/-- who redirects -/
def rdD (R : List Rd) (x : Int) : Int := ((findM Rd.id R x).map Rd.c).getD 0
theorem rd_look (R : List Rd) (x : Int) : lookV false (mfind (R.map rowR) (u32 x)) (i64 0) = i64 (rdD R x) := by
  rw [show (u32 x) = ekU x from rfl, mfind_row ke_U]
  unfold rdD
  cases findM Rd.id R x <;> rfl
theorem rd_put (R : List Rd) (y : Rd) (x : Int) : rdD (putM Rd.id R y) x = if x = y.id then y.c else rdD R x := by
  have hd : findM Rd.id (dropM Rd.id R y.id) x = if x = y.id then none else findM Rd.id R x := by
    unfold findM dropM
    induction R with
    | nil => simp
    | cons a R ih =>
      rw [List.filter_cons]
      by_cases h1 : a.id = y.id
      · rw [if_neg (by simp [h1]), ih, List.find?_cons]
        by_cases h2 : x = y.id
        · rw [if_pos h2, if_pos h2]
        · rw [if_neg h2, if_neg h2, show decide (a.id = x) = false from decide_eq_false fun q => h2 (by rw [← q, h1])]
      · rw [if_pos (by simp [h1]), List.find?_cons, List.find?_cons, ih]
        by_cases h2 : a.id = x
        · have h3 : ¬ x = y.id := fun q => h1 (by rw [h2, q])
          rw [decide_eq_true h2, if_neg h3, if_neg h3]
        · rw [decide_eq_false h2]
  unfold rdD putM
  have e : findM Rd.id (dropM Rd.id R y.id ++ [y]) x = if x = y.id then some y else findM Rd.id R x := by
    have : findM Rd.id (dropM Rd.id R y.id ++ [y]) x = (findM Rd.id (dropM Rd.id R y.id) x).or (findM Rd.id [y] x) := by
      unfold findM; rw [List.find?_append]
    rw [this, hd]
    by_cases h : x = y.id
    · rw [if_pos h, if_pos h]; simp [findM, h]
    · rw [if_neg h, if_neg h]
      have : findM Rd.id [y] x = none := by simp [findM]; exact fun q => h q.symm
      rw [this]; simp
  rw [e]
  by_cases h : x = y.id
  · rw [if_pos h, if_pos h]; rfl
  · rw [if_neg h, if_neg h]
/-! what is masked, behind a put -/
theorem maskR_app (l : List Row) (y : Row) (c x : Int) : maskR (l ++ [y]) c x = if (idxD (isR c x) l).isSome then maskR l c x else if y.c = c ∧ y.id = x then y.m else 0 := by
  induction l with
  | nil => rw [List.nil_append, maskR_cons]; rfl
  | cons a l ih =>
    rw [List.cons_append, maskR_cons, maskR_cons, idxD]
    by_cases h : a.c = c ∧ a.id = x
    · rw [if_pos h, if_pos h, if_pos (show isR c x a = true by simp [isR, h])]; rfl
    · rw [if_neg h, if_neg h, if_neg (show ¬ isR c x a = true by simpa [isR] using h), ih]
      cases idxD (isR c x) l <;> rfl
theorem idx_drop (l : List Row) (y : Row) (c x : Int) : idxD (isR c x) (dropM keyR l (keyR y)) = none ∧ c = y.c ∧ x = y.id ∨ (maskR (dropM keyR l (keyR y)) c x = maskR l c x ∧ ((idxD (isR c x) (dropM keyR l (keyR y))).isSome = (idxD (isR c x) l).isSome) ∧ ¬ (c = y.c ∧ x = y.id)) := by
  by_cases h : c = y.c ∧ x = y.id
  · left
    refine ⟨?_, h.1, h.2⟩
    induction l with
    | nil => rfl
    | cons a l ih =>
      unfold dropM at ih ⊢
      rw [List.filter_cons]
      by_cases h1 : keyR a = keyR y
      · rw [if_neg (by simp [h1])]; exact ih
      · rw [if_pos (by simp [h1]), idxD, if_neg (fun q => h1 ?_), ih]
        · rfl
        · simp only [isR, Bool.and_eq_true, decide_eq_true_eq] at q
          unfold keyR
          rw [q.1, q.2, h.1, h.2]
  · right
    refine ⟨?_, ?_, h⟩
    · induction l with
      | nil => rfl
      | cons a l ih =>
        unfold dropM at ih ⊢
        rw [List.filter_cons, maskR_cons]
        by_cases h1 : keyR a = keyR y
        · rw [if_neg (by simp [h1]), ih, if_neg]
          rintro ⟨q1, q2⟩
          have e1 := congrArg Prod.fst h1
          have e2 := congrArg Prod.snd h1
          exact h ⟨q1.symm.trans e1, q2.symm.trans e2⟩
        · rw [if_pos (by simp [h1]), maskR_cons, ih]
    · induction l with
      | nil => rfl
      | cons a l ih =>
        unfold dropM at ih ⊢
        rw [List.filter_cons]
        by_cases h1 : keyR a = keyR y
        · have hn : ¬ isR c x a = true := fun q => by
            simp only [isR, Bool.and_eq_true, decide_eq_true_eq] at q
            have e1 := congrArg Prod.fst h1
            have e2 := congrArg Prod.snd h1
            exact h ⟨q.1.symm.trans e1, q.2.symm.trans e2⟩
          rw [if_neg (by simp [h1]), ih, idxD, if_neg hn]
          cases idxD (isR c x) l <;> rfl
        · rw [if_pos (by simp [h1]), idxD, idxD]
          by_cases q : isR c x a = true
          · rw [if_pos q, if_pos q]
          · rw [if_neg q, if_neg q]
            rw [Option.isSome_map, Option.isSome_map]
            exact ih
theorem mask_put (l : List Row) (y : Row) (c x : Int) : maskR (putM keyR l y) c x = if c = y.c ∧ x = y.id then y.m else maskR l c x := by
  unfold putM
  rw [maskR_app]
  rcases idx_drop l y c x with ⟨h1, h2, h3⟩ | ⟨h1, h2, h3⟩
  · rw [h1, if_neg (by simp), if_pos ⟨h2.symm, h3.symm⟩, if_pos ⟨h2, h3⟩]
  · rw [h1, h2, if_neg h3]
    by_cases q : (idxD (isR c x) l).isSome = true
    · rw [if_pos q]
    · rw [if_neg q, if_neg (fun z => h3 ⟨z.1.symm, z.2.symm⟩)]
      have : idxD (isR c x) l = none := by cases hh : idxD (isR c x) l with
        | none => rfl
        | some _ => rw [hh] at q; simp at q
      unfold maskR
      rw [this]
/-! between rounds -/
structure RI (k : Nat) (l : List Row) (R : List Rd) : Prop where
  row : LOk l
  few : l.length ≤ k
  three : ∀ r ∈ l, r.c ≤ 3
  apart : keysApart Rd.id R
  red : ∀ x ∈ R, 0 ≤ x.id ∧ x.id ≤ 4294967295 ∧ 0 ≤ x.c ∧ x.c ≤ 3
  tell : ∀ (d x : Int), 1 ≤ d → d ≤ 4 → (rdD R x = d ↔ ¬ maskR l d x &&& 2048 = 0)
theorem RI.nil (k : Nat) : RI k [] [] := ⟨lok_nil, Nat.zero_le _, (fun r hr => by cases hr), List.Pairwise.nil, (fun x hx => by cases hx), fun d x h1 h2 => ⟨fun h => (by rw [show rdD [] x = 0 from rfl] at h; omega), fun h => absurd (show maskR [] d x &&& 2048 = 0 by rw [maskR_nil]; rfl) h⟩⟩
theorem rd_rng {R : List Rd} (h : ∀ x ∈ R, 0 ≤ x.id ∧ x.id ≤ 4294967295 ∧ 0 ≤ x.c ∧ x.c ≤ 3) (x : Int) : 0 ≤ rdD R x ∧ rdD R x ≤ 3 := by
  unfold rdD
  cases hq : findM Rd.id R x with
  | none => exact ⟨by simp, by simp⟩
  | some y =>
    have := h y (findR_some hq).1
    exact ⟨this.2.2.1, this.2.2.2⟩
theorem mem_put {l : List Row} {y r : Row} (h : r ∈ putM keyR l y) : r = y ∨ r ∈ l := by
  rcases List.mem_append.1 h with h | h
  · exact .inr (List.mem_filter.1 h).1
  · exact .inl (List.mem_singleton.1 h)
theorem put_lok {l : List Row} (h : LOk l) {y : Row} (hl : l.length ≤ 100) (hy : 0 ≤ y.c ∧ y.c ≤ 8 ∧ 1 ≤ y.id ∧ y.id ≤ 4294967295 ∧ y.m ≤ 8191) : LOk (putM keyR l y) ∧ (putM keyR l y).length ≤ l.length + 1 := by
  have hlen : (putM keyR l y).length ≤ l.length + 1 := by
    unfold putM dropM
    rw [List.length_append]
    have := List.length_filter_le (fun z => !decide (keyR z = keyR y)) l
    simp only [List.length_singleton]
    omega
  exact ⟨⟨apart_put h.apart y, fun r hr => (mem_put hr).elim (fun e => e ▸ hy) (h.row r), by omega⟩, hlen⟩
structure Sel where
  c : Int
  on : Int
  m : Int
  deriving DecidableEq, Inhabited
def selC (s : Sel) : Int := s.c % 3 + 1
def selI (ids : List Int) (s : Sel) : Int := nth ids (s.on % (ids.length : Int)).toNat
def wantB (m : Int) : Bool := decide (¬ m.toNat &&& 2048 = 0)
/-- a round of selecting -/
def selD (ids : List Int) (l : List Row) (R : List Rd) (s : Sel) : List Row × List Rd :=
  if ¬ (setD l (selC s) (selI ids s) s.m).2 = 0 then (l, R)
  else ((setD l (selC s) (selI ids s) s.m).1, if wantB s.m = true then putM Rd.id R ⟨selI ids s, selC s⟩ else if rdD R (selI ids s) = selC s then putM Rd.id R ⟨selI ids s, 0⟩ else R)
theorem setD_zero {l : List Row} {c id m : Int} (h : (setD l c id m).2 = 0) : (setD l c id m).1 = putM keyR l ⟨c, id, m.toNat⟩ ∧ 0 ≤ m ∧ m ≤ 8191 ∧ 1 ≤ c ∧ c ≤ 8 ∧ ∀ k, 1 ≤ k → k ≤ 8 → ¬ k = c → maskR l k id &&& m.toNat &&& 2052 = 0 := by
  unfold setD at h ⊢
  by_cases h1 : c < 1 ∨ c > 8
  · rw [if_pos h1] at h; simp at h
  · rw [if_neg h1] at h ⊢
    by_cases h2 : id = 0
    · rw [if_pos h2] at h; simp at h
    · rw [if_neg h2] at h ⊢
      by_cases h3 : 0 ≤ m ∧ m ≤ 8191
      · rw [if_neg (fun q => q h3)] at h ⊢
        by_cases h4 : (idxD (clashB l c id m.toNat) k8).isSome = true
        · rw [if_pos h4] at h; simp at h
        · rw [if_neg h4]
          refine ⟨rfl, h3.1, h3.2, by omega, by omega, fun k k1 k8' kc => ?_⟩
          have hn : idxD (clashB l c id m.toNat) k8 = none := by
            cases hh : idxD (clashB l c id m.toNat) k8 with
            | none => rfl
            | some _ => rw [hh] at h4; simp at h4
          have := idx_none hn (k - 1).toNat (by show (k - 1).toNat < 8; omega)
          rw [k8_nth _ (by omega)] at this
          rw [show (((k - 1).toNat : Nat) : Int) + 1 = k by omega] at this
          unfold clashB at this
          rw [decide_eq_true kc, Bool.true_and, decide_eq_true_eq] at this
          exact Classical.not_not.1 this
      · rw [if_pos h3] at h; simp at h
theorem bit11 (m : Nat) : (¬ m &&& 2048 = 0) ↔ m.testBit 11 = true := by
  have h1 := and_bits m 2048
  rw [show (¬ m &&& 2048 = 0) = ((m &&& 2048) ≠ 0) from rfl, h1]
  constructor
  · rintro ⟨i, h2, h3⟩
    rw [show 2048 = 2 ^ 11 from rfl, Nat.testBit_two_pow] at h3
    rw [decide_eq_true_eq] at h3
    rw [h3]; exact h2
  · intro h
    exact ⟨11, h, by decide⟩
/-- nobody else redirects where one may -/
theorem no_other {k : Nat} {l : List Row} {R : List Rd} (h : RI k l R) {c id m : Int} (hz : (setD l c id m).2 = 0) (hw : wantB m = true) : rdD R id = 0 ∨ rdD R id = c := by
  obtain ⟨-, m0, m1, c1, c8, hk⟩ := setD_zero hz
  have hr := rd_rng h.red id
  by_cases h0 : rdD R id = 0
  · exact .inl h0
  · right
    refine Classical.byContradiction fun hc => ?_
    have h1 := (h.tell (rdD R id) id (by omega) (by omega)).1 rfl
    have h2 := hk (rdD R id) (by omega) (by omega) hc
    unfold wantB at hw
    rw [decide_eq_true_eq] at hw
    rw [bit11] at h1 hw
    have : (maskR l (rdD R id) id &&& m.toNat &&& 2052).testBit 11 = true := by
      rw [Nat.testBit_and, Nat.testBit_and, h1, hw]; decide
    rw [h2] at this
    simp at this
theorem RI.next {k : Nat} {l : List Row} {R : List Rd} (h : RI k l R) (hk : k ≤ 50) {ids : List Int} {s : Sel} (hi : 1 ≤ selI ids s ∧ selI ids s ≤ 4294967295) (hc : 0 ≤ s.c) : RI (k + 1) (selD ids l R s).1 (selD ids l R s).2 := by
  have hf := h.few
  unfold selD
  by_cases hz : (setD l (selC s) (selI ids s) s.m).2 = 0
  · rw [if_neg (fun q => q hz)]
    obtain ⟨e, m0, m1, c1, c8, -⟩ := setD_zero hz
    have hc3 : 1 ≤ selC s ∧ selC s ≤ 3 := by unfold selC; omega
    have hp := put_lok (y := ⟨selC s, selI ids s, s.m.toNat⟩) h.row (by omega) ⟨by show 0 ≤ selC s; omega, by show selC s ≤ 8; omega, hi.1, hi.2, by show s.m.toNat ≤ 8191; omega⟩
    simp only
    rw [e]
    have hred : ∀ v : Int, 0 ≤ v → v ≤ 3 → ∀ x ∈ putM Rd.id R ⟨selI ids s, v⟩, 0 ≤ x.id ∧ x.id ≤ 4294967295 ∧ 0 ≤ x.c ∧ x.c ≤ 3 := by
      intro v v0 v1 x hx
      rcases mem_putR hx with rfl | hx
      · exact ⟨by show 0 ≤ selI ids s; omega, hi.2, v0, v1⟩
      · exact h.red x hx
    have h3 : ∀ r ∈ putM keyR l ⟨selC s, selI ids s, s.m.toNat⟩, r.c ≤ 3 := fun r hr => (mem_put hr).elim (fun e => by rw [e]; exact hc3.2) (h.three r)
    by_cases hw : wantB s.m = true
    · rw [if_pos hw]
      have ho := no_other h hz hw
      refine ⟨hp.1, by omega, h3, apart_put h.apart _, hred _ (by omega) (by omega), fun d x d1 d2 => ?_⟩
      rw [rd_put, mask_put]
      by_cases hx : x = selI ids s
      · rw [if_pos hx]
        simp only [hx, and_true]
        by_cases hd : d = selC s
        · rw [if_pos hd]
          unfold wantB at hw
          rw [decide_eq_true_eq] at hw
          exact ⟨fun _ => hw, fun _ => hd.symm⟩
        · rw [if_neg hd]
          refine ⟨fun q => absurd q.symm hd, fun q => ?_⟩
          have := (h.tell d (selI ids s) d1 d2).2 q
          rcases ho with ho | ho <;> omega
      · rw [if_neg hx, if_neg (fun q => hx q.2)]
        exact h.tell d x d1 d2
    · rw [if_neg hw]
      have hw0 : s.m.toNat &&& 2048 = 0 := by
        unfold wantB at hw
        rw [decide_eq_true_eq] at hw
        exact Classical.not_not.1 hw
      by_cases hr : rdD R (selI ids s) = selC s
      · rw [if_pos hr]
        refine ⟨hp.1, by omega, h3, apart_put h.apart _, hred 0 (by omega) (by omega), fun d x d1 d2 => ?_⟩
        rw [rd_put, mask_put]
        by_cases hx : x = selI ids s
        · rw [if_pos hx]
          simp only [hx, and_true]
          by_cases hd : d = selC s
          · rw [if_pos hd]
            exact ⟨fun q => by omega, fun q => absurd hw0 q⟩
          · rw [if_neg hd]
            refine ⟨fun q => by omega, fun q => ?_⟩
            have := (h.tell d (selI ids s) d1 d2).2 q
            omega
        · rw [if_neg hx, if_neg (fun q => hx q.2)]
          exact h.tell d x d1 d2
      · rw [if_neg hr]
        refine ⟨hp.1, by omega, h3, h.apart, h.red, fun d x d1 d2 => ?_⟩
        rw [mask_put]
        by_cases hx : x = selI ids s ∧ d = selC s
        · rw [if_pos ⟨hx.2, hx.1⟩, hx.1, hx.2]
          exact ⟨fun q => absurd q hr, fun q => absurd hw0 q⟩
        · rw [if_neg (fun q => hx ⟨q.2, q.1⟩)]
          exact h.tell d x d1 d2
  · rw [if_pos hz]
    exact ⟨h.row, by show l.length ≤ k + 1; omega, h.three, h.apart, h.red, h.tell⟩
end Go.Proofs.YtcnlgdbmcdlknaaDoor.Tr
