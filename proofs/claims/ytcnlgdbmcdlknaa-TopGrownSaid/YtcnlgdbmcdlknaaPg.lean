/- Two regions joined. By the prover of this seat. -/
import Derived.Test.YtcnlgdbmcdlknaaPf
set_option linter.unusedVariables false
set_option linter.unusedSimpArgs false
set_option maxRecDepth 100000
set_option maxHeartbeats 400000
namespace Go.Proofs.Ytcnlgdbmcdlknaa.Bn
open Go Go.RowKit Go.Pm
theorem len_rng : ∀ (l : List Int) (a b : Int), l.Pairwise (· < ·) → (∀ x ∈ l, a ≤ x ∧ x ≤ b) → a ≤ b + 1 → (l.length : Int) ≤ b - a + 1
  | [], a, b, _, _, h => by simp; omega
  | x :: l, a, b, hp, hr, h => by
    obtain ⟨h1, h2⟩ := List.pairwise_cons.1 hp
    have hx := hr x (by simp)
    have := len_rng l (x + 1) b h2 (fun q hq => ⟨by have := h1 q hq; omega, (hr q (by simp [hq])).2⟩) (by omega)
    rw [List.length_cons]
    omega
noncomputable def pB (P : Pl) (x y : Int) : Bool := @decide (P x y) (Classical.propDecidable _)
theorem pB_iff (P : Pl) (x y : Int) : pB P x y = true ↔ P x y := by unfold pB; exact @decide_eq_true_iff _ (Classical.propDecidable _)
theorem ji_all (g : Nat) (hg : g = 36 ∨ g = 39) (K : Bool → Bool → Bool) (hK : ∀ a b, PT g [bl a, bl b] (bl (K a b))) (hK0 : ∀ b, K false b = false) (ys : List Int) (da db : List Rc) (i : Nat) (y h : Int) (A B : List Rc) (hA : XL A) (hB : XL B) (pA : ∀ r ∈ A, RcIn 200 r) (pB : ∀ r ∈ B, RcIn 200 r) (hAl : A.length ≤ 200000) (hBl : B.length ≤ 200000) (hy : -200 ≤ y) (hh : 0 < h) (hyh : y + h ≤ 200) (acc : List Rc) (hacc : acc.length ≤ 900000) :
    ∃ ra9 rb9 j9 acc2, LoopT C0 jiB (jiS g ys (sortU ((A ++ B).flatMap xE)) (slR da) (slR db) i y h A B 0 acc acc.length) (.exit 2) (jiS g ys (sortU ((A ++ B).flatMap xE)) (slR da) (slR db) i y h ra9 rb9 j9 acc2 acc2.length) ∧ acc2.length ≤ acc.length + 401 ∧ (∀ r ∈ acc2, r ∈ acc ∨ RcIn 200 r) ∧ ∀ X Y, inR acc2 X Y ↔ inR acc X Y ∨ (y ≤ Y ∧ Y < y + h ∧ K (acB X A) (acB X B) = true) := by
  obtain ⟨u1, u2⟩ := sortU_ok ((A ++ B).flatMap xE)
  obtain ⟨xs, ex⟩ : ∃ xs, xs = sortU ((A ++ B).flatMap xE) := ⟨_, rfl⟩
  rw [← ex] at u1 u2 ⊢
  have mem : ∀ x, x ∈ xs ↔ ∃ r, (r ∈ A ∨ r ∈ B) ∧ (x = r.x ∨ x = r.x + r.w) := fun x => by
    rw [u2, List.mem_flatMap]
    unfold xE
    simp
  have mA : ∀ r ∈ A, r.x ∈ xs ∧ r.x + r.w ∈ xs := fun r hr => ⟨(mem _).2 ⟨r, .inl hr, .inl rfl⟩, (mem _).2 ⟨r, .inl hr, .inr rfl⟩⟩
  have mB : ∀ r ∈ B, r.x ∈ xs ∧ r.x + r.w ∈ xs := fun r hr => ⟨(mem _).2 ⟨r, .inr hr, .inl rfl⟩, (mem _).2 ⟨r, .inr hr, .inr rfl⟩⟩
  have rx : ∀ x ∈ xs, -200 ≤ x ∧ x ≤ 200 := fun x hx => by
    obtain ⟨r, hr, e⟩ := (mem x).1 hx
    have : RcIn 200 r := by rcases hr with hr | hr; exact pA r hr; exact pB r hr
    obtain ⟨h1, h2, h3, -⟩ := this
    omega
  have xl := len_rng xs (-200) 200 u1 rx (by omega)
  by_cases h0 : xs.length = 0
  · have eA : A = [] := List.eq_nil_iff_forall_not_mem.2 fun r hr => by
      have := (mA r hr).1
      rw [List.eq_nil_of_length_eq_zero h0] at this
      cases this
    refine ⟨A, B, 0, acc, ji_end g ys xs da db i y h A B 0 acc _ (by omega) (by omega) (by omega), by omega, fun r hr => .inl hr, fun X Y => ?_⟩
    constructor
    · exact .inl
    · rintro (h1 | ⟨_, _, h1⟩)
      · exact h1
      · rw [eA, show acB X [] = false from rfl, hK0] at h1
        cases h1
  · obtain ⟨ra9, rb9, j9, acc2, q1, q2, q3, q4⟩ := ji_loop g hg K hK ys xs da db i y h A B hA hB pA pB hAl hBl u1 mA mB rx (by omega) hy hh hyh (xs.length - 1) 0 A B acc (by omega) (List.Sublist.refl _) (List.Sublist.refl _) (fun _ _ => rfl) (fun _ _ => rfl) (by omega)
    refine ⟨ra9, rb9, j9, acc2, q1, by omega, q3, fun X Y => ?_⟩
    rw [q4]
    constructor
    · rintro (h1 | ⟨h1, h2, _, _, h3⟩)
      · exact .inl h1
      · exact .inr ⟨h1, h2, h3⟩
    · rintro (h1 | ⟨h1, h2, h3⟩)
      · exact .inl h1
      · have hac : acB X A = true := by
          cases hq : acB X A with
          | true => rfl
          | false => rw [hq, hK0] at h3; cases h3
        obtain ⟨r, hr, a1, a2⟩ := (acB_iff hA pA X).1 hac
        have f1 := ys_first u1 (by omega) (mA r hr).1
        have f2 := ys_last u1 (0 + (xs.length - 1)) (by omega) (mA r hr).2
        exact .inr ⟨h1, h2, by omega, by omega, h3⟩
theorem jo_loop (g : Nat) (hg : g = 36 ∨ g = 39) (K : Bool → Bool → Bool) (hK : ∀ a b, PT g [bl a, bl b] (bl (K a b))) (hK0 : ∀ b, K false b = false) (ys : List Int) (la lb : List Rc) (ca : CanL la) (cb : CanL lb) (pa : ∀ r ∈ la, RcIn 200 r) (pb : ∀ r ∈ lb, RcIn 200 r) (hal : la.length ≤ 200000) (hbl : lb.length ≤ 200000) (hys : ys.Pairwise (· < ·)) (ma : ∀ r ∈ la, r.y ∈ ys ∧ r.y + r.h ∈ ys) (mb : ∀ r ∈ lb, r.y ∈ ys ∧ r.y + r.h ∈ ys) (ry : ∀ y ∈ ys, -200 ≤ y ∧ y ≤ 200) (hl : ys.length ≤ 1000) :
    ∀ (d i : Nat) (da db acc : List Rc), i + d + 1 = ys.length → da.Sublist la → db.Sublist lb → (∀ r ∈ la, nth ys i < r.y + r.h → r ∈ da) → (∀ r ∈ lb, nth ys i < r.y + r.h → r ∈ db) → acc.length + d * 401 ≤ 900000 →
      ∃ da9 db9 i9 acc2, LoopT C0 joB (joS g ys (slR da) (slR db) i acc acc.length) (.exit 0) (joS g ys (slR da9) (slR db9) i9 acc2 acc2.length) ∧ acc2.length ≤ acc.length + d * 401 ∧ (∀ r ∈ acc2, r ∈ acc ∨ RcIn 200 r) ∧ ∀ X Y, inR acc2 X Y ↔ inR acc X Y ∨ (nth ys i ≤ Y ∧ Y < nth ys (i + d) ∧ K (pB (inR la) X Y) (pB (inR lb) X Y) = true) := by
  intro d
  induction d with
  | zero =>
    intro i da db acc hi _ _ _ _ _
    refine ⟨da, db, i, acc, jo_end g ys da db i acc _ (by omega) (by omega) (by omega), by omega, fun r hr => .inl hr, fun X Y => ?_⟩
    constructor
    · exact .inl
    · rintro (h1 | ⟨h1, h2, _⟩)
      · exact h1
      · rw [Nat.add_zero] at h2; omega
  | succ d ih =>
    intro i da db acc hi sa sb ea eb hm
    have hi2 : i + 1 < ys.length := by omega
    have hlt := ys_next hys i hi2
    have r1 := ry _ (nth_mem hi2)
    have r0 := ry _ (nth_mem (show i < ys.length by omega))
    have pda : ∀ r ∈ da, RcIn 200 r := fun r hr => pa r (sa.subset hr)
    have pdb : ∀ r ∈ db, RcIn 200 r := fun r hr => pb r (sb.subset hr)
    have cda : CanL da := ca.sublist sa
    have cdb : CanL db := cb.sublist sb
    have la1 := sa.length_le
    have lb1 := sb.length_le
    obtain ⟨y, ey⟩ : ∃ y, y = nth ys i := ⟨_, rfl⟩
    have memA : ∀ r, r ∈ rowD y da ↔ r ∈ la ∧ r.y ≤ y ∧ y < r.y + r.h := fun r => by
      rw [rowD_mem cda pda]
      exact ⟨fun ⟨h1, h2⟩ => ⟨sa.subset h1, h2⟩, fun ⟨h1, h2, h3⟩ => ⟨ea r h1 (by omega), h2, h3⟩⟩
    have memB : ∀ r, r ∈ rowD y db ↔ r ∈ lb ∧ r.y ≤ y ∧ y < r.y + r.h := fun r => by
      rw [rowD_mem cdb pdb]
      exact ⟨fun ⟨h1, h2⟩ => ⟨sb.subset h1, h2⟩, fun ⟨h1, h2, h3⟩ => ⟨eb r h1 (by omega), h2, h3⟩⟩
    have xA := rowD_xl cda pda y
    have xB := rowD_xl cdb pdb y
    have pA : ∀ r ∈ rowD y da, RcIn 200 r := fun r hr => pa r ((memA r).1 hr).1
    have pB' : ∀ r ∈ rowD y db, RcIn 200 r := fun r hr => pb r ((memB r).1 hr).1
    have lA := rowD_len y da
    have lB := rowD_len y db
    have tellA : ∀ X Y, y ≤ Y → Y < nth ys (i + 1) → acB X (rowD y da) = pB (inR la) X Y := fun X Y h1 h2 => bool_iff (by
      rw [acB_iff xA pA, pB_iff]
      constructor
      · rintro ⟨r, hr, a1, a2⟩
        obtain ⟨b1, b2, b3⟩ := (memA r).1 hr
        have := ys_gap hys i hi2 (ma r b1).2
        exact ⟨r, b1, a1, a2, by omega, by omega⟩
      · rintro ⟨r, hr, a1, a2, a3, a4⟩
        have := ys_gap hys i hi2 (ma r hr).1
        exact ⟨r, (memA r).2 ⟨hr, by omega, by omega⟩, a1, a2⟩)
    have tellB : ∀ X Y, y ≤ Y → Y < nth ys (i + 1) → acB X (rowD y db) = pB (inR lb) X Y := fun X Y h1 h2 => bool_iff (by
      rw [acB_iff xB pB', pB_iff]
      constructor
      · rintro ⟨r, hr, a1, a2⟩
        obtain ⟨b1, b2, b3⟩ := (memB r).1 hr
        have := ys_gap hys i hi2 (mb r b1).2
        exact ⟨r, b1, a1, a2, by omega, by omega⟩
      · rintro ⟨r, hr, a1, a2, a3, a4⟩
        have := ys_gap hys i hi2 (mb r hr).1
        exact ⟨r, (memB r).2 ⟨hr, by omega, by omega⟩, a1, a2⟩)
    obtain ⟨ra9, rb9, j9, acc1, q1, q2, q3, q4⟩ := ji_all g hg K hK hK0 ys (dW y da) (dW y db) i y (nth ys (i + 1) - y) (rowD y da) (rowD y db) xA xB pA pB' (by omega) (by omega) (by omega) (by omega) (by omega) acc (by omega)
    have hRa := row_ok y da (by omega) (fun r hr => (pda r hr).sm)
    have hRb := row_ok y db (by omega) (fun r hr => (pdb r hr).sm)
    have hC := cutx_ok (rowD y da) (rowD y db) (by omega) (by omega) (fun r hr => (pA r hr).sm) (fun r hr => (pB' r hr).sm)
    obtain ⟨da9, db9, i9, acc2, t1, t2, t3, t4⟩ := ih (i + 1) (dW y da) (dW y db) acc1 (by omega) ((dp_sub _ y da).trans sa) ((dp_sub _ y db).trans sb) (fun r hr h => (dW_mem cda pda y r).2 ⟨ea r hr (by omega), by omega⟩) (fun r hr h => (dW_mem cdb pdb y r).2 ⟨eb r hr (by omega), by omega⟩) (by omega)
    have hlast := ys_mono hys (i + 1) (i + 1 + d) (by omega) (by omega)
    refine ⟨da9, db9, i9, acc2, LoopT.next ?_ t1, by omega, fun r hr => ?_, fun X Y => ?_⟩
    · subst ey
      exact jo_step g ys _ da db _ _ i _ _ ra9 rb9 j9 acc acc1 _ _ hi2 (by omega) (fun q hq => by have := ry q hq; omega) hRa hRb hC q1
    · rcases t3 r hr with h1 | h1
      · exact q3 r h1
      · exact .inr h1
    · rw [t4, q4, ← ey, show i + (d + 1) = i + 1 + d by omega]
      constructor
      · rintro ((h1 | ⟨h1, h2, h3⟩) | ⟨h1, h2, h3⟩)
        · exact .inl h1
        · rw [tellA X Y h1 (by omega), tellB X Y h1 (by omega)] at h3
          exact .inr ⟨h1, by omega, h3⟩
        · exact .inr ⟨by omega, h2, h3⟩
      · rintro (h1 | ⟨h1, h2, h3⟩)
        · exact .inl (.inl h1)
        · by_cases hY : Y < nth ys (i + 1)
          · rw [← tellA X Y h1 hY, ← tellB X Y h1 hY] at h3
            exact .inl (.inr ⟨h1, by omega, h3⟩)
          · exact .inr ⟨by omega, h2, h3⟩
def joinP (K : Bool → Bool → Bool) (P Q : Pl) : Pl := fun x y => K (pB P x y) (pB Q x y) = true
theorem canon_lim {P : Pl} (h : Reg 200 P) : CanL (canon P) ∧ (∀ r ∈ canon P, RcIn 200 r) ∧ (canon P).length ≤ 160000 := by
  have := canon_len h (by omega)
  exact ⟨canon_can h, canon_rng h, by omega⟩
theorem join_ok (g : Nat) (hg : g = 36 ∨ g = 39) (K : Bool → Bool → Bool) (hK : ∀ a b, PT g [bl a, bl b] (bl (K a b))) (hK0 : ∀ b, K false b = false) {P Q : Pl} (hP : Reg 200 P) (hQ : Reg 200 Q) : PT 37 [A [.fn (.func g) [] []], rgA (canon P), rgA (canon Q)] (rgA (canon (joinP K P Q))) ∧ Reg 200 (joinP K P Q) := by
  obtain ⟨ca, pa, la⟩ := canon_lim hP
  obtain ⟨cb, pb, lb⟩ := canon_lim hQ
  have eP : inR (canon P) = P := pl_ext (in_canon hP)
  have eQ : inR (canon Q) = Q := pl_ext (in_canon hQ)
  obtain ⟨u1, u2⟩ := sortU_ok ((canon P ++ canon Q).flatMap yE)
  have hC := cuty_ok (canon P) (canon Q) (by omega) (by omega) (fun r hr => (pa r hr).sm) (fun r hr => (pb r hr).sm)
  obtain ⟨ys, ex⟩ : ∃ ys, ys = sortU ((canon P ++ canon Q).flatMap yE) := ⟨_, rfl⟩
  rw [← ex] at u1 u2 hC
  have mem : ∀ y, y ∈ ys ↔ ∃ r, (r ∈ canon P ∨ r ∈ canon Q) ∧ (y = r.y ∨ y = r.y + r.h) := fun x => by
    rw [u2, List.mem_flatMap]
    unfold yE
    simp
  have mA : ∀ r ∈ canon P, r.y ∈ ys ∧ r.y + r.h ∈ ys := fun r hr => ⟨(mem _).2 ⟨r, .inl hr, .inl rfl⟩, (mem _).2 ⟨r, .inl hr, .inr rfl⟩⟩
  have mB : ∀ r ∈ canon Q, r.y ∈ ys ∧ r.y + r.h ∈ ys := fun r hr => ⟨(mem _).2 ⟨r, .inr hr, .inl rfl⟩, (mem _).2 ⟨r, .inr hr, .inr rfl⟩⟩
  have ry : ∀ x ∈ ys, -200 ≤ x ∧ x ≤ 200 := fun x hx => by
    obtain ⟨r, hr, e⟩ := (mem x).1 hx
    have : RcIn 200 r := by rcases hr with hr | hr; exact pa r hr; exact pb r hr
    obtain ⟨-, -, -, h1, h2, h3⟩ := this
    omega
  have yl := len_rng ys (-200) 200 u1 ry (by omega)
  have fin : ∃ da9 db9 i9 J, LoopT C0 joB (joS g ys (slR (canon P)) (slR (canon Q)) 0 [] 0) (.exit 0) (joS g ys (slR da9) (slR db9) i9 J J.length) ∧ J.length ≤ 161000 ∧ (∀ r ∈ J, RcIn 200 r) ∧ inR J = joinP K P Q := by
    by_cases h0 : ys.length = 0
    · have eA : canon P = [] := List.eq_nil_iff_forall_not_mem.2 fun r hr => by
        have := (mA r hr).1
        rw [List.eq_nil_of_length_eq_zero h0] at this
        cases this
      refine ⟨canon P, canon Q, 0, [], jo_end g ys _ _ 0 [] 0 (by omega) (by omega) (by omega), by simp, by simp, pl_ext fun X Y => ⟨fun ⟨r, hr, _⟩ => (by cases hr), fun h => ?_⟩⟩
      unfold joinP at h
      have : pB P X Y = false := by
        rw [← Bool.not_eq_true, pB_iff, ← eP, eA]
        rintro ⟨r, hr, _⟩
        cases hr
      rw [this, hK0] at h
      cases h
    · obtain ⟨da9, db9, i9, J, q1, q2, q3, q4⟩ := jo_loop g hg K hK hK0 ys (canon P) (canon Q) ca cb pa pb (by omega) (by omega) u1 mA mB ry (by omega) (ys.length - 1) 0 (canon P) (canon Q) [] (by omega) (List.Sublist.refl _) (List.Sublist.refl _) (fun r hr _ => hr) (fun r hr _ => hr) (by simp; omega)
      refine ⟨da9, db9, i9, J, q1, by simp at q2; omega, fun r hr => (q3 r hr).elim (fun h => by cases h) id, pl_ext fun X Y => ?_⟩
      rw [q4, eP, eQ]
      constructor
      · rintro (⟨r, hr, _⟩ | ⟨_, _, h⟩)
        · cases hr
        · exact h
      · intro h
        have hac : pB P X Y = true := by
          cases hq : pB P X Y with
          | true => rfl
          | false => unfold joinP at h; rw [hq, hK0] at h; cases h
        rw [pB_iff, ← eP] at hac
        obtain ⟨r, hr, a1, a2, a3, a4⟩ := hac
        have f1 := ys_first u1 (by omega) (mA r hr).1
        have f2 := ys_last u1 (0 + (ys.length - 1)) (by omega) (mA r hr).2
        exact .inr ⟨by omega, by omega, h⟩
  obtain ⟨da9, db9, i9, J, q1, q2, q3, q4⟩ := fin
  have hJ : J.filter cntR = J := List.filter_eq_self.2 fun r hr => by
    obtain ⟨-, h1, -, -, h2, -⟩ := q3 r hr
    unfold cntR
    rw [decide_t h1, decide_t h2]
    rfl
  obtain ⟨o1, o2⟩ := of_ok J (by omega) (fun r hr => (q3 r hr).sm) (fun r hr _ => q3 r hr)
  rw [hJ, q4] at o1 o2
  exact ⟨jo_fn g (canon P) (canon Q) ys (slR da9) (slR db9) i9 J _ J.length (by omega) (by omega) hC q1 (by rw [slV_eq J _ rfl]; exact o1), o2⟩
end Go.Proofs.Ytcnlgdbmcdlknaa.Bn
