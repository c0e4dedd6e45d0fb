/- A tree's Add, as one law. By the prover of this seat. -/
import Derived.Test.YtcnlgdbmcdlknaaDoorZy
set_option linter.unusedVariables false
set_option linter.unusedSimpArgs false
set_option maxRecDepth 100000
set_option maxHeartbeats 4000000
namespace Go.Proofs.YtcnlgdbmcdlknaaDoor.Tr
open Go.RowKit Go.Pm
def hasD (U : List Up) (x : Int) : Bool := (findM Up.id U x).isSome || decide (x = 1)
def kidsD (K : List Kid) (p : Int) : List Int := match findM Kid.p K p with
  | some y => y.l
  | none => []
def addD (K : List Kid) (U : List Up) (id p : Int) : List Kid × List Up × Int :=
  if ¬ checkD id = 0 then (K, U, checkD id) else if hasD U id = true then (K, U, 7) else if hasD U p = false then (K, U, 6) else if (U.length : Int) + 1 ≥ 64 then (K, U, 5) else (putM Kid.p K ⟨p, kidsD K p ++ [id]⟩, U ++ [(⟨id, p⟩ : Up)], 0)
structure TOk (K : List Kid) (U : List Up) : Prop where
  up : UOk U
  kid : DOk K
  few : ∀ x ∈ K, x.l.length ≤ U.length
theorem add_ok (K : List Kid) (U : List Up) (h : TOk K U) (id p : Int) (i0 : 0 ≤ id) (i1 : id ≤ 4294967295) (p0 : 0 ≤ p) (p1 : p ≤ 4294967295) (hU : U.length ≤ 1000) : Pu 21 [trA K U, u32 id, u32 p] (.tup [trA (addD K U id p).1 (addD K U id p).2.1, i64 (addD K U id p).2.2]) := by
  have hc := check_ok id i0 i1
  have hi := has_ok K U h.up id i0 i1 _ rfl
  have hp := has_ok K U h.up p p0 p1 _ rfl
  unfold addD
  by_cases c0 : checkD id = 0
  · rw [if_neg (by simp [c0])]
    rw [c0] at hc
    by_cases c1 : hasD U id = true
    · rw [if_pos c1]
      exact add_7 K U id p hc (by rw [← c1]; exact hi)
    · rw [if_neg c1]
      rw [Bool.not_eq_true] at c1
      by_cases c2 : hasD U p = false
      · rw [if_pos c2]
        exact add_6 K U id p hc (by rw [← c1]; exact hi) (by rw [← c2]; exact hp)
      · rw [if_neg c2]
        rw [Bool.not_eq_false] at c2
        by_cases c3 : (U.length : Int) + 1 ≥ 64
        · rw [if_pos c3]
          exact add_5 K U id p U.length (by simp) hc (by rw [← c1]; exact hi) (by rw [← c2]; exact hp) c3 (by omega)
        · rw [if_neg c3]
          have hid : ∀ y ∈ U, y.id ≠ id := by
            intro y hy e
            have : findM Up.id U id = none := by
              unfold hasD at c1
              rw [Bool.or_eq_false_iff] at c1
              cases hq : findM Up.id U id with
              | none => rfl
              | some z => rw [hq] at c1; exact absurd c1.1 (by simp)
            have := List.find?_eq_none.1 this y hy
            simp [e] at this
          have hm2 : (mput (U.map rowU) (u32 id) (u32 p)).Perm ((U ++ [(⟨id, p⟩ : Up)]).map rowU) := by
            rw [show mput (U.map rowU) (u32 id) (u32 p) = (U ++ [(⟨id, p⟩ : Up)]).map rowU from mput_fresh (x := (⟨id, p⟩ : Up)) ke_U hid]
          have k1 := kwf_U i0 i1
          have k2 := kwf_U p0 p1
          have aU := allK_U h.up.2
          have aK : ∀ y ∈ K, 0 ≤ y.p ∧ y.p ≤ 4294967295 := fun y hy => ⟨(h.kid.2 y hy).1, (h.kid.2 y hy).2.1⟩
          cases hq : findM Kid.p K p with
          | some y =>
            obtain ⟨q1, q2⟩ := findM_some hq
            have hl := h.few y q1
            have e0 : kidsD K p = y.l := by simp [kidsD, hq]
            rw [e0]
            have hnK : (⟨p, y.l ++ [id]⟩ : Kid) ∉ K := fun hx => by
              have := apart_eq h.kid.1 hx q1 q2.symm
              have := congrArg (fun z : Kid => z.l.length) this
              simp at this
            have hm1 := mput_own (x := ⟨p, y.l ++ [id]⟩) (p := p) 8 12 h.kid.1 rfl hnK
            rw [show evOwn 12 p (⟨p, y.l ++ [id]⟩ : Kid) = .osl 12 0 (y.l.length + 1) 1 by simp [evOwn]] at hm1
            have ht := twin_in U h.up p K h.kid y hq
            have hfm : mfind (K.map (rowOwn 8 p)) (u32 p) = some (.osl 8 0 y.l.length 1) := by
              rw [show u32 p = ekU p from rfl, mfind_row ke_U, hq]
              simp [evOwn, q2]
            have hpt := put_in K U id p y _ _ (by omega) k1 k2 (allK_D aK) aU hfm hm1 hm2
            have hf := frz_own (K := K) (x := ⟨p, y.l ++ [id]⟩) (p := p) (5012 % 1000) (List.drop 0 (List.flatMap eU y.l) ++ [u32 id]) ((y.l.length + 1) * 1) 0 rfl (by simp [eU])
            have := add_in K U id p U.length y _ (U ++ [(⟨id, p⟩ : Up)]) (by simp) hc (by rw [← c1]; exact hi) (by rw [← c2]; exact hp) c3 ht hpt (by rw [show List.drop 0 (List.flatMap eU y.l) ++ [u32 id] = (y.l ++ [id]).flatMap eU by simp [eU]]; exact pure_row _ _ _) (by erw [hf]; exact pureB_D _ _)
            erw [hf] at this
            exact this
          | none =>
            have hn := findM_none hq
            have e0 : kidsD K p = [] := by simp [kidsD, hq]
            rw [e0]
            have hnK : (⟨p, [] ++ [id]⟩ : Kid) ∉ K := fun hx => hn _ hx rfl
            have hm1 := mput_own (x := ⟨p, [] ++ [id]⟩) (p := p) 8 11 h.kid.1 rfl hnK
            rw [show evOwn 11 p (⟨p, [] ++ [id]⟩ : Kid) = .osl 11 0 1 1 by simp [evOwn], own_none 8 p K hn] at hm1
            have ht := twin_out U h.up p K h.kid hq
            have hfm : mfind (K.map rowD) (u32 p) = none := by
              rw [show u32 p = ekU p from rfl, mfind_row ke_U, hq]
              rfl
            have hpt := put_out K U id p _ _ k1 k2 (allK_D aK) aU hfm hm1 hm2
            have hf := frz_own (K := K) (x := ⟨p, [] ++ [id]⟩) (p := p) (5011 % 1000) [u32 id] 1 0 rfl (by simp [eU])
            have := add_out K U id p U.length _ (U ++ [(⟨id, p⟩ : Up)]) (by simp) hc (by rw [← c1]; exact hi) (by rw [← c2]; exact hp) c3 ht hpt rfl (by erw [hf]; exact pureB_D _ _)
            erw [hf] at this
            exact this
  · rw [if_pos c0]
    exact add_e K U id p _ c0 hc
end Go.Proofs.YtcnlgdbmcdlknaaDoor.Tr
