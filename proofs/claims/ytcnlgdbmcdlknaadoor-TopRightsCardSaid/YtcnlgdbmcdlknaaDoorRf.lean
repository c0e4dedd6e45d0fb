/- The windows' tree: the loop. By the prover of this seat. -/
import Derived.Test.YtcnlgdbmcdlknaaDoorRe
set_option linter.unusedVariables false
set_option linter.unusedSimpArgs false
set_option maxRecDepth 100000
set_option maxHeartbeats 4000000
namespace Go.Proofs.YtcnlgdbmcdlknaaDoor.Tr
open Go.RowKit Go.Pm
def mdE (K : List Kid) (U : List Up) (ids : List Int) : St := ⟨mkT 68 [(2, .ptr 0 0), (3, .osl 1 0 ids.length 1), (4, .omp 2), (5, bl false)], [.arr 2 [.mp (K.map rowD), .mp (U.map rowU)] 0, .arr (ids.length * 1) (ids.flatMap eU) 0, .map (U.map rowU) false]⟩
def WOk (l : List Wn) : Prop := ∀ w ∈ l, 0 ≤ w.c ∧ w.c ≤ 255 ∧ 0 ≤ w.u ∧ w.u ≤ 255
theorem md_all (l : List Wn) (hw : WOk l) (hl : l.length ≤ 9223372036854775807) : ∀ (m k : Nat) (K : List Kid) (U : List Up) (ids : List Int), l.length - k = m → k ≤ l.length → MI k K U ids →
    ∃ K' U' ids' b k', madeD (l.drop k) k K U ids = ((K', U', ids'), b) ∧ MI k' K' U' ids' ∧ (b = true → k' = l.length ∧ LoopT CG0 mdB (mdS l K U ids.length ids k) (.exit 0) (mdS l K' U' ids'.length ids' l.length)) ∧ (b = false → LoopT CG0 mdB (mdS l K U ids.length ids k) .ret (mdE K' U' ids')) := by
  intro m
  induction m with
  | zero =>
    intro k K U ids hm hk hI
    obtain rfl : k = l.length := by omega
    refine ⟨K, U, ids, true, l.length, by rw [List.drop_length]; rfl, hI, fun _ => ⟨rfl, md_end l K U ids.length ids⟩, fun h => by cases h⟩
  | succ m ih =>
    intro k K U ids hm hk hI
    have hk2 : k < l.length := by omega
    have hd : l.drop k = nth l k :: l.drop (k + 1) := by
      rw [List.drop_eq_getElem_cons hk2]
      simp [nth, hk2]
    obtain ⟨c0, c1, u0, u1⟩ := hw _ (nth_mem hk2)
    have hi := idOf_rng (w := nth l k) c0 hI.few
    have hmm := upOf_mem (w := nth l k) (ids := ids) (by rw [hI.rng.1]; omega)
    have hu := hI.rng.2 _ hmm
    have hlen := hI.rng.1
    have hf := hI.few
    have ha := add_ok K U hI.tree (idOf (nth l k) k) (upOf (nth l k) ids) (by omega) (by omega) (by omega) (by omega) (by rw [hI.len]; omega)
    rw [hd]
    by_cases hz : (addD K U (idOf (nth l k) k) (upOf (nth l k) ids)).2.2 = 0
    · have hN := hI.next c0 hz
      obtain ⟨K', U', ids', b, k', q1, q2, q3, q4⟩ := ih (k + 1) _ _ _ (by omega) (by omega) hN
      have hU2 : (addD K U (idOf (nth l k) k) (upOf (nth l k) ids)).2.1 = U ++ [(⟨idOf (nth l k) k, upOf (nth l k) ids⟩ : Up)] := by rw [(addD_zero hz).1]
      have hmp : (mput (U.map rowU) (u32 (idOf (nth l k) k)) (u32 (upOf (nth l k) ids))).Perm ((addD K U (idOf (nth l k) k) (upOf (nth l k) ids)).2.1.map rowU) := by
        have hn := has_none (U := U) (id := idOf (nth l k) k) (by rw [(addD_zero hz).2.2.1]; simp)
        rw [hU2, show mput (U.map rowU) (u32 (idOf (nth l k) k)) (u32 (upOf (nth l k) ids)) = (U ++ [(⟨idOf (nth l k) k, upOf (nth l k) ids⟩ : Up)]).map rowU from mput_fresh (x := (⟨idOf (nth l k) k, upOf (nth l k) ids⟩ : Up)) ke_U hn]
      have hs := md_step l K _ U _ ids k hk2 hl (by omega) (by omega) _ _ _ _ rfl c0 c1 u0 u1 rfl rfl (by omega) rfl (by rw [hz] at ha; exact ha) hI.tree.up hmp
      have e3 : (ids ++ [idOf (nth l k) k]).length = ids.length + 1 := by simp
      rw [e3] at q3 q4
      refine ⟨K', U', ids', b, k', by rw [madeD, if_pos hz]; exact q1, q2, fun h => ⟨(q3 h).1, LoopT.next hs (q3 h).2⟩, fun h => LoopT.next hs (q4 h)⟩
    · refine ⟨K, U, ids, false, k, by rw [madeD, if_neg hz], hI, fun h => (by cases h), fun _ => ?_⟩
      exact md_err l K _ U _ _ hz ids k hk2 hl (by omega) (by omega) _ _ _ _ rfl c0 c1 u0 u1 rfl rfl (by omega) rfl ha hI.tree.up
end Go.Proofs.YtcnlgdbmcdlknaaDoor.Tr
