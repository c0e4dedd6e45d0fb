/- The windows' tree made. By the prover of this seat. -/
import Derived.Test.YtcnlgdbmcdlknaaDoorRb
set_option linter.unusedVariables false
set_option linter.unusedSimpArgs false
set_option maxRecDepth 100000
set_option maxHeartbeats 4000000
namespace Go.Proofs.YtcnlgdbmcdlknaaDoor.Tr
open Go.RowKit Go.Pm
structure Wn where
  c : Int
  u : Int
  deriving DecidableEq, Inhabited
def eW (w : Wn) : List AV := [u8 w.c, u8 w.u]
abbrev slW (l : List Wn) : AV := slE eW l
noncomputable def CG0 : Cx := ⟨Tryd.prog, GS, 0⟩
noncomputable def mdB : Code := loopOf Tryd.prog 6 4
def mdS (l : List Wn) (K : List Kid) (U : List Up) (n : Nat) (ids : List Int) (k : Nat) : St := ⟨mkT 68 [(2, .ptr 0 0), (6, .ptr 1 0), (7, .osl 2 0 n 1), (8, .omp 3), (18, slW l), (19, i64 (l.length : Int)), (20, i64 (k : Int))], [.arr 2 [.mp [], .mp []] 0, .arr 2 [.mp (K.map rowD), .mp (U.map rowU)] 0, .arr (n * 1) (ids.flatMap eU) 0, .map (U.map rowU) false]⟩
theorem row_nth (l : List Int) (k : Nat) (h : k < l.length) : (List.drop (0 + k * 1) (List.flatMap eU l)).take 1 = [u32 (nth l k)] := by
  rw [Nat.zero_add, Nat.mul_one]
  induction l generalizing k with
  | nil => simp at h
  | cons a l ih =>
    cases k with
    | zero => rfl
    | succ k => exact ih k (by simpa using h)
theorem md_step (l : List Wn) (K K2 : List Kid) (U U2 : List Up) (ids : List Int) (k : Nat) (hk : k < l.length) (hl : l.length ≤ 9223372036854775807) (hi : ids.length ≤ 1000) (hk2 : k ≤ 100) (c3 idn r up : Int) (hc : (nth l k).c % 3 = c3) (c0 : 0 ≤ (nth l k).c) (c1 : (nth l k).c ≤ 255) (u0 : 0 ≤ (nth l k).u) (u1 : (nth l k).u ≤ 255) (hid : (c3 + 1) * 1048576 + (k : Int) + 1 = idn) (hr : (nth l k).u % (ids.length : Int) = r) (hi0 : 1 ≤ ids.length) (hup : nth ids r.toNat = up) (ha : Pu 21 [trA K U, u32 idn, u32 up] (.tup [trA K2 U2, i64 0])) (hU : UOk U) (hm : (mput (U.map rowU) (u32 idn) (u32 up)).Perm (U2.map rowU)) : Tri CG0 mdB (mdS l K U ids.length ids k) .normal (mdS l K2 U2 (ids.length + 1) (ids ++ [idn]) (k + 1)) := by
  have b0 : 0 ≤ c3 ∧ c3 ≤ 2 := by omega
  have b1 : 1048576 ≤ idn ∧ idn ≤ 4194304 := by omega
  have r0 : 0 ≤ r ∧ r < (ids.length : Int) := by
    subst hr
    exact ⟨Int.emod_nonneg _ (by omega), Int.emod_lt_of_pos _ (by omega)⟩
  have e1 : (List.drop (0 + r.toNat * 1) (List.flatMap eU ids)).take 1 = [u32 up] := by
    rw [← hup]
    exact row_nth ids r.toNat (by omega)
  have k1 : kwf Tryd.prog 39 (u32 idn) = true := kwf_U (by omega) (by omega)
  have a1 := allK_U hU.2
  have hlen : (List.flatMap eU ids).length = ids.length * 1 := row_len (sz := 1) (fun _ => rfl) ids
  have e2 : List.drop 0 (List.flatMap eU ids) ++ [u32 idn] = (ids ++ [idn]).flatMap eU := by simp [eU]
  exact runF_ok (hs := hint [((4,0), {val := some (bl (true))}), ((5,1), {cells := some (eW (nth l k) ++ List.flatMap eW (List.drop (k + (1 : Nat)) l)), sym := true}), ((6,2), { val := some (u8 c3) }), ((6,3), {val := some (i64 (c3))}), ((6,4), {val := some (i64 (c3 + (1 : Int)))}), ((6,5), {val := some (i64 ((c3 + (1 : Int)) * (1048576 : Int)))}), ((6,7), {val := some (i64 ((c3 + (1 : Int)) * (1048576 : Int) + (↑k : Int)))}), ((6,8), { val := some (i64 idn) }), ((6,9), {val := some (u32 (idn))}), ((7,3), {val := some (i64 ((nth l k).u))}), ((7,6), { sym := true, val := some (i64 r) }), ((7,7), {sym := true}), ((7,8), { sym := true, cells := some [u32 up] }), ((8,3), {call := some (AV.tup [(trA K2 U2), (i64 (0 : Int))])}), ((11,4), { sym := true, cells := some ((ids ++ [idn]).flatMap eU) }), ((12,3), { sym := true, ents := some (U2.map rowU) }), ((13,0), {val := some (i64 ((↑k : Int) + (1 : Int)))})]) (f := { ks := [2, 6, 7, 8, 18, 19, 20], l := [0, 1, 7, 3] }) (ps := [bl (decide ((↑k : Int) < (↑l.length : Int))) = bl (true), decide ((0 : Int) ≤ (↑k : Int) ∧ (↑k : Int) < (↑l.length : Int)) = true, ((List.drop ((↑k : Int).toNat * (2 : Nat)) (List.flatMap eW l)) : List AV) = (eW (nth l k) ++ List.flatMap eW (List.drop (k + (1 : Nat)) l)), u8 ((nth l k).c.tmod (3 : Int)) = u8 (c3), i64 (IntKind.i64.wrap c3) = i64 (c3), i64 (IntKind.i64.wrap (c3 + (1 : Int))) = i64 (c3 + (1 : Int)), i64 (IntKind.i64.wrap ((c3 + (1 : Int)) * (1048576 : Int))) = i64 ((c3 + (1 : Int)) * (1048576 : Int)), i64 (IntKind.i64.wrap ((c3 + (1 : Int)) * (1048576 : Int) + (↑k : Int))) = i64 ((c3 + (1 : Int)) * (1048576 : Int) + (↑k : Int)), i64 (IntKind.i64.wrap ((c3 + (1 : Int)) * (1048576 : Int) + (↑k : Int) + (1 : Int))) = i64 (idn), u32 (IntKind.u32.wrap idn) = u32 (idn), i64 (IntKind.i64.wrap (nth l k).u) = i64 ((nth l k).u), decide ((↑ids.length : Int) ≠ (0 : Int)) = true, i64 ((nth l k).u.tmod (↑ids.length : Int)) = i64 (r), decide ((0 : Int) ≤ r ∧ r < (↑ids.length : Int)) = true, ((List.take (1 : Nat) (List.drop ((0 : Nat) + r.toNat * (1 : Nat)) (List.flatMap eU ids))) : List AV) = [u32 (up)], _, decide (ids.length * (1 : Nat) = ids.length * (1 : Nat) + (0 : Nat) ∧ (0 : Nat) ≤ ids.length * (1 : Nat) ∧ ids.length * (1 : Nat) = (List.flatMap eU ids).length) = true, decide ((ids.length + (1 : Nat)) * (4 : Nat) ≤ (140737488355328 : Nat)) = true, true = true, ((List.drop (0 : Nat) (List.flatMap eU ids) ++ [AV.s (Value.int IntKind.u32 idn)]) : List AV) = (List.flatMap eU (ids ++ [idn])), true = true, true = true, kwf CG0.P (39 : Nat) (AV.s (Value.int IntKind.u32 idn)) = true, allK CG0.P (39 : Nat) (List.map rowU U) = true, (mput (List.map rowU U) (AV.s (Value.int IntKind.u32 idn)) (AV.s (Value.int IntKind.u32 up))).Perm (List.map rowU U2), i64 (IntKind.i64.wrap ((↑k : Int) + (1 : Int))) = i64 ((↑k : Int) + (1 : Int)), true = true, true = true, true = true, pureB (Bk.arr ((ids.length + (1 : Nat)) * (1 : Nat)) (List.flatMap eU (ids ++ [idn])) (0 : Fz)) = true, pureB (Bk.map (List.map rowU U2) false) = true]) (by kernel_rfl) ⟨(bdT (by omega)), (by exact decide_t (by omega)), (by exact flat_nth (sz := 2) (k := k) (fun _ => rfl) (by omega)), (by exact intE ((Int.tmod_eq_emod_of_nonneg c0).trans hc)), (intE (by exact wrap_i64 (by omega) (by omega))), (intE (by exact wrap_i64 (by omega) (by omega))), (intE (by exact wrap_i64 (by omega) (by omega))), (intE (by exact wrap_i64 (by omega) (by omega))), (by exact intE (by rw [hid]; exact wrap_i64 (by omega) (by omega))), (intE (by exact wrap_u32 (by omega) (by omega))), (intE (by exact wrap_i64 (by omega) (by omega))), (by (first | exact intE ((Int.tmod_eq_emod_of_nonneg u0).trans hr) | exact decide_t (by omega))), (by (first | exact intE ((Int.tmod_eq_emod_of_nonneg u0).trans hr) | exact decide_t (by omega))), (by exact decide_t (by omega)), (by (first | exact e1 | exact decide_t (by omega))), (ha), (by (first | exact e2 | exact decide_t ⟨by omega, by omega, by omega⟩ | exact decide_t (by omega))), (by (first | exact e2 | exact decide_t ⟨by omega, by omega, by omega⟩ | exact decide_t (by omega))), rfl, (by (first | exact e2 | exact decide_t ⟨by omega, by omega, by omega⟩ | exact decide_t (by omega))), (by (first | assumption | exact hm | rfl)), (by (first | assumption | exact hm | rfl)), (by (first | assumption | exact hm | rfl)), (by (first | assumption | exact hm | rfl)), (by (first | assumption | exact hm | rfl)), (intE (by exact wrap_i64 (by omega) (by omega))), rfl, rfl, rfl, (by exact pure_row _ _ _), (by exact pureB_U _ _), trivial⟩
end Go.Proofs.YtcnlgdbmcdlknaaDoor.Tr
