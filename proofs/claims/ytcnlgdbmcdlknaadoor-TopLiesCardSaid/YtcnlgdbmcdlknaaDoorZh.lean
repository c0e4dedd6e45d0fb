/- A request of junk, by the program. By the prover of this seat. -/
import Derived.Test.YtcnlgdbmcdlknaaDoorZa
set_option linter.unusedVariables false
set_option linter.unusedSimpArgs false
set_option maxRecDepth 100000
set_option maxHeartbeats 4000000
namespace Go.Proofs.YtcnlgdbmcdlknaaDoor.Fo
open Go.RowKit Go.Pm
def jbY (k : Nat) (b : ByteArray) : List AV := (bytesA b).take (4 * k) ++ List.replicate (4 * k - b.size) (u8 0)
theorem bytes_len (b : ByteArray) : (bytesA b).length = b.size := by unfold bytesA; rw [List.length_map, Array.length_toList]; rfl
theorem jbY_len (k : Nat) (b : ByteArray) : (jbY k b).length = 4 * k := by
  unfold jbY
  rw [List.length_append, List.length_take, bytes_len, List.length_replicate]
  omega
theorem jb_spl (a0 a1 a2 a3 : AV) (k q : Nat) (b : ByteArray) (hq : q = 4 * k) : splice (a0 :: a1 :: a2 :: a3 :: List.replicate (4 * k) (u8 0)) 4 ((bytesA b).take (min b.size q * 1)) = a0 :: a1 :: a2 :: a3 :: jbY k b := by
  subst hq
  unfold splice jbY
  have e1 : (bytesA b).take (min b.size (4 * k) * 1) = (bytesA b).take (4 * k) := by
    rw [Nat.mul_one]
    by_cases h : b.size ≤ 4 * k
    · rw [Nat.min_eq_left h, List.take_of_length_le (by rw [bytes_len]; exact Nat.le_refl _), List.take_of_length_le (by rw [bytes_len]; exact h)]
    · rw [Nat.min_eq_right (by omega)]
  rw [e1]
  have e2 : ((bytesA b).take (4 * k)).length = min (4 * k) b.size := by rw [List.length_take, bytes_len]
  rw [e2]
  have e3 : (a0 :: a1 :: a2 :: a3 :: List.replicate (4 * k) (u8 0)).drop (4 + min (4 * k) b.size) = List.replicate (4 * k - b.size) (u8 0) := by
    rw [show 4 + min (4 * k) b.size = min (4 * k) b.size + 4 by omega]
    show (List.replicate (4 * k) (u8 0)).drop _ = _
    rw [List.drop_replicate]
    congr 1
    omega
  rw [e3]
  rfl
theorem jb_rep (k m : Nat) (hm : m = 4 * k + 4) : replZ m [u8 0] = u8 0 :: u8 0 :: u8 0 :: u8 0 :: List.replicate (4 * k) (u8 0) := by
  have h : ∀ n, replZ n [u8 0] = List.replicate n (u8 0) := by
    intro n
    unfold replZ
    induction n with
    | zero => rfl
    | succ n ih => rw [List.replicate_succ, List.flatten_cons, ih, List.replicate_succ]; rfl
  rw [h, hm]
  rfl
theorem jb_u8 (a0 a1 a2 a3 : Int) (k m : Nat) (b : ByteArray) (h0 : 0 ≤ a0 ∧ a0 ≤ 255) (h1 : 0 ≤ a1 ∧ a1 ≤ 255) (h2 : 0 ≤ a2 ∧ a2 ≤ 255) (h3 : 0 ≤ a3 ∧ a3 ≤ 255) : (List.take (m * 1) (List.drop 0 (u8 a0 :: u8 a1 :: u8 a2 :: u8 a3 :: jbY k b))).all isU8 = true := by
  rw [List.all_eq_true]
  intro x hx
  have hx := List.mem_of_mem_take hx
  rw [List.drop_zero] at hx
  have one : ∀ a : Int, 0 ≤ a ∧ a ≤ 255 → isU8 (u8 a) = true := fun a h => by simp [isU8]; omega
  rcases List.mem_cons.1 hx with rfl | hx
  · exact one _ h0
  rcases List.mem_cons.1 hx with rfl | hx
  · exact one _ h1
  rcases List.mem_cons.1 hx with rfl | hx
  · exact one _ h2
  rcases List.mem_cons.1 hx with rfl | hx
  · exact one _ h3
  unfold jbY at hx
  rcases List.mem_append.1 hx with hx | hx
  · have hx := List.mem_of_mem_take hx
    unfold bytesA at hx
    obtain ⟨y, _, rfl⟩ := List.mem_map.1 hx
    have := y.toNat_lt
    exact one _ (by omega)
  · rw [(List.mem_replicate.1 hx).2]
    exact one _ (by omega)
def jbM (m : Nat) (a0 a1 a2 a3 : Int) (k : Nat) (b : ByteArray) : ByteArray := strA (List.take (m * 1) (List.drop 0 (u8 a0 :: u8 a1 :: u8 a2 :: u8 a3 :: jbY k b)))
def lieC (c w f : Int) (b : ByteArray) : List AV := [u8 c, u8 w, u8 f, st b]
theorem jb_len1 (a0 a1 a2 a3 : AV) (k m : Nat) (b : ByteArray) (hm : m = 4 * k + 4) : (List.take (m * 1) (List.drop 0 (a0 :: a1 :: a2 :: a3 :: jbY k b))).length = m := by
  rw [List.drop_zero, List.length_take]
  simp only [List.length_cons, jbY_len]
  omega
theorem jb_ok0 (c w f p : Int) (b : ByteArray) (k : Nat) (hk : k ≤ 7) (hw : w.tmod 8 = k) (hf : f.tmod 2 = p) (hp : 0 ≤ p ∧ p ≤ 255) (hc : 0 ≤ c ∧ c ≤ 255) (hb : b.size ≤ 1000) (m : Nat) (hm : m = 4 * k + 4) : Pu 14 [i64 0, A (lieC c w f b)] (st (jbM m c p (k + 1 : Nat) 0 k b)) := by
  exact pure_of (hs := hint [((1,2), { val := some (u8 (k : Nat)) }), ((1,3), {val := some (i64 ((↑k : Int)))}), ((1,4), { val := some (i64 (k + 1 : Nat)) }), ((2,1), { val := some (i64 (m : Nat)) }), ((2,2), { sym := true, cells := some (u8 0 :: u8 0 :: u8 0 :: u8 0 :: List.replicate (4 * k) (u8 0)) }), ((3,7), { val := some (u8 p) }), ((3,9), { val := some (u8 (k + 1 : Nat)) }), ((3,10), {sym := true}), ((3,11), {sym := true}), ((3,12), {sym := true}), ((3,13), {sym := true}), ((3,14), {sym := true}), ((3,15), {sym := true}), ((6,1), {sym := true}), ((6,4), { sym := true, cells := some (u8 c :: u8 p :: u8 (k + 1 : Nat) :: u8 0 :: jbY k b) }), ((7,1), {sym := true})]) (ps := [u8 (w.tmod (8 : Int)) = u8 ((↑k : Int)), i64 (IntKind.i64.wrap (↑k : Int)) = i64 ((↑k : Int)), i64 (IntKind.i64.wrap ((↑k : Int) + (1 : Int))) = i64 ((↑(k + (1 : Nat)) : Int)), i64 (IntKind.i64.wrap ((4 : Int) * (↑(k + (1 : Nat)) : Int))) = i64 ((↑m : Int)), decide ((0 : Int) ≤ (↑m : Int) ∧ (↑m : Int) ≤ (↑m : Int) ∧ (↑m : Int) * (1 : Int) ≤ (140737488355328 : Int) ∧ (↑m : Int) ≤ (140737488355328 : Int)) = true, ((replZ (↑m : Int).toNat [AV.s (Value.int IntKind.u8 (0 : Int))]) : List AV) = (([u8 ((0 : Int)), u8 ((0 : Int)), u8 ((0 : Int)), u8 ((0 : Int))] : List AV) ++ List.replicate ((4 : Nat) * k) (AV.s (Value.int IntKind.u8 (0 : Int)))), u8 (f.tmod (2 : Int)) = u8 (p), u8 (IntKind.u8.wrap (↑(k + (1 : Nat)) : Int)) = u8 ((↑(k + (1 : Nat)) : Int)), decide ((0 : Int) ≤ (0 : Int) ∧ (0 : Int) < (↑(↑m : Int).toNat : Int)) = true, decide ((1 : Nat) ≤ (↑m : Int).toNat * (1 : Nat)) = true, true = true, decide ((0 : Int) ≤ (1 : Int) ∧ (1 : Int) < (↑(↑m : Int).toNat : Int)) = true, decide ((2 : Nat) ≤ (↑m : Int).toNat * (1 : Nat)) = true, true = true, decide ((0 : Int) ≤ (2 : Int) ∧ (2 : Int) < (↑(↑m : Int).toNat : Int)) = true, decide ((3 : Nat) ≤ (↑m : Int).toNat * (1 : Nat)) = true, true = true, (decide ((0 : Int) ≤ (4 : Int) ∧ (4 : Int) ≤ (↑(↑m : Int).toNat : Int) ∧ (↑(↑m : Int).toNat : Int) ≤ (↑(↑m : Int).toNat : Int) ∧ (↑(↑m : Int).toNat : Int) ≤ (↑(↑m : Int).toNat : Int)) && true) = true, decide ((4 : Nat) + ((↑(↑m : Int).toNat : Int) - (4 : Int)).toNat * (1 : Nat) ≤ (↑m : Int).toNat * (1 : Nat)) = true, true = true, decide ((bytesA b).length = b.size * (1 : Nat)) = true, ((splice (splice (splice (splice (AV.s (Value.int IntKind.u8 (0 : Int)) :: AV.s (Value.int IntKind.u8 (0 : Int)) :: AV.s (Value.int IntKind.u8 (0 : Int)) :: AV.s (Value.int IntKind.u8 (0 : Int)) :: List.replicate ((4 : Nat) * k) (AV.s (Value.int IntKind.u8 (0 : Int)))) (0 : Nat) [AV.s (Value.int IntKind.u8 c)]) (1 : Nat) [AV.s (Value.int IntKind.u8 p)]) (2 : Nat) [AV.s (Value.int IntKind.u8 (↑(k + (1 : Nat)) : Int))]) (4 : Nat) (List.take (min b.size ((↑(↑m : Int).toNat : Int) - (4 : Int)).toNat * (1 : Nat)) (bytesA b))) : List AV) = (([u8 (c), u8 (p), u8 ((↑(k + (1 : Nat)) : Int)), u8 ((0 : Int))] : List AV) ++ jbY k b), decide ((List.take ((↑m : Int).toNat * (1 : Nat)) (AV.s (Value.int IntKind.u8 c) :: AV.s (Value.int IntKind.u8 p) :: AV.s (Value.int IntKind.u8 (↑(k + (1 : Nat)) : Int)) :: AV.s (Value.int IntKind.u8 (0 : Int)) :: jbY k b)).length = (↑m : Int).toNat) = true, (List.take ((↑m : Int).toNat * (1 : Nat)) (AV.s (Value.int IntKind.u8 c) :: AV.s (Value.int IntKind.u8 p) :: AV.s (Value.int IntKind.u8 (↑(k + (1 : Nat)) : Int)) :: AV.s (Value.int IntKind.u8 (0 : Int)) :: jbY k b)).all isU8 = true]) (by kernel_rfl) ⟨(by exact intE hw), (intE (by exact wrap_i64 (by omega) (by omega))), (by exact intE ((wrap_i64 (by omega) (by omega)).trans (by omega))), (by exact intE ((wrap_i64 (by omega) (by omega)).trans (by omega))), (by (first | exact jb_rep k m hm | exact decide_t (by omega))), (by (first | exact jb_rep k m hm | exact decide_t (by omega))), (by exact intE hf), (by exact intE (wrap_u8 (by omega) (by omega))), (by exact decide_t (by omega)), (by exact decide_t (by omega)), rfl, (by exact decide_t (by omega)), (by exact decide_t (by omega)), rfl, (by exact decide_t (by omega)), (by exact decide_t (by omega)), rfl, (by (simp; omega)), (by (first | exact jb_spl _ _ _ _ k _ b (by omega) | exact decide_t (by omega) | exact decide_t (by simp [bytes_len]))), rfl, (by (first | exact jb_spl _ _ _ _ k _ b (by omega) | exact decide_t (by omega) | exact decide_t (by simp [bytes_len]))), (by (first | exact jb_spl _ _ _ _ k _ b (by omega) | exact decide_t (by omega) | exact decide_t (by simp [bytes_len]))), (by exact decide_t (jb_len1 _ _ _ _ k m b hm)), (by exact jb_u8 _ _ _ _ k m b (by omega) (by omega) (by omega) (by omega)), trivial⟩
theorem jb_ok1 (c w f p : Int) (b : ByteArray) (k : Nat) (hk : k ≤ 7) (hw : w.tmod 8 = k) (hf : f.tmod 2 = p) (hp : 0 ≤ p ∧ p ≤ 255) (hc : 0 ≤ c ∧ c ≤ 255) (hb : b.size ≤ 1000) (m : Nat) (hm : m = 4 * k + 4) : Pu 14 [i64 1, A (lieC c w f b)] (st (jbM m c p 0 (k + 1 : Nat) k b)) := by
  exact pure_of (hs := hint [((1,2), { val := some (u8 (k : Nat)) }), ((1,3), {val := some (i64 ((↑k : Int)))}), ((1,4), { val := some (i64 (k + 1 : Nat)) }), ((2,1), { val := some (i64 (m : Nat)) }), ((2,2), { sym := true, cells := some (u8 0 :: u8 0 :: u8 0 :: u8 0 :: List.replicate (4 * k) (u8 0)) }), ((3,7), { val := some (u8 p) }), ((3,9), { val := some (u8 (k + 1 : Nat)) }), ((3,10), {sym := true}), ((3,11), {sym := true}), ((3,12), {sym := true}), ((3,13), {sym := true}), ((3,14), {sym := true}), ((3,15), {sym := true}), ((5,3), { val := some (u8 (k + 1 : Nat)) }), ((5,4), {sym := true}), ((5,5), {sym := true}), ((5,6), {sym := true}), ((5,7), {sym := true}), ((6,1), {sym := true}), ((6,4), { sym := true, cells := some (u8 c :: u8 p :: u8 0 :: u8 (k + 1 : Nat) :: jbY k b) }), ((7,1), {sym := true})]) (ps := [u8 (w.tmod (8 : Int)) = u8 ((↑k : Int)), i64 (IntKind.i64.wrap (↑k : Int)) = i64 ((↑k : Int)), i64 (IntKind.i64.wrap ((↑k : Int) + (1 : Int))) = i64 ((↑(k + (1 : Nat)) : Int)), i64 (IntKind.i64.wrap ((4 : Int) * (↑(k + (1 : Nat)) : Int))) = i64 ((↑m : Int)), decide ((0 : Int) ≤ (↑m : Int) ∧ (↑m : Int) ≤ (↑m : Int) ∧ (↑m : Int) * (1 : Int) ≤ (140737488355328 : Int) ∧ (↑m : Int) ≤ (140737488355328 : Int)) = true, ((replZ (↑m : Int).toNat [AV.s (Value.int IntKind.u8 (0 : Int))]) : List AV) = (([u8 ((0 : Int)), u8 ((0 : Int)), u8 ((0 : Int)), u8 ((0 : Int))] : List AV) ++ List.replicate ((4 : Nat) * k) (AV.s (Value.int IntKind.u8 (0 : Int)))), u8 (f.tmod (2 : Int)) = u8 (p), u8 (IntKind.u8.wrap (↑(k + (1 : Nat)) : Int)) = u8 ((↑(k + (1 : Nat)) : Int)), decide ((0 : Int) ≤ (0 : Int) ∧ (0 : Int) < (↑(↑m : Int).toNat : Int)) = true, decide ((1 : Nat) ≤ (↑m : Int).toNat * (1 : Nat)) = true, true = true, decide ((0 : Int) ≤ (1 : Int) ∧ (1 : Int) < (↑(↑m : Int).toNat : Int)) = true, decide ((2 : Nat) ≤ (↑m : Int).toNat * (1 : Nat)) = true, true = true, decide ((0 : Int) ≤ (2 : Int) ∧ (2 : Int) < (↑(↑m : Int).toNat : Int)) = true, decide ((3 : Nat) ≤ (↑m : Int).toNat * (1 : Nat)) = true, true = true, u8 (IntKind.u8.wrap (↑(k + (1 : Nat)) : Int)) = u8 ((↑(k + (1 : Nat)) : Int)), decide ((0 : Int) ≤ (2 : Int) ∧ (2 : Int) < (↑(↑m : Int).toNat : Int)) = true, decide ((3 : Nat) ≤ (↑m : Int).toNat * (1 : Nat)) = true, true = true, decide ((0 : Int) ≤ (3 : Int) ∧ (3 : Int) < (↑(↑m : Int).toNat : Int)) = true, decide ((4 : Nat) ≤ (↑m : Int).toNat * (1 : Nat)) = true, true = true, (decide ((0 : Int) ≤ (4 : Int) ∧ (4 : Int) ≤ (↑(↑m : Int).toNat : Int) ∧ (↑(↑m : Int).toNat : Int) ≤ (↑(↑m : Int).toNat : Int) ∧ (↑(↑m : Int).toNat : Int) ≤ (↑(↑m : Int).toNat : Int)) && true) = true, decide ((4 : Nat) + ((↑(↑m : Int).toNat : Int) - (4 : Int)).toNat * (1 : Nat) ≤ (↑m : Int).toNat * (1 : Nat)) = true, true = true, decide ((bytesA b).length = b.size * (1 : Nat)) = true, ((splice (splice (splice (splice (splice (splice (AV.s (Value.int IntKind.u8 (0 : Int)) :: AV.s (Value.int IntKind.u8 (0 : Int)) :: AV.s (Value.int IntKind.u8 (0 : Int)) :: AV.s (Value.int IntKind.u8 (0 : Int)) :: List.replicate ((4 : Nat) * k) (AV.s (Value.int IntKind.u8 (0 : Int)))) (0 : Nat) [AV.s (Value.int IntKind.u8 c)]) (1 : Nat) [AV.s (Value.int IntKind.u8 p)]) (2 : Nat) [AV.s (Value.int IntKind.u8 (↑(k + (1 : Nat)) : Int))]) (2 : Nat) [AV.s (Value.int IntKind.u8 (0 : Int))]) (3 : Nat) [AV.s (Value.int IntKind.u8 (↑(k + (1 : Nat)) : Int))]) (4 : Nat) (List.take (min b.size ((↑(↑m : Int).toNat : Int) - (4 : Int)).toNat * (1 : Nat)) (bytesA b))) : List AV) = (([u8 (c), u8 (p), u8 ((0 : Int)), u8 ((↑(k + (1 : Nat)) : Int))] : List AV) ++ jbY k b), decide ((List.take ((↑m : Int).toNat * (1 : Nat)) (AV.s (Value.int IntKind.u8 c) :: AV.s (Value.int IntKind.u8 p) :: AV.s (Value.int IntKind.u8 (0 : Int)) :: AV.s (Value.int IntKind.u8 (↑(k + (1 : Nat)) : Int)) :: jbY k b)).length = (↑m : Int).toNat) = true, (List.take ((↑m : Int).toNat * (1 : Nat)) (AV.s (Value.int IntKind.u8 c) :: AV.s (Value.int IntKind.u8 p) :: AV.s (Value.int IntKind.u8 (0 : Int)) :: AV.s (Value.int IntKind.u8 (↑(k + (1 : Nat)) : Int)) :: jbY k b)).all isU8 = true]) (by kernel_rfl) ⟨(by exact intE hw), (intE (by exact wrap_i64 (by omega) (by omega))), (by exact intE ((wrap_i64 (by omega) (by omega)).trans (by omega))), (by exact intE ((wrap_i64 (by omega) (by omega)).trans (by omega))), (by (first | exact jb_rep k m hm | exact decide_t (by omega))), (by (first | exact jb_rep k m hm | exact decide_t (by omega))), (by exact intE hf), (by exact intE (wrap_u8 (by omega) (by omega))), (by exact decide_t (by omega)), (by exact decide_t (by omega)), rfl, (by exact decide_t (by omega)), (by exact decide_t (by omega)), rfl, (by exact decide_t (by omega)), (by exact decide_t (by omega)), rfl, (by exact intE (wrap_u8 (by omega) (by omega))), (by exact decide_t (by omega)), (by exact decide_t (by omega)), rfl, (by exact decide_t (by omega)), (by exact decide_t (by omega)), rfl, (by (simp; omega)), (by (first | exact jb_spl _ _ _ _ k _ b (by omega) | exact decide_t (by omega) | exact decide_t (by simp [bytes_len]))), rfl, (by (first | exact jb_spl _ _ _ _ k _ b (by omega) | exact decide_t (by omega) | exact decide_t (by simp [bytes_len]))), (by (first | exact jb_spl _ _ _ _ k _ b (by omega) | exact decide_t (by omega) | exact decide_t (by simp [bytes_len]))), (by exact decide_t (jb_len1 _ _ _ _ k m b hm)), (by exact jb_u8 _ _ _ _ k m b (by omega) (by omega) (by omega) (by omega)), trivial⟩
end Go.Proofs.YtcnlgdbmcdlknaaDoor.Fo
