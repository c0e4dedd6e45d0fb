/- Get, both: one answer. By the prover of this seat. -/
import Derived.Test.YtdcoomeagbjhlaaDoorBm
set_option linter.unusedVariables false
set_option linter.unusedSimpArgs false
set_option maxRecDepth 100000
set_option maxHeartbeats 4000000
namespace Go.Proofs.YtdcoomeagbjhlaaDoor.Ca
open Go.RowKit Go.Pm
open Go.Proofs.YtdcoomeagbjhlaaDoor.Or (G1 C1 Pu)
def readD (l : List ByteArray) (s : ByteArray) : ByteArray × Int :=
  if s.size = 0 then (⟨#[]⟩, 13) else if byteN s 0 = 0 then (if s.size > 65537 then (⟨#[]⟩, 4) else (s.extract 1 s.size, 0))
  else if byteN s 0 = 1 then (if ¬ s.size = 2 then (⟨#[]⟩, 2) else if ¬ byteN s 1 < l.length then (⟨#[]⟩, 6) else (nth l (byteN s 1), 0))
  else if byteN s 0 = 2 then (if s.size = 1 then (⟨#[]⟩, 3) else if ¬ byteN s 1 < l.length then (⟨#[]⟩, 6) else changeD (nth l (byteN s 1)) (s.extract 2 s.size))
  else (⟨#[]⟩, 10)
def readA (r : ByteArray × Int) : AV := .tup [st r.1, i64 r.2]
theorem read_e (m : Int) (l : List ByteArray) : Pu 40 [cacheA m l, st ⟨#[]⟩] (readA (⟨#[]⟩, 13)) := by
  exact pure_of (hs := hint []) (ps := []) (by kernel_rfl) trivial
theorem read_0a (m : Int) (l : List ByteArray) (s : ByteArray) (h0 : ¬ s = ⟨#[]⟩) (hz : 0 < s.size) (hs : s.size ≤ 1000000) (hl : l.length ≤ 1000) (hc : ((s.data.toList.getD 0 0).toNat : Int) = 0) (hb : s.size > 65537) : Pu 40 [cacheA m l, st s] (readA (⟨#[]⟩, 4)) := by
  exact pure_of (hs := hint [((1,1), {val := some (bl (false))}), ((3,1), { sym := true, val := some (u8 0) }), ((5,2), {val := some (i64 ((↑s.size : Int) - (1 : Int)))}), ((5,3), {val := some (bl (true))})]) (ps := [bl (s.toList == { data := #[] : ByteArray }.toList) = bl (false), decide ((0 : Int) ≤ (0 : Int) ∧ (0 : Int) < (↑s.size : Int)) = true, u8 ((↑(s.data.toList.getD (0 : Nat) (0 : UInt8)).toNat : Int)) = u8 ((0 : Int)), i64 (IntKind.i64.wrap ((↑s.size : Int) - (1 : Int))) = i64 ((↑s.size : Int) - (1 : Int)), bl (decide ((↑s.size : Int) - (1 : Int) > (65536 : Int))) = bl (true)]) (by kernel_rfl) ⟨(bsF (by assumption)), (by (first | exact intE hc | exact decide_t (by omega) | exact decide_t ⟨by omega, by omega⟩)), (by (first | exact intE hc | exact decide_t (by omega) | exact decide_t ⟨by omega, by omega⟩)), (intE (by exact wrap_i64 (by omega) (by omega))), (bdT (by omega)), trivial⟩
theorem read_0b (m : Int) (l : List ByteArray) (s : ByteArray) (h0 : ¬ s = ⟨#[]⟩) (hz : 0 < s.size) (hs : s.size ≤ 1000000) (hl : l.length ≤ 1000) (hc : ((s.data.toList.getD 0 0).toNat : Int) = 0) (hb : ¬ s.size > 65537) (hC : Pu 37 [st (s.extract 1 s.size)] (st (s.extract 1 s.size))) : Pu 40 [cacheA m l, st s] (readA (s.extract 1 s.size, 0)) := by
  exact pure_of (hs := hint [((1,1), {val := some (bl (false))}), ((3,1), { sym := true, val := some (u8 0) }), ((5,2), {val := some (i64 ((↑s.size : Int) - (1 : Int)))}), ((5,3), {val := some (bl (false))}), ((7,1), {sym := true}), ((7,2), {call := some ((st (s.extract (1 : Nat) s.size)))})]) (ps := [bl (s.toList == { data := #[] : ByteArray }.toList) = bl (false), decide ((0 : Int) ≤ (0 : Int) ∧ (0 : Int) < (↑s.size : Int)) = true, u8 ((↑(s.data.toList.getD (0 : Nat) (0 : UInt8)).toNat : Int)) = u8 ((0 : Int)), i64 (IntKind.i64.wrap ((↑s.size : Int) - (1 : Int))) = i64 ((↑s.size : Int) - (1 : Int)), bl (decide ((↑s.size : Int) - (1 : Int) > (65536 : Int))) = bl (false), (decide ((0 : Int) ≤ (1 : Int) ∧ (1 : Int) ≤ (↑s.size : Int) ∧ (↑s.size : Int) ≤ (↑s.size : Int) ∧ (↑s.size : Int) ≤ (↑s.size : Int)) && true) = true, _]) (by kernel_rfl) ⟨(bsF (by assumption)), (by (first | exact intE hc | exact decide_t (by omega) | exact decide_t ⟨by omega, by omega⟩)), (by (first | exact intE hc | exact decide_t (by omega) | exact decide_t ⟨by omega, by omega⟩)), (intE (by exact wrap_i64 (by omega) (by omega))), (bdF (by omega)), (by (simp; omega)), (hC), trivial⟩
theorem read_1a (m : Int) (l : List ByteArray) (s : ByteArray) (h0 : ¬ s = ⟨#[]⟩) (hz : 0 < s.size) (hs : s.size ≤ 1000000) (hl : l.length ≤ 1000) (hc : ((s.data.toList.getD 0 0).toNat : Int) = 1) (hb : ¬ s.size = 2) : Pu 40 [cacheA m l, st s] (readA (⟨#[]⟩, 2)) := by
  exact pure_of (hs := hint [((1,1), {val := some (bl (false))}), ((3,1), { sym := true, val := some (u8 1) }), ((9,2), {val := some (bl (true))})]) (ps := [bl (s.toList == { data := #[] : ByteArray }.toList) = bl (false), decide ((0 : Int) ≤ (0 : Int) ∧ (0 : Int) < (↑s.size : Int)) = true, u8 ((↑(s.data.toList.getD (0 : Nat) (0 : UInt8)).toNat : Int)) = u8 ((1 : Int)), bl ((↑s.size : Int) != (2 : Int)) = bl (true)]) (by kernel_rfl) ⟨(bsF (by assumption)), (by (first | exact intE hc | exact decide_t (by omega) | exact decide_t ⟨by omega, by omega⟩)), (by (first | exact intE hc | exact decide_t (by omega) | exact decide_t ⟨by omega, by omega⟩)), (neF (by omega)), trivial⟩
theorem read_1b (m : Int) (l : List ByteArray) (s : ByteArray) (h0 : ¬ s = ⟨#[]⟩) (hz : 0 < s.size) (hs : s.size ≤ 1000000) (hl : l.length ≤ 1000) (hc : ((s.data.toList.getD 0 0).toNat : Int) = 1) (hb : s.size = 2) (k : Nat) (h1 : ((s.data.toList.getD 1 0).toNat : Int) = (k : Int)) (hk : k ≤ 255) (h2 : ¬ k < l.length) : Pu 40 [cacheA m l, st s] (readA (⟨#[]⟩, 6)) := by
  exact pure_of (hs := hint [((1,1), {val := some (bl (false))}), ((3,1), { sym := true, val := some (u8 1) }), ((9,2), {val := some (bl (false))}), ((11,1), { sym := true, val := some (u8 k) }), ((11,2), {val := some (i64 ((↑k : Int)))}), ((11,6), {val := some (bl (true))})]) (ps := [bl (s.toList == { data := #[] : ByteArray }.toList) = bl (false), decide ((0 : Int) ≤ (0 : Int) ∧ (0 : Int) < (↑s.size : Int)) = true, u8 ((↑(s.data.toList.getD (0 : Nat) (0 : UInt8)).toNat : Int)) = u8 ((1 : Int)), bl ((↑s.size : Int) != (2 : Int)) = bl (false), decide ((0 : Int) ≤ (1 : Int) ∧ (1 : Int) < (↑s.size : Int)) = true, u8 ((↑(s.data.toList.getD (1 : Nat) (0 : UInt8)).toNat : Int)) = u8 ((↑k : Int)), i64 (IntKind.i64.wrap (↑k : Int)) = i64 ((↑k : Int)), bl (decide ((↑k : Int) ≥ (↑l.length : Int))) = bl (true)]) (by kernel_rfl) ⟨(bsF (by assumption)), (by (first | exact intE hc | exact decide_t (by omega) | exact decide_t ⟨by omega, by omega⟩)), (by (first | exact intE hc | exact decide_t (by omega) | exact decide_t ⟨by omega, by omega⟩)), (neT (by omega)), (by (first | exact intE h1 | exact decide_t (by omega) | exact decide_t ⟨by omega, by omega⟩)), (by (first | exact intE h1 | exact decide_t (by omega) | exact decide_t ⟨by omega, by omega⟩)), (intE (by exact wrap_i64 (by omega) (by omega))), (bdT (by omega)), trivial⟩
theorem read_1c (m : Int) (l : List ByteArray) (s : ByteArray) (h0 : ¬ s = ⟨#[]⟩) (hz : 0 < s.size) (hs : s.size ≤ 1000000) (hl : l.length ≤ 1000) (hc : ((s.data.toList.getD 0 0).toNat : Int) = 1) (hb : s.size = 2) (k : Nat) (h1 : ((s.data.toList.getD 1 0).toNat : Int) = (k : Int)) (hk : k ≤ 255) (h2 : k < l.length) : Pu 40 [cacheA m l, st s] (readA (nth l k, 0)) := by
  exact pure_of (hs := hint [((1,1), {val := some (bl (false))}), ((3,1), { sym := true, val := some (u8 1) }), ((9,2), {val := some (bl (false))}), ((11,1), { sym := true, val := some (u8 k) }), ((11,2), {val := some (i64 ((↑k : Int)))}), ((11,6), {val := some (bl (false))}), ((13,3), { sym := true, val := some (u8 k) }), ((13,4), {cells := some (eS (nth l k) ++ List.flatMap eS (List.drop (k + (1 : Nat)) l)), sym := true})]) (ps := [bl (s.toList == { data := #[] : ByteArray }.toList) = bl (false), decide ((0 : Int) ≤ (0 : Int) ∧ (0 : Int) < (↑s.size : Int)) = true, u8 ((↑(s.data.toList.getD (0 : Nat) (0 : UInt8)).toNat : Int)) = u8 ((1 : Int)), bl ((↑s.size : Int) != (2 : Int)) = bl (false), decide ((0 : Int) ≤ (1 : Int) ∧ (1 : Int) < (↑s.size : Int)) = true, u8 ((↑(s.data.toList.getD (1 : Nat) (0 : UInt8)).toNat : Int)) = u8 ((↑k : Int)), i64 (IntKind.i64.wrap (↑k : Int)) = i64 ((↑k : Int)), bl (decide ((↑k : Int) ≥ (↑l.length : Int))) = bl (false), decide ((0 : Int) ≤ (1 : Int) ∧ (1 : Int) < (↑s.size : Int)) = true, u8 ((↑(s.data.toList.getD (1 : Nat) (0 : UInt8)).toNat : Int)) = u8 ((↑k : Int)), decide ((0 : Int) ≤ (↑k : Int) ∧ (↑k : Int) < (↑l.length : Int)) = true, ((List.drop ((↑k : Int).toNat * (1 : Nat)) (List.flatMap eS l)) : List AV) = (eS (nth l k) ++ List.flatMap eS (List.drop (k + (1 : Nat)) l))]) (by kernel_rfl) ⟨(bsF (by assumption)), (by (first | exact intE hc | exact decide_t (by omega) | exact decide_t ⟨by omega, by omega⟩)), (by (first | exact intE hc | exact decide_t (by omega) | exact decide_t ⟨by omega, by omega⟩)), (neT (by omega)), (by (first | exact intE h1 | exact decide_t (by omega) | exact decide_t ⟨by omega, by omega⟩)), (by (first | exact intE h1 | exact decide_t (by omega) | exact decide_t ⟨by omega, by omega⟩)), (intE (by exact wrap_i64 (by omega) (by omega))), (bdF (by omega)), (by (first | exact intE h1 | exact decide_t (by omega) | exact decide_t ⟨by omega, by omega⟩)), (by (first | exact intE h1 | exact decide_t (by omega) | exact decide_t ⟨by omega, by omega⟩)), (by exact decide_t (by omega)), (by exact flat_nth (sz := 1) (k := k) (fun _ => rfl) (by omega)), trivial⟩
theorem read_2a (m : Int) (l : List ByteArray) (s : ByteArray) (h0 : ¬ s = ⟨#[]⟩) (hz : 0 < s.size) (hs : s.size ≤ 1000000) (hl : l.length ≤ 1000) (hc : ((s.data.toList.getD 0 0).toNat : Int) = 2) (hb : s.size = 1) : Pu 40 [cacheA m l, st s] (readA (⟨#[]⟩, 3)) := by
  exact pure_of (hs := hint [((1,1), {val := some (bl (false))}), ((3,1), { sym := true, val := some (u8 2) }), ((15,2), {val := some (bl (true))})]) (ps := [bl (s.toList == { data := #[] : ByteArray }.toList) = bl (false), decide ((0 : Int) ≤ (0 : Int) ∧ (0 : Int) < (↑s.size : Int)) = true, u8 ((↑(s.data.toList.getD (0 : Nat) (0 : UInt8)).toNat : Int)) = u8 ((2 : Int)), bl ((↑s.size : Int) == (1 : Int)) = bl (true)]) (by kernel_rfl) ⟨(bsF (by assumption)), (by (first | exact intE hc | exact decide_t (by omega) | exact decide_t ⟨by omega, by omega⟩)), (by (first | exact intE hc | exact decide_t (by omega) | exact decide_t ⟨by omega, by omega⟩)), (beT (by omega)), trivial⟩
theorem read_2b (m : Int) (l : List ByteArray) (s : ByteArray) (h0 : ¬ s = ⟨#[]⟩) (hz : 0 < s.size) (hs : s.size ≤ 1000000) (hl : l.length ≤ 1000) (hc : ((s.data.toList.getD 0 0).toNat : Int) = 2) (hb : ¬ s.size = 1) (k : Nat) (h1 : ((s.data.toList.getD 1 0).toNat : Int) = (k : Int)) (hk : k ≤ 255) (h2 : ¬ k < l.length) : Pu 40 [cacheA m l, st s] (readA (⟨#[]⟩, 6)) := by
  exact pure_of (hs := hint [((1,1), {val := some (bl (false))}), ((3,1), { sym := true, val := some (u8 2) }), ((15,2), {val := some (bl (false))}), ((17,1), { sym := true, val := some (u8 k) }), ((17,2), {val := some (i64 ((↑k : Int)))}), ((17,6), {val := some (bl (true))})]) (ps := [bl (s.toList == { data := #[] : ByteArray }.toList) = bl (false), decide ((0 : Int) ≤ (0 : Int) ∧ (0 : Int) < (↑s.size : Int)) = true, u8 ((↑(s.data.toList.getD (0 : Nat) (0 : UInt8)).toNat : Int)) = u8 ((2 : Int)), bl ((↑s.size : Int) == (1 : Int)) = bl (false), decide ((0 : Int) ≤ (1 : Int) ∧ (1 : Int) < (↑s.size : Int)) = true, u8 ((↑(s.data.toList.getD (1 : Nat) (0 : UInt8)).toNat : Int)) = u8 ((↑k : Int)), i64 (IntKind.i64.wrap (↑k : Int)) = i64 ((↑k : Int)), bl (decide ((↑k : Int) ≥ (↑l.length : Int))) = bl (true)]) (by kernel_rfl) ⟨(bsF (by assumption)), (by (first | exact intE hc | exact decide_t (by omega) | exact decide_t ⟨by omega, by omega⟩)), (by (first | exact intE hc | exact decide_t (by omega) | exact decide_t ⟨by omega, by omega⟩)), (beF (by omega)), (by (first | exact intE h1 | exact decide_t (by omega) | exact decide_t ⟨by omega, by omega⟩)), (by (first | exact intE h1 | exact decide_t (by omega) | exact decide_t ⟨by omega, by omega⟩)), (intE (by exact wrap_i64 (by omega) (by omega))), (bdT (by omega)), trivial⟩
theorem read_2c (m : Int) (l : List ByteArray) (s : ByteArray) (h0 : ¬ s = ⟨#[]⟩) (hz : 0 < s.size) (hs : s.size ≤ 1000000) (hl : l.length ≤ 1000) (hc : ((s.data.toList.getD 0 0).toNat : Int) = 2) (hb : ¬ s.size = 1) (k : Nat) (h1 : ((s.data.toList.getD 1 0).toNat : Int) = (k : Int)) (hk : k ≤ 255) (h2 : k < l.length) (r : ByteArray) (e : Int) (hC : Pu 43 [st (nth l k), st (s.extract 2 s.size)] (.tup [st r, i64 e])) : Pu 40 [cacheA m l, st s] (readA (r, e)) := by
  exact pure_of (hs := hint [((1,1), {val := some (bl (false))}), ((3,1), { sym := true, val := some (u8 2) }), ((15,2), {val := some (bl (false))}), ((17,1), { sym := true, val := some (u8 k) }), ((17,2), {val := some (i64 ((↑k : Int)))}), ((17,6), {val := some (bl (false))}), ((19,3), { sym := true, val := some (u8 k) }), ((19,4), {cells := some (eS (nth l k) ++ List.flatMap eS (List.drop (k + (1 : Nat)) l)), sym := true}), ((19,7), {sym := true}), ((19,8), {call := some (AV.tup [(st r), (i64 e)])})]) (ps := [bl (s.toList == { data := #[] : ByteArray }.toList) = bl (false), decide ((0 : Int) ≤ (0 : Int) ∧ (0 : Int) < (↑s.size : Int)) = true, u8 ((↑(s.data.toList.getD (0 : Nat) (0 : UInt8)).toNat : Int)) = u8 ((2 : Int)), bl ((↑s.size : Int) == (1 : Int)) = bl (false), decide ((0 : Int) ≤ (1 : Int) ∧ (1 : Int) < (↑s.size : Int)) = true, u8 ((↑(s.data.toList.getD (1 : Nat) (0 : UInt8)).toNat : Int)) = u8 ((↑k : Int)), i64 (IntKind.i64.wrap (↑k : Int)) = i64 ((↑k : Int)), bl (decide ((↑k : Int) ≥ (↑l.length : Int))) = bl (false), decide ((0 : Int) ≤ (1 : Int) ∧ (1 : Int) < (↑s.size : Int)) = true, u8 ((↑(s.data.toList.getD (1 : Nat) (0 : UInt8)).toNat : Int)) = u8 ((↑k : Int)), decide ((0 : Int) ≤ (↑k : Int) ∧ (↑k : Int) < (↑l.length : Int)) = true, ((List.drop ((↑k : Int).toNat * (1 : Nat)) (List.flatMap eS l)) : List AV) = (eS (nth l k) ++ List.flatMap eS (List.drop (k + (1 : Nat)) l)), (decide ((0 : Int) ≤ (2 : Int) ∧ (2 : Int) ≤ (↑s.size : Int) ∧ (↑s.size : Int) ≤ (↑s.size : Int) ∧ (↑s.size : Int) ≤ (↑s.size : Int)) && true) = true, _]) (by kernel_rfl) ⟨(bsF (by assumption)), (by (first | exact intE hc | exact decide_t (by omega) | exact decide_t ⟨by omega, by omega⟩)), (by (first | exact intE hc | exact decide_t (by omega) | exact decide_t ⟨by omega, by omega⟩)), (beF (by omega)), (by (first | exact intE h1 | exact decide_t (by omega) | exact decide_t ⟨by omega, by omega⟩)), (by (first | exact intE h1 | exact decide_t (by omega) | exact decide_t ⟨by omega, by omega⟩)), (intE (by exact wrap_i64 (by omega) (by omega))), (bdF (by omega)), (by (first | exact intE h1 | exact decide_t (by omega) | exact decide_t ⟨by omega, by omega⟩)), (by (first | exact intE h1 | exact decide_t (by omega) | exact decide_t ⟨by omega, by omega⟩)), (by exact decide_t (by omega)), (by exact flat_nth (sz := 1) (k := k) (fun _ => rfl) (by omega)), (by (simp; omega)), (hC), trivial⟩
theorem read_3 (m : Int) (l : List ByteArray) (s : ByteArray) (h0 : ¬ s = ⟨#[]⟩) (hz : 0 < s.size) (hs : s.size ≤ 1000000) (hl : l.length ≤ 1000) (c : Int) (hc : ((s.data.toList.getD 0 0).toNat : Int) = c) (c0 : 2 < c) (c1 : c ≤ 255) : Pu 40 [cacheA m l, st s] (readA (⟨#[]⟩, 10)) := by
  exact pure_of (hs := hint [((1,1), {val := some (bl (false))}), ((3,1), { sym := true, val := some (u8 c) }), ((4,1), {val := some (bl (false))}), ((8,1), {val := some (bl (false))}), ((14,1), {val := some (bl (false))})]) (ps := [bl (s.toList == { data := #[] : ByteArray }.toList) = bl (false), decide ((0 : Int) ≤ (0 : Int) ∧ (0 : Int) < (↑s.size : Int)) = true, u8 ((↑(s.data.toList.getD (0 : Nat) (0 : UInt8)).toNat : Int)) = u8 (c), bl (c == (0 : Int)) = bl (false), bl (c == (1 : Int)) = bl (false), bl (c == (2 : Int)) = bl (false)]) (by kernel_rfl) ⟨(bsF (by assumption)), (by (first | exact intE hc | exact decide_t (by omega) | exact decide_t ⟨by omega, by omega⟩)), (by (first | exact intE hc | exact decide_t (by omega) | exact decide_t ⟨by omega, by omega⟩)), (beF (by omega)), (beF (by omega)), (beF (by omega)), trivial⟩
theorem ba_empty {s : ByteArray} (h : s.size = 0) : s = ⟨#[]⟩ := ByteArray.ext (Array.eq_empty_of_size_eq_zero h)
theorem read_ok (m : Int) (l : List ByteArray) (s : ByteArray) (hs : s.size ≤ 1000000) (hl : l.length ≤ 1000) (hk : ∀ x ∈ l, x.size ≤ 1000000) : Pu 40 [cacheA m l, st s] (readA (readD l s)) := by
  unfold readD
  by_cases hz : s.size = 0
  · rw [if_pos hz, ba_empty hz]
    exact read_e m l
  rw [if_neg hz]
  have h0 : ¬ s = ⟨#[]⟩ := fun q => hz (by rw [q]; rfl)
  have hc : ((s.data.toList.getD 0 0).toNat : Int) = (byteN s 0 : Int) := rfl
  have h1 : ((s.data.toList.getD 1 0).toNat : Int) = (byteN s 1 : Int) := rfl
  have b0 := byteN_lt s 0
  have b1 := byteN_lt s 1
  have z : 0 < s.size := by omega
  by_cases c0 : byteN s 0 = 0
  · rw [if_pos c0]
    rw [c0] at hc
    by_cases hb : s.size > 65537
    · rw [if_pos hb]; exact read_0a m l s h0 z hs hl hc hb
    · rw [if_neg hb]; exact read_0b m l s h0 z hs hl hc hb (clone_ok _ (by rw [ByteArray.size_extract]; omega))
  rw [if_neg c0]
  by_cases c1 : byteN s 0 = 1
  · rw [if_pos c1]
    rw [c1] at hc
    by_cases hb : s.size = 2
    · rw [if_neg (fun q => q hb)]
      by_cases h2 : byteN s 1 < l.length
      · rw [if_neg (fun q => q h2)]; exact read_1c m l s h0 z hs hl hc hb _ h1 b1 h2
      · rw [if_pos h2]; exact read_1b m l s h0 z hs hl hc hb _ h1 b1 h2
    · rw [if_pos hb]; exact read_1a m l s h0 z hs hl hc hb
  rw [if_neg c1]
  by_cases c2 : byteN s 0 = 2
  · rw [if_pos c2]
    rw [c2] at hc
    by_cases hb : s.size = 1
    · rw [if_pos hb]; exact read_2a m l s h0 z hs hl hc hb
    · rw [if_neg hb]
      by_cases h2 : byteN s 1 < l.length
      · rw [if_neg (fun q => q h2)]
        exact read_2c m l s h0 z hs hl hc hb _ h1 b1 h2 _ _ (changed_ok _ _ (hk _ (nth_mem h2)) (by rw [ByteArray.size_extract]; omega))
      · rw [if_pos h2]; exact read_2b m l s h0 z hs hl hc hb _ h1 b1 h2
  rw [if_neg c2]
  exact read_3 m l s h0 z hs hl _ hc (by omega) (by omega)
def getD (m : Nat) (l : List ByteArray) (s : ByteArray) : List ByteArray × ByteArray × Int :=
  if m = 0 then (l, ⟨#[]⟩, 9) else if ¬ (readD l s).2 = 0 then (l, ⟨#[]⟩, (readD l s).2) else (withD m l (readD l s).1, (readD l s).1, 0)
theorem get_1 (l : List ByteArray) (s : ByteArray) : Pu 25 [cacheA 0 l, st s] (outP 0 l ⟨#[]⟩ 9) := by
  exact pure_of (hs := hint []) (ps := []) (by kernel_rfl) trivial
theorem get_2 (m : Int) (l : List ByteArray) (s r : ByteArray) (e : Int) (hm : m ≠ 0) (he : e ≠ 0) (hR : Pu 40 [cacheA m l, st s] (.tup [st r, i64 e])) : Pu 25 [cacheA m l, st s] (outP m l ⟨#[]⟩ e) := by
  exact pure_of (hs := hint [((1,2), {val := some (bl (false))}), ((3,2), {call := some (AV.tup [(st r), (i64 e)])}), ((4,1), {val := some (bl (true))})]) (ps := [bl (m == (0 : Int)) = bl (false), _, bl (e != (0 : Int)) = bl (true)]) (by kernel_rfl) ⟨(beF (by assumption)), (hR), (neF (by assumption)), trivial⟩
theorem get_3 (m : Int) (l l' : List ByteArray) (s r : ByteArray) (hm : m ≠ 0) (hR : Pu 40 [cacheA m l, st s] (.tup [st r, i64 0])) (hW : Pu 26 [cacheA m l, st r] (cacheA m l')) : Pu 25 [cacheA m l, st s] (outP m l' r 0) := by
  exact pure_of (hs := hint [((1,2), {val := some (bl (false))}), ((3,2), {call := some (AV.tup [(st r), (i64 (0 : Int))])}), ((6,2), {call := some ((cacheA m l'))})]) (ps := [bl (m == (0 : Int)) = bl (false), _, _]) (by kernel_rfl) ⟨(beF (by assumption)), (hR), (hW), trivial⟩
theorem get_ok (m : Nat) (l : List ByteArray) (s : ByteArray) (h : COk m l) (hs : s.size ≤ 1000000) (hk : ∀ x ∈ l, x.size ≤ 1000000) : Pu 25 [cacheA m l, st s] (outP m (getD m l s).1 (getD m l s).2.1 (getD m l s).2.2) := by
  have h1 := h.len
  have h2 := h.top
  unfold getD
  by_cases hm : m = 0
  · rw [if_pos hm]
    subst hm
    exact get_1 l s
  rw [if_neg hm]
  have hR := read_ok m l s hs (by omega) hk
  unfold readA at hR
  generalize readD l s = r at hR ⊢
  by_cases he : r.2 = 0
  · rw [if_neg (fun q => q he)]
    rw [he] at hR
    exact get_3 m l _ s r.1 (by omega) hR (with_ok m l r.1 h.nd (by omega) (by omega) (by omega))
  · rw [if_pos he]
    exact get_2 m l s r.1 r.2 (by omega) he hR
/-! the document's -/
end Go.Proofs.YtdcoomeagbjhlaaDoor.Ca
