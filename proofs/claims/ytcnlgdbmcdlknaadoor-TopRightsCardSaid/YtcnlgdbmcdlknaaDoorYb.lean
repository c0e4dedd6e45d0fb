/- A line's form. By the prover of this seat. -/
import Derived.Test.YtcnlgdbmcdlknaaDoorYa
set_option linter.unusedVariables false
set_option linter.unusedSimpArgs false
set_option maxRecDepth 100000
set_option maxHeartbeats 4000000
namespace Go.Proofs.YtcnlgdbmcdlknaaDoor
open Go.RowKit Go.Pm
def charsB : ByteArray := "-0123456789".toUTF8
def ascL (l : List UInt8) : Prop := ∀ (j : Nat) b, l[j]? = some b → b.toNat < 128
theorem chars_asc : ascL charsB.data.toList := by
  have h : charsB.data.toList.all (fun b => decide (b.toNat < 128)) = true := by decide
  intro j b hb
  simpa using List.all_eq_true.1 h b (List.mem_of_getElem? hb)
def atD (l : List UInt8) : Int := Lib.indexAny l charsB.data.toList
/-- a field's size, from its last byte -/
def lastD (l : List UInt8) : Int := IntKind.u8.wrap (((l.getD (l.length - 1) 0).toNat : Int) - 48)
def splitD (l : List UInt8) : List UInt8 × Int :=
  if atD l < 0 then (l, 0) else (l.take (atD l).toNat, if l.getD (atD l).toNat 0 = 45 then - lastD l else lastD l)
theorem at_lt : ∀ (l cs : List UInt8), Lib.indexAny l cs < l.length ∨ (l = [] ∧ Lib.indexAny l cs = -1)
  | [], _ => .inr ⟨rfl, rfl⟩
  | b :: l, cs => by
    have ih := at_lt l cs
    unfold Lib.indexAny
    rw [List.length_cons]
    split
    · omega
    · split
      · omega
      · rename_i h
        have : ¬ Lib.indexAny l cs = -1 := by simpa using h
        omega
theorem last_rng (l : List UInt8) : 0 ≤ lastD l ∧ lastD l ≤ 255 := by
  unfold lastD
  rw [wrap_u8_mod]
  omega
theorem bsize (l : List UInt8) : (ByteArray.mk l.toArray).size = l.length := by show l.toArray.size = _; simp
theorem ext_take (l : List UInt8) (k : Nat) : (ByteArray.mk l.toArray).extract 0 k = ⟨(l.take k).toArray⟩ := by
  apply ByteArray.ext
  rw [ByteArray.data_extract]
  simp
abbrev bL (l : List UInt8) : ByteArray := ⟨l.toArray⟩
theorem any_l (l : List UInt8) (hl : l.length ≤ 1000) (ha : ascL l) : PS 62 [st (bL l), st charsB] (i64 (atD l)) := any_ok (bL l) charsB (by rw [bsize]; exact hl) (by decide) ha chars_asc
theorem split_no (l : List UInt8) (hl : l.length ≤ 1000) (ha : ascL l) (h : atD l < 0) : PS 47 [st (bL l)] (.tup [st (bL (splitD l).1), i64 (splitD l).2]) := by
  have q := any_l l hl ha
  rw [show splitD l = (l, 0) from if_pos h]
  unfold charsB at q
  exact pure_of (hs := hint [((1,1), {call := some ((i64 (atD l)))}), ((2,1), {val := some (bl (true))})]) (ps := [_, bl (decide (atD l < (0 : Int))) = bl (true)]) (by kernel_rfl) ⟨(q), (bdT (by assumption)), trivial⟩
theorem split_neg (l : List UInt8) (hl : l.length ≤ 1000) (ha : ascL l) (n : Nat) (h : atD l = n) (hn : n < l.length) (hx : l.getD n 0 = 45) : PS 47 [st (bL l)] (.tup [st (bL (splitD l).1), i64 (splitD l).2]) := by
  have q := any_l l hl ha
  have hb : (bL l).size = l.length := bsize l
  have hr := last_rng l
  rw [show splitD l = (l.take n, - lastD l) by unfold splitD; rw [if_neg (by omega), h, Int.toNat_natCast, if_pos hx]]
  rw [h] at q
  unfold charsB at q
  have e1 : (bL l).extract (0 : Int).toNat (n : Int).toNat = bL (l.take n) := ext_take l n
  exact pure_cast (pure_of (hs := hint [((1,1), {call := some ((i64 (↑n : Int)))}), ((4,3), {val := some (i64 ((↑(bL l).size : Int) - (1 : Int)))}), ((4,4), { sym := true, val := some (.s (.int .u8 ((l.getD (l.length - 1) 0).toNat : Int))) }), ((4,5), {val := some (u8 (((↑(l.getD (l.length - (1 : Nat)) (0 : UInt8)).toNat : Int) - (48 : Int)) % (256 : Int)))}), ((4,6), { val := some (i64 (lastD l)) }), ((5,2), { sym := true, val := some (u8 45) }), ((6,1), {val := some (i64 ((0 : Int) - lastD l))}), ((7,2), { sym := true, val := some (st (bL (l.take n))) })]) (r := AV.tup [st (bL (List.take n l)), i64 ((0 : Int) - lastD l)]) (ps := [_, i64 (IntKind.i64.wrap ((↑(bL l).size : Int) - (1 : Int))) = i64 ((↑(bL l).size : Int) - (1 : Int)), decide ((0 : Int) ≤ (↑(bL l).size : Int) - (1 : Int) ∧ (↑(bL l).size : Int) - (1 : Int) < (↑(bL l).size : Int)) = true, u8 ((↑(l.getD ((↑(bL l).size : Int) - (1 : Int)).toNat (0 : UInt8)).toNat : Int)) = u8 ((↑(l.getD (l.length - (1 : Nat)) (0 : UInt8)).toNat : Int)), u8 (IntKind.u8.wrap ((↑(l.getD (l.length - (1 : Nat)) (0 : UInt8)).toNat : Int) - (48 : Int))) = u8 (((↑(l.getD (l.length - (1 : Nat)) (0 : UInt8)).toNat : Int) - (48 : Int)) % (256 : Int)), i64 (IntKind.i64.wrap (((↑(l.getD (l.length - (1 : Nat)) (0 : UInt8)).toNat : Int) - (48 : Int)) % (256 : Int))) = i64 (lastD l), decide ((0 : Int) ≤ (↑n : Int) ∧ (↑n : Int) < (↑(bL l).size : Int)) = true, u8 ((↑(l.getD (↑n : Int).toNat (0 : UInt8)).toNat : Int)) = u8 ((45 : Int)), i64 (IntKind.i64.wrap ((0 : Int) - lastD l)) = i64 ((0 : Int) - lastD l), (decide ((0 : Int) ≤ (0 : Int) ∧ (0 : Int) ≤ (↑n : Int) ∧ (↑n : Int) ≤ (↑(bL l).size : Int) ∧ (↑(bL l).size : Int) ≤ (↑(bL l).size : Int)) && true) = true, st ((bL l).extract (0 : Nat) (↑n : Int).toNat) = st (bL (List.take n l))]) (by kernel_rfl) ⟨(q), (intE (by exact wrap_i64 (by omega) (by omega))), (by (first | exact decide_t (by omega) | (rw [hb, show ((l.length : Int) - 1).toNat = l.length - 1 by omega]))), (by (first | exact decide_t (by omega) | (rw [hb, show ((l.length : Int) - 1).toNat = l.length - 1 by omega]))), (intE (wrap_u8_mod _)), (by (first | exact decide_t (by omega) | rfl | exact intE (wrap_i64 (by omega) (by omega)))), (by (first | exact decide_t (by omega) | (exact intE (by rw [Int.toNat_natCast, hx]; rfl)))), (by (first | exact decide_t (by omega) | (exact intE (by rw [Int.toNat_natCast, hx]; rfl)))), (intE (by exact wrap_i64 (by omega) (by omega))), (by (first | exact decide_t (by omega) | (rw [Bool.and_true]; exact decide_t ⟨by omega, by omega, by omega, by omega⟩) | exact congrArg (fun x => st x) e1)), (by (first | exact decide_t (by omega) | (rw [Bool.and_true]; exact decide_t ⟨by omega, by omega, by omega, by omega⟩) | exact congrArg (fun x => st x) e1)), trivial⟩) (by (simp; done))
theorem split_pos (l : List UInt8) (hl : l.length ≤ 1000) (ha : ascL l) (n : Nat) (h : atD l = n) (hn : n < l.length) (y : Int) (hy : ((l.getD n 0).toNat : Int) = y) (hx : ¬ y = 45) : PS 47 [st (bL l)] (.tup [st (bL (splitD l).1), i64 (splitD l).2]) := by
  have q := any_l l hl ha
  have hb : (bL l).size = l.length := bsize l
  have hr := last_rng l
  have hx' : ¬ l.getD n 0 = 45 := fun e => hx (by rw [← hy, e]; rfl)
  rw [show splitD l = (l.take n, lastD l) by unfold splitD; rw [if_neg (by omega), h, Int.toNat_natCast, if_neg hx']]
  rw [h] at q
  unfold charsB at q
  have e1 : (bL l).extract (0 : Int).toNat (n : Int).toNat = bL (l.take n) := ext_take l n
  exact pure_of (hs := hint [((1,1), {call := some ((i64 (↑n : Int)))}), ((4,3), {val := some (i64 ((↑(bL l).size : Int) - (1 : Int)))}), ((4,4), { sym := true, val := some (.s (.int .u8 ((l.getD (l.length - 1) 0).toNat : Int))) }), ((4,5), {val := some (u8 (((↑(l.getD (l.length - (1 : Nat)) (0 : UInt8)).toNat : Int) - (48 : Int)) % (256 : Int)))}), ((4,6), { val := some (i64 (lastD l)) }), ((5,2), { sym := true, val := some (u8 y) }), ((5,3), {val := some (bl (false))}), ((7,2), { sym := true, val := some (st (bL (l.take n))) })]) (ps := [_, i64 (IntKind.i64.wrap ((↑(bL l).size : Int) - (1 : Int))) = i64 ((↑(bL l).size : Int) - (1 : Int)), decide ((0 : Int) ≤ (↑(bL l).size : Int) - (1 : Int) ∧ (↑(bL l).size : Int) - (1 : Int) < (↑(bL l).size : Int)) = true, u8 ((↑(l.getD ((↑(bL l).size : Int) - (1 : Int)).toNat (0 : UInt8)).toNat : Int)) = u8 ((↑(l.getD (l.length - (1 : Nat)) (0 : UInt8)).toNat : Int)), u8 (IntKind.u8.wrap ((↑(l.getD (l.length - (1 : Nat)) (0 : UInt8)).toNat : Int) - (48 : Int))) = u8 (((↑(l.getD (l.length - (1 : Nat)) (0 : UInt8)).toNat : Int) - (48 : Int)) % (256 : Int)), i64 (IntKind.i64.wrap (((↑(l.getD (l.length - (1 : Nat)) (0 : UInt8)).toNat : Int) - (48 : Int)) % (256 : Int))) = i64 (lastD l), decide ((0 : Int) ≤ (↑n : Int) ∧ (↑n : Int) < (↑(bL l).size : Int)) = true, u8 ((↑(l.getD (↑n : Int).toNat (0 : UInt8)).toNat : Int)) = u8 (y), bl (y == (45 : Int)) = bl (false), (decide ((0 : Int) ≤ (0 : Int) ∧ (0 : Int) ≤ (↑n : Int) ∧ (↑n : Int) ≤ (↑(bL l).size : Int) ∧ (↑(bL l).size : Int) ≤ (↑(bL l).size : Int)) && true) = true, st ((bL l).extract (0 : Nat) (↑n : Int).toNat) = st (bL (List.take n l))]) (by kernel_rfl) ⟨(q), (intE (by exact wrap_i64 (by omega) (by omega))), (by (first | exact decide_t (by omega) | (rw [hb, show ((l.length : Int) - 1).toNat = l.length - 1 by omega]))), (by (first | exact decide_t (by omega) | (rw [hb, show ((l.length : Int) - 1).toNat = l.length - 1 by omega]))), (intE (wrap_u8_mod _)), (by (first | exact decide_t (by omega) | rfl | exact intE (wrap_i64 (by omega) (by omega)))), (by (first | exact decide_t (by omega) | (exact intE hy))), (by (first | exact decide_t (by omega) | (exact intE hy))), (beF (by assumption)), (by (first | exact decide_t (by omega) | (rw [Bool.and_true]; exact decide_t ⟨by omega, by omega, by omega, by omega⟩) | exact congrArg (fun x => st x) e1)), (by (first | exact decide_t (by omega) | (rw [Bool.and_true]; exact decide_t ⟨by omega, by omega, by omega, by omega⟩) | exact congrArg (fun x => st x) e1)), trivial⟩
theorem split_ok (l : List UInt8) (hl : l.length ≤ 1000) (ha : ascL l) : PS 47 [st (bL l)] (.tup [st (bL (splitD l).1), i64 (splitD l).2]) := by
  by_cases h : atD l < 0
  · exact split_no l hl ha h
  · have hlt := at_lt l charsB.data.toList
    obtain ⟨n, hn⟩ : ∃ n : Nat, atD l = n := ⟨(atD l).toNat, by omega⟩
    have hn2 : n < l.length := by unfold atD at *; omega
    by_cases hx : l.getD n 0 = 45
    · exact split_neg l hl ha n hn hn2 hx
    · refine split_pos l hl ha n hn hn2 _ rfl fun e => hx ?_
      have : (l.getD n 0).toNat = 45 := by omega
      exact UInt8.toNat_inj.1 this
end Go.Proofs.YtcnlgdbmcdlknaaDoor
