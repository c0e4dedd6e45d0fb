/- others, as an iterator. By the prover of this seat. -/
import Derived.Test.YtdcoomeagbjhlaaDoorBa
set_option linter.unusedVariables false
set_option linter.unusedSimpArgs false
set_option maxRecDepth 100000
set_option maxHeartbeats 4000000
namespace Go.Proofs.YtdcoomeagbjhlaaDoor.Ca
open Go.RowKit Go.Pm
open Go.Proofs.YtdcoomeagbjhlaaDoor.Or (G1 C1 Pu)
abbrev st (b : ByteArray) : AV := .s (.string b)
/-- the places at which two texts differ, one by one -/
def difL (a b : ByteArray) : List Nat := (List.range a.size).filter (difB a b)
def difX (a b : ByteArray) : List (AV × AV) := (difL a b).map fun (i : Nat) => (i64 (i : Int), u8 ((b[i]!).toNat : Int))
theorem dif_at (a b : ByteArray) (i : Nat) (hi : i < a.size) (hd : difB a b i = true) : (difL a b)[cntB a b i]? = some i := by
  unfold difL cntB
  obtain ⟨r, hr⟩ : ∃ r, a.size = (i + 1) + r := ⟨a.size - (i + 1), by omega⟩
  rw [hr, List.range_add, List.filter_append, List.range_succ, List.filter_append, List.filter_cons, if_pos hd, List.filter_nil, List.append_assoc, List.getElem?_append_right (Nat.le_refl _), Nat.sub_self]
  rfl
theorem dif_len (a b : ByteArray) : (difL a b).length = cntB a b a.size := rfl
theorem cnt_mono (a b : ByteArray) (i : Nat) (hi : i ≤ a.size) : cntB a b i ≤ cntB a b a.size := by
  unfold cntB
  obtain ⟨r, hr⟩ : ∃ r, a.size = i + r := ⟨a.size - i, by omega⟩
  rw [hr, List.range_add, List.filter_append, List.length_append]
  omega
theorem inv_fptr1 {M : Mem} {x v : Value} (h : VR M Nm.none (.fptr [.s x]) v) : ∃ b o, v = .pointer (some ⟨b, o, none⟩) ∧ M.cell b o = some x := by
  cases h with
  | fptr f p1 p2 =>
    have e1 := p1 0 _ rfl
    rw [(p2 0 _ rfl).inv_s, Nat.add_zero] at e1
    exact ⟨_, _, rfl, e1⟩
theorem others_iter (a b : ByteArray) (hs : a.size = b.size) (hn : a.size ≤ 1000000) : IterC Tryd.prog 41 [.fptr [st a], .fptr [st b]] (difX a b) := by
  intro l M vals J Jx W hv hJ hY h0
  have hl : vals.length = 2 := hv.len.symm
  match vals, hl with
  | [p, q], _ =>
    obtain ⟨ba, oa, rfl, e1⟩ := inv_fptr1 (hv.at_ 0 _ _ rfl rfl)
    obtain ⟨bb, ob, rfl, e2⟩ := inv_fptr1 (hv.at_ 1 _ _ rfl rfl)
    refine (others1 l ba oa bb ob a b hs hn J Jx (fun k V h => ?_) (fun i V hi hd h => ?_) W h0).mono ?_
    · obtain ⟨h1, h2⟩ := hJ k V h
      exact ⟨(h1.cell _ _ _ e1).1, (h1.cell _ _ _ e2).1, h2⟩
    · exact hY (cntB a b i) (i64 i, u8 ((b[i]!).toNat : Int)) V _ _ (by unfold difX; rw [List.getElem?_map, dif_at a b i hi hd]; rfl) h (.s _ _) (.s _ _)
    · rintro e V ⟨h1, h2⟩
      refine ⟨h1, ?_⟩
      rcases h2 with h2 | ⟨i, hi, hd, h2⟩
      · left
        unfold difX
        rw [List.length_map, dif_len]
        exact h2
      · right
        refine ⟨cntB a b i, ?_, h2⟩
        have := cnt_succ a b i
        rw [if_pos hd] at this
        have h3 := cnt_mono a b (i + 1) (by omega)
        unfold difX
        rw [List.length_map, dif_len]
        omega
theorem others_enter (args : Array Value) (w : World) : (callFunc 41 args).run Tryd.prog w = .ok (.enter 41 args) w := enters_of Tryd.func41 (by kernel_rfl) rfl args w
end Go.Proofs.YtdcoomeagbjhlaaDoor.Ca
