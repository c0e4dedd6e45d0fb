/- Fields of a line, and what a name's size is: the library's part as laws of the machine of plain values. By the prover of this seat. -/
import Derived.Test.YtcnlgdbmcdlknaaDoorRows
import Derived.Test.YtcnlgdbmcdlknaaDoorPmF
import Derived.Test.YtcnlgdbmcdlknaaDoorSh
set_option linter.unusedVariables false
set_option linter.unusedSimpArgs false
set_option maxRecDepth 100000
set_option maxHeartbeats 4000000
namespace Go.Proofs.YtcnlgdbmcdlknaaDoor
open Go.RowKit Go.Pm
abbrev u16 (n : Int) : AV := .s (.int .u16 n)
def spaceC : List AV := (List.range 256).map fun i => u8 (if Lib.isSp (UInt8.ofNat i) then 1 else 0)
def GS : Nat → Option (List AV) := fun g => if g = 1 then some spaceC else none
abbrev PS (f : FuncId) (args : List AV) (r : AV) : Prop := Pure Tryd.prog GS f args r []
noncomputable def CS : Cx := ⟨Tryd.prog, GS, 0⟩
theorem globR_mono {G G' : Nat → Option (List AV)} (h : ∀ g cs, G g = some cs → G' g = some cs) {M : Mem} (hG : GlobR G' M) : GlobR G M := fun g cs e => hG g cs (h g cs e)
theorem callH_mono {P : Program} {G G' : Nat → Option (List AV)} (h : ∀ g cs, G g = some cs → G' g = some cs) {f : FuncId} {args : List AV} {H H' : List Bk} {r : AV} (c : CallH P G f args H r H') : CallH P G' f args H r H' :=
  ⟨c.1, fun w0 ρ M W vals hw hg ha => c.2 w0 ρ M W vals hw (globR_mono h hg) ha⟩
theorem space_at {M : Mem} {W : World} (hf : Fro M W) (hg : GlobR GS M) (c : Nat) (hc : c < 256) : W.cell? ⟨1, c, none⟩ = some (.int .u8 (if Lib.isSp (UInt8.ofNat c) then 1 else 0)) := by
  have h := hg 1 spaceC rfl
  have hi : spaceC[c]? = some (u8 (if Lib.isSp (UInt8.ofNat c) then 1 else 0)) := by simp [spaceC, hc]
  generalize hsp : spaceC = cs at h hi
  cases h with
  | fptr_e => simp at hi
  | fptr f h1 h2 =>
    have k1 := h1 c _ hi
    have k2 := (h2 c _ hi).inv_s
    rw [Nat.zero_add] at k1
    rw [(hf.cell _ _ _ k1).1, k2]
def strs (l : List (List UInt8)) : List AV := l.map fun x => st ⟨x.toArray⟩
theorem fields_h (s : ByteArray) (hs : s.size ≤ 1000) (ha : ∀ (j : Nat) b, s.data.toList[j]? = some b → b.toNat < 128) : CallH Tryd.prog GS 46 [st s] [] (.osl 0 0 (Lib.fields s.data.toList).length 1) [.arr (Lib.fields s.data.toList).length (strs (Lib.fields s.data.toList)) 0] := by
  refine ⟨by kernel_rfl, fun w0 ρ M W vals hw hg hv => ?_⟩
  have hl : vals.length = 1 := hv.len.symm
  match vals, hl with
  | [v], _ =>
    have e := (hv.at_ 0 _ _ rfl rfl).inv_s
    subst e
    have hno : ρ 0 = none := by
      cases h : ρ 0 with
      | none => rfl
      | some x => have := hw.dom 0 x h; simp at this
    refine (Any.strings_Fields_core Tryd.lays157 (by kernel_rfl) s W (by omega) ha fun c hc => space_at hw.fro hg c hc).mono fun e W' hh => ?_
    obtain ⟨rfl, rfl⟩ := hh
    obtain ⟨vs, hvs⟩ : ∃ vs, vs = (Lib.fields s.data.toList).map fun l => Value.string ⟨l.toArray⟩ := ⟨_, rfl⟩
    have hc : L2 (VR M ρ) (strs (Lib.fields s.data.toList)) vs := by subst hvs; exact L2.map _ _ _ (fun x _ => .s _ _)
    have h1 : ∀ v ∈ vs, v.oneCell' = true := by
      subst hvs
      intro v hv
      obtain ⟨x, _, rfl⟩ := List.mem_map.1 hv
      rfl
    have hp := hw.putRow (nid := 0) hno 9 (cs := strs (Lib.fields s.data.toList)) (vs := vs) (us := []) hc h1
    have hlen : (strs (Lib.fields s.data.toList)).length = (Lib.fields s.data.toList).length := by simp [strs]
    have hlen2 : (vs ++ []).length = (Lib.fields s.data.toList).length := by subst hvs; simp
    rw [hlen, List.append_nil] at hp
    rw [List.append_nil] at hlen2
    rw [show putB ([] : List Bk) (0, .arr (Lib.fields s.data.toList).length (strs (Lib.fields s.data.toList)) 0) = [.arr (Lib.fields s.data.toList).length (strs (Lib.fields s.data.toList)) 0] from rfl, hvs] at hp
    refine ⟨_, ρ.upd 0 (W.heap.size, _), M, rfl, Mem.le.refl M, fun i x hi => ?_, hp, ?_, Fresh.refl _ _⟩
    · by_cases e : i = 0
      · subst e; rw [hno] at hi; cases hi
      · rw [Nm.upd_ne _ _ e]; exact hi
    · rw [← hvs]
      exact .osl (b := W.heap.size) (sz := vs.length) (by rw [Nm.upd_self]) (Nat.le_refl _) (by rw [hlen2]; simp)
theorem strs_len (l : List (List UInt8)) : (strs l).length = l.length := by simp [strs]
theorem strs_pure (l : List (List UInt8)) (n : Nat) (fz : Fz) : pureB (.arr n (strs l) fz) = true := by
  show (strs l).all pureC = true
  unfold strs
  rw [List.all_eq_true]
  intro x hx
  obtain ⟨y, _, rfl⟩ := List.mem_map.1 hx
  rfl
def eSt (l : List UInt8) : List AV := [st ⟨l.toArray⟩]
abbrev slSt (l : List (List UInt8)) : AV := slE eSt l
theorem strs_flat (l : List (List UInt8)) : strs l = l.flatMap eSt := by
  induction l with
  | nil => rfl
  | cons x l ih => show st _ :: strs l = _; rw [ih]; rfl
theorem fields_ok (s : ByteArray) (hs : s.size ≤ 1000) (ha : ∀ (j : Nat) b, s.data.toList[j]? = some b → b.toNat < 128) : PS 46 [st s] (slSt (Lib.fields s.data.toList)) := by
  have h := pure_core (fields_h s hs ha) (by simp [idsT, idsA, topId, strs_pure]) rfl
  have e : frzT (fun j => [Bk.arr (Lib.fields s.data.toList).length (strs (Lib.fields s.data.toList)) 0][j]?) (.osl 0 0 (Lib.fields s.data.toList).length 1) = slSt (Lib.fields s.data.toList) := by
    show AV.sl _ (List.take _ (List.drop 0 (strs (Lib.fields s.data.toList)))) = _
    rw [List.drop_zero, List.take_of_length_le (by rw [strs_len]; omega), strs_flat]
    rfl
  rw [e] at h
  exact h
theorem any_ok (s chars : ByteArray) (hs : s.size ≤ 1000) (hc : chars.size ≤ 1000) (ha : ∀ (j : Nat) b, s.data.toList[j]? = some b → b.toNat < 128) (hac : ∀ (j : Nat) b, chars.data.toList[j]? = some b → b.toNat < 128) : PS 62 [st s, st chars] (i64 (Lib.indexAny s.data.toList chars.data.toList)) := by
  refine ⟨by kernel_rfl, fun w0 ρ M W vals hw hg hv => ?_⟩
  have hl : vals.length = 2 := hv.len.symm
  match vals, hl with
  | [v, u], _ =>
    have e := (hv.at_ 0 _ _ rfl rfl).inv_s
    have e2 := (hv.at_ 1 _ _ rfl rfl).inv_s
    subst e e2
    refine (Tryd.strings_IndexAny_laid s chars W (by omega) (by omega) ha hac).mono fun e W' hh => ?_
    obtain ⟨rfl, hb⟩ := hh
    exact ⟨_, ρ, M, rfl, Mem.le.refl M, Nm.le.refl ρ, hw.world (hw.bel.trans (hb.mono hw.bel.size)) (fun b h => hb.block b h), .s _ _, Fresh.refl _ _⟩
end Go.Proofs.YtcnlgdbmcdlknaaDoor
