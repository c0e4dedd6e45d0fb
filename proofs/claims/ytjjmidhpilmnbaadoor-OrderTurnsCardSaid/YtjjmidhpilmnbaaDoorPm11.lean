/- The machine of plain values: what an append or a copy takes; bytes and strings; new rows. By the prover of this seat. -/
import Derived.Test.YtjjmidhpilmnbaaDoorPm10
import Derived.Lib.ConvBytes
import Derived.Laws.BytesString
set_option linter.unusedVariables false
namespace Go.Pm
open Go Go.RowKit
section
variable {P : Program} {w0 W : World} {ρ : Nm} {M : Mem} {H : List Bk}
theorem cells_list {A : Addr} {cs : List AV} (hc : ∀ (i : Nat) c, cs[i]? = some c → ∃ v, W.cell? (A.add i) = some v ∧ v.oneCell' = true ∧ VR M ρ c v) :
    ∃ vs : List Value, L2 (VR M ρ) cs vs ∧ (∀ v ∈ vs, v.oneCell' = true) ∧ ∀ (i : Nat) v, vs[i]? = some v → W.cell? (A.add i) = some v := by
  obtain ⟨vs, h1, h2⟩ := choose_list (R := VR M ρ) (Q := fun i v => W.cell? (A.add i) = some v ∧ v.oneCell' = true) cs 0 (fun i c hi => by
    obtain ⟨v, a, b, d⟩ := hc i c hi
    exact ⟨v, d, by rw [Nat.zero_add]; exact ⟨a, b⟩⟩)
  simp only [Nat.zero_add] at h2
  refine ⟨vs, h1, fun u hu => ?_, fun i v hv => (h2 i v hv).1⟩
  obtain ⟨i, hi⟩ := List.mem_iff_getElem?.1 hu
  exact (h2 i u hi).2
theorem L2.bytes (s : ByteArray) : L2 (VR M ρ) (bytesA s) (s.data.toList.map fun b => Value.int .u8 b.toNat) := L2.map _ _ _ fun b _ => .s _ _
theorem bytes_take (s : ByteArray) (n : Nat) : ((s.extract 0 n).data.map fun b => Value.int .u8 b.toNat) = ((s.data.toList.map fun b => Value.int .u8 b.toNat).take n).toArray := by
  apply Array.ext'
  simp [ByteArray.data_extract, List.extract_eq_take_drop, List.map_take]
/-- a source of cells -/
structure Src (P : Program) (W : World) (M : Mem) (ρ : Nm) (sz m : Nat) (xs : List AV) (u : Value) (vs : List Value) : Prop where
  l2 : L2 (VR M ρ) xs vs
  one : ∀ v ∈ vs, v.oneCell' = true
  len : (Builtin.lenOf u).run P W = .ok m W
  cells : ∀ n, n ≤ m → (Builtin.firstCells sz n u).run P W = .ok (vs.take (n * sz)).toArray W
theorem src_ok (hw : WR w0 ρ M H W) {sz m : Nat} {x : AV} {xs : List AV} (h : srcA (fun j => H[j]?) sz x = some (m, xs)) (hl : xs.length = m * sz) {u : Value} (hx : VR M ρ x u) : ∃ vs, Src P W M ρ sz m xs u vs := by
  have fin : ∀ {A : Addr} {cap : Nat} {vs : List Value}, vs.length = m * sz → (∀ (i : Nat) v, vs[i]? = some v → W.cell? (A.add i) = some v) → ∀ n, n ≤ m → (Builtin.firstCells sz n (.slice (some A) m cap)).run P W = .ok (vs.take (n * sz)).toArray W := by
    intro A cap vs hvl hv n hn
    refine run_firstCells_some (P := P) W sz n A m cap _ ?_ fun j v hj => ?_
    · rw [List.length_take, hvl]
      exact Nat.min_eq_left (Nat.mul_le_mul_right _ hn)
    · rw [List.getElem?_take] at hj
      split at hj
      · exact hv j v hj
      · cases hj
  unfold srcA at h
  split at h
  · rename_i m' cs
    cases h
    cases hx with
    | sl_e h1 h2 =>
      rename_i a cap
      have h0 : m * sz = 0 := by rw [← hl]; simp
      refine ⟨[], by simpa using L2.nil, by simp, by simp [Builtin.lenOf], fun n hn => ?_⟩
      have hn0 : n * sz = 0 := by
        have := Nat.mul_le_mul_right sz hn
        omega
      cases a with
      | none => simp [run_firstCells_none]
      | some A => simpa [hn0] using run_firstCells_some (P := P) W sz n A m cap [] (by simp [hn0]) (fun j v hj => by simp at hj)
    | sl f h1 h2 h3 =>
      rename_i b off cap
      obtain ⟨vs, k1, k2, k3⟩ := cells_list (W := W) (A := ⟨b, off, none⟩) (cs := cs.take (m * sz)) (M := M) (ρ := ρ) (fun i c hc => by
        rw [List.getElem?_take] at hc
        split at hc
        · obtain ⟨g1, g2⟩ := hw.fro.cell _ _ _ (h2 i c hc)
          exact ⟨f i, by rw [add_flat]; exact g1, g2, (h3 i c hc).mono (Mem.le.refl M) (Nm.none_le ρ)⟩
        · cases hc)
      exact ⟨vs, k1, k2, by simp [Builtin.lenOf], fin (by rw [← k1.len]; exact hl) k3⟩
  · rename_i m' cs
    cases h
    cases hx with
    | sx_e h1 =>
      rename_i A cap
      have h0 : m * sz = 0 := by rw [← hl]; simp
      refine ⟨[], by simpa using L2.nil, by simp, by simp [Builtin.lenOf], fun n hn => ?_⟩
      have hn0 : n * sz = 0 := by
        have := Nat.mul_le_mul_right sz hn
        omega
      simpa [hn0] using run_firstCells_some (P := P) W sz n A m cap [] (by simp [hn0]) (fun j v hj => by simp at hj)
    | sx f h1 h2 h3 =>
      rename_i b off cap
      obtain ⟨vs, k1, k2, k3⟩ := cells_list (W := W) (A := ⟨b, off, none⟩) (cs := cs.take (m * sz)) (M := M) (ρ := ρ) (fun i c hc => by
        rw [List.getElem?_take] at hc
        split at hc
        · obtain ⟨g1, g2⟩ := hw.fro.cell _ _ _ (h2 i c hc)
          exact ⟨f i, by rw [add_flat]; exact g1, g2, (h3 i c hc).mono (Mem.le.refl M) (Nm.none_le ρ)⟩
        · cases hc)
      exact ⟨vs, k1, k2, by simp [Builtin.lenOf], fin (by rw [← k1.len]; exact hl) k3⟩
  · cases h
    cases hx with
    | nsl =>
      rename_i a
      refine ⟨[], L2.nil, by simp, by simp [Builtin.lenOf], fun n hn => ?_⟩
      have hn0 : n = 0 := by omega
      subst hn0
      cases a with
      | none => simp [run_firstCells_none]
      | some A => simpa using run_firstCells_some (P := P) W sz 0 A 0 0 [] (by simp) (fun j v hj => by simp at hj)
  · rename_i id off m' k
    split at h
    · rename_i L cs fz hB
      split at h
      · rename_i hk
        cases h
        cases hx with
        | osl_e =>
          rename_i a
          refine ⟨[], by simpa using L2.nil, by simp, by simp [Builtin.lenOf], fun n hn => ?_⟩
          have hn0 : n = 0 := by omega
          subst hn0
          cases a with
          | none => simp [run_firstCells_none]
          | some A => simpa using run_firstCells_some (P := P) W sz 0 A 0 0 [] (by simp) (fun j v hj => by simp at hj)
        | osl h1 h2 h3 =>
          rename_i b s cap
          obtain ⟨A, e, hA⟩ := cells_at (H := H) hw (x := .ptr id off) (.ptr h1) (cs := cs.drop off) (by simp [derefA, hB])
          cases e
          obtain ⟨vs, k1, k2, k3⟩ := cells_list (W := W) (A := ⟨b, off, none⟩) (cs := (cs.drop off).take (m * sz)) (M := M) (ρ := ρ) (fun i c hc => by
            rw [List.getElem?_take] at hc
            split at hc
            · exact hA i c hc
            · cases hc)
          exact ⟨vs, k1, k2, by simp [Builtin.lenOf], fin (by rw [← k1.len]; exact hl) k3⟩
      · cases h
    · cases h
  · rename_i b
    split at h
    · rename_i h1
      subst h1
      cases h
      obtain rfl := hx.inv_s
      exact ⟨_, L2.bytes b, by simp [Value.oneCell'], by simp [Builtin.lenOf], fun n hn => by
        have := bytes_take b n
        simp only [Builtin.firstCells, Nat.mul_one, Sem.run_pure, this]⟩
    · cases h
  · cases h
    obtain rfl := hx.inv_s
    exact ⟨[], L2.nil, by simp, by simp [Builtin.lenOf], fun n hn => by simp [run_firstCells_none]⟩
  · cases h
theorem strA_fold (cs : List AV) (vs : List Value) (hx : L2 (VR M ρ) cs vs) (h8 : cs.all isU8 = true) : ∃ ns : List Int, vs = ns.map (Value.int .u8) ∧ ns.foldl (fun (r : ByteArray) n => r.push (UInt8.ofNat n.toNat)) ByteArray.empty = strA cs := by
  have key : ∀ (cs : List AV) (vs : List Value) (acc : ByteArray), L2 (VR M ρ) cs vs → cs.all isU8 = true → ∃ ns : List Int, vs = ns.map (Value.int .u8) ∧ ns.foldl (fun (r : ByteArray) n => r.push (UInt8.ofNat n.toNat)) acc = ⟨acc.data ++ (cs.map toByte).toArray⟩ := by
    intro cs
    induction cs with
    | nil =>
      intro vs acc hx _
      have : vs = [] := by have := hx.len; cases vs <;> simp at this; rfl
      subst this
      exact ⟨[], rfl, by simp⟩
    | cons c cs ih =>
      intro vs acc hx h8
      obtain ⟨v, vs', rfl, h1, h2⟩ := hx.inv_cons
      simp only [List.all_cons, Bool.and_eq_true] at h8
      obtain ⟨n, rfl⟩ : ∃ n, c = .s (.int .u8 n) := by
        have := h8.1
        unfold isU8 at this
        split at this
        · exact ⟨_, rfl⟩
        · cases this
      obtain rfl := h1.inv_s
      obtain ⟨ns, rfl, hf⟩ := ih vs' (acc.push (UInt8.ofNat n.toNat)) h2 h8.2
      refine ⟨n :: ns, rfl, ?_⟩
      simp only [List.foldl_cons, hf, List.map_cons, toByte]
      congr 1
      apply Array.ext'
      simp [ByteArray.push]
  obtain ⟨ns, h1, h2⟩ := key cs vs ByteArray.empty hx h8
  exact ⟨ns, h1, by rw [h2]; simp [strA]⟩
theorem ok_conv {C : Cx} {nid : Nat} {src dst : TypeId} {x v : AV} {news : List Bk} {bs : List Bool} {ps : List Prop} (hw : WR w0 ρ M H W) (hn0 : news ≠ [] → ρ nid = none) (hr : rdConv C (fun j => H[j]?) nid src dst x = some (v, news, bs, ps)) (hb : bs.all id = true) {u : Value} (hx : VR M ρ x u) :
    ∃ y W' ρ', (convert src dst u).run C.P W = .ok y W' ∧ ρ.le ρ' ∧ WR w0 ρ' M (putW H (newsW nid news)) W' ∧ VR M ρ' v y ∧ ∀ i x, ρ' i = some x → ρ i = some x ∨ i ∈ (newsW nid news).map (·.1) := by
  unfold rdConv at hr
  split at hr
  · rename_i e hs hd
    split at hr
    · rename_i b he
      cases hr
      have hn := hn0 (by simp)
      obtain rfl := hx.inv_s
      have hrun := Lib.run_convert_string_bytes (P := C.P) W src dst e b hs hd he
      have hcap := grownCap_ge W b.size 0 e
      refine ⟨_, _, ρ.upd nid (W.heap.size, (Lib.bytesCells W e b).size), hrun, Nm.le_upd _ hn, ?_, ?_, ?_⟩
      · have hsz : (Lib.bytesCells W e b).size = grownCap W b.size 0 e := by simp [Lib.bytesCells]; show b.size + _ = _; omega
        refine hw.putG hn ?_ (fun k hk => Lib.bytesWorld_at_old W e b k hk) _ _ fun ρ' hr' => ⟨?_, ?_, ⟨_, _, _, Lib.bytesWorld_at_new W e b, rfl, fun o ho => ?_, fun i c hc => ?_⟩, fun o v hv => absurd (hw.fro.lt hv) (by omega)⟩
        · exact hw.bel.trans ⟨rfl, rfl, rfl, by rw [Lib.bytesWorld_size]; omega, fun k hk => Lib.bytesWorld_at_old W e b k (Nat.lt_of_lt_of_le hk hw.bel.size)⟩
        · simp [bytesA]
        · rw [hsz]; exact hcap
        · simp; omega
        · obtain ⟨u, hu, hr⟩ := (L2.bytes (M := M) (ρ := ρ') b).get hc
          have hlt := (List.getElem?_eq_some_iff.1 hu).1
          have hlt' : i < b.data.size := by simpa using hlt
          refine ⟨u, ?_, ?_, hr⟩
          · have : (Lib.bytesCells W e b).toList[i]? = some u := by
              simp only [Lib.bytesCells, Array.toList_append, Array.toList_map]
              rw [List.getElem?_append_left (by simpa using hlt')]
              exact hu
            simpa using this
          · have := List.mem_of_getElem? hu
            simp only [List.mem_map] at this
            obtain ⟨b', _, rfl⟩ := this
            rfl
      · refine .osl (Nm.upd_self _ _ _) hcap ?_
        simp [Lib.bytesCells]; show _ ≤ b.size + _; omega
      · intro i y hi
        by_cases e1 : i = nid
        · right; subst e1; simp [newsW]
        · left; rwa [Nm.upd_ne _ _ e1] at hi
    · cases hr
  · rename_i e hs hd
    split at hr
    · rename_i m cs he hsrc
      cases hr
      obtain ⟨h1, hb⟩ := allB_dec hb
      obtain ⟨h2, _⟩ := allB_cons hb
      obtain ⟨hsrc', a, l, c, rfl⟩ : srcA (fun j => H[j]?) 1 x = some (m, cs) ∧ ∃ a l c, u = .slice a l c := by
        cases hx <;> simp [srcB, srcA] at hsrc ⊢ <;> exact hsrc
      obtain ⟨vs, S⟩ := src_ok (P := C.P) hw hsrc' (by rw [h1]; simp) hx
      obtain ⟨ns, rfl, hf⟩ := strA_fold cs vs S.l2 h2
      refine ⟨.string (strA cs), W, ρ, ?_, Nm.le.refl _, hw, .s _ _, fun i x h => .inl h⟩
      have hlen := S.len
      have hc := S.cells m (Nat.le_refl _)
      have htk : (ns.map (Value.int .u8)).take (m * 1) = ns.map (Value.int .u8) := List.take_of_length_le (by rw [← S.l2.len, h1]; simp)
      rw [htk] at hc
      rw [run_convert_bytes_string W src dst e a l c hs he hd]
      have hm : l = m := by simpa [Builtin.lenOf] using hlen
      subst hm
      cases a with
      | none =>
        simp only [run_firstCells_none] at hc
        have : ns.map (Value.int .u8) = [] := by
          simp only [Result.ok.injEq, and_true] at hc
          simpa using congrArg Array.toList hc.symm
        have hn0 : ns = [] := by simpa using this
        subst hn0
        rw [← hf]
        simp [Conv.bytesToString]
      | some A =>
        have hc' : (loadCells A l).run C.P W = .ok (ns.map (Value.int .u8)).toArray W := by simpa [Builtin.firstCells] using hc
        rw [run_bytesToString W A l c ns hc', hf]
    · cases hr
  · split at hr
    · rename_i _ _ sd k hsd hd _ q n
      cases hr
      obtain rfl := hx.inv_s
      exact ⟨_, W, ρ, by simp [convert, run_underlying hsd, run_underlying hd, Conv.intToInt], Nm.le.refl _, hw, .s _ _, fun i x h => .inl h⟩
    · cases hr
  · rename_i hs hd
    split at hr
    · cases hr
      obtain rfl := hx.inv_s
      exact ⟨_, W, ρ, by simp [convert, run_underlying hs, run_underlying hd], Nm.le.refl _, hw, .s _ _, fun i x h => .inl h⟩
    · cases hr
  · cases hr
end
end Go.Pm
