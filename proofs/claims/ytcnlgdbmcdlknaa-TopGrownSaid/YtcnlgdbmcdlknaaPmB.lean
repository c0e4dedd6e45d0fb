/- The machine of plain values: what an append or a copy takes; bytes and strings; new rows. By the prover of this seat. The machine of plain values: every operation that only reads or makes. By the prover of this seat. The machine of plain values: the law of all operations that only read or make. By the prover of this seat. The machine of plain values: operations that write. By the prover of this seat. The machine of plain values: append; the law of all operations that write. By the prover of this seat. The machine of plain values: the law of all operations that write. By the prover of this seat. -/
import Derived.Test.YtcnlgdbmcdlknaaPmA
import Derived.Lib.ConvBytes
import Derived.Laws.BytesString
set_option linter.unusedVariables false
namespace Go.Pm
open Go Go.RowKit
section
variable {P : Program} {w0 W : World} {ρ : Nm} {M : Mem} {H : List Bk}
theorem cells_list {A : Addr} {cs : List AV} (hc : ∀ (i : Nat) c, cs[i]? = some c → ∃ v, W.cell? (A.add i) = some v ∧ v.oneCell' = true ∧ VR M ρ c v) :
    ∃ vs : List Value, L2 (VR M ρ) cs vs ∧ (∀ v ∈ vs, v.oneCell' = true) ∧ ∀ (i : Nat) v, vs[i]? = some v → W.cell? (A.add i) = some v := by
  obtain ⟨vs, h1, h2⟩ := choose_list (R := VR M ρ) (Q := fun i v => W.cell? (A.add i) = some v ∧ v.oneCell' = true) cs 0 (fun i c hi => by
    obtain ⟨v, a, b, d⟩ := hc i c hi
    exact ⟨v, d, by rw [Nat.zero_add]; exact ⟨a, b⟩⟩)
  simp only [Nat.zero_add] at h2
  refine ⟨vs, h1, fun u hu => ?_, fun i v hv => (h2 i v hv).1⟩
  obtain ⟨i, hi⟩ := List.mem_iff_getElem?.1 hu
  exact (h2 i u hi).2
theorem L2.bytes (s : ByteArray) : L2 (VR M ρ) (bytesA s) (s.data.toList.map fun b => Value.int .u8 b.toNat) := L2.map _ _ _ fun b _ => .s _ _
theorem bytes_take (s : ByteArray) (n : Nat) : ((s.extract 0 n).data.map fun b => Value.int .u8 b.toNat) = ((s.data.toList.map fun b => Value.int .u8 b.toNat).take n).toArray := by
  apply Array.ext'
  simp [ByteArray.data_extract, List.extract_eq_take_drop, List.map_take]
/-- a source of cells -/
structure Src (P : Program) (W : World) (M : Mem) (ρ : Nm) (sz m : Nat) (xs : List AV) (u : Value) (vs : List Value) : Prop where
  l2 : L2 (VR M ρ) xs vs
  one : ∀ v ∈ vs, v.oneCell' = true
  len : (Builtin.lenOf u).run P W = .ok m W
  cells : ∀ n, n ≤ m → (Builtin.firstCells sz n u).run P W = .ok (vs.take (n * sz)).toArray W
theorem src_ok (hw : WR w0 ρ M H W) {sz m : Nat} {x : AV} {xs : List AV} (h : srcA (fun j => H[j]?) sz x = some (m, xs)) (hl : xs.length = m * sz) {u : Value} (hx : VR M ρ x u) : ∃ vs, Src P W M ρ sz m xs u vs := by
  have fin : ∀ {A : Addr} {cap : Nat} {vs : List Value}, vs.length = m * sz → (∀ (i : Nat) v, vs[i]? = some v → W.cell? (A.add i) = some v) → ∀ n, n ≤ m → (Builtin.firstCells sz n (.slice (some A) m cap)).run P W = .ok (vs.take (n * sz)).toArray W := by
    intro A cap vs hvl hv n hn
    refine run_firstCells_some (P := P) W sz n A m cap _ ?_ fun j v hj => ?_
    · rw [List.length_take, hvl]
      exact Nat.min_eq_left (Nat.mul_le_mul_right _ hn)
    · rw [List.getElem?_take] at hj
      split at hj
      · exact hv j v hj
      · cases hj
  unfold srcA at h
  split at h
  · rename_i m' cs
    cases h
    cases hx with
    | sl_e h1 h2 =>
      rename_i a cap
      have h0 : m * sz = 0 := by rw [← hl]; simp
      refine ⟨[], by simpa using L2.nil, by simp, by simp [Builtin.lenOf], fun n hn => ?_⟩
      have hn0 : n * sz = 0 := by
        have := Nat.mul_le_mul_right sz hn
        omega
      cases a with
      | none => simp [run_firstCells_none]
      | some A => simpa [hn0] using run_firstCells_some (P := P) W sz n A m cap [] (by simp [hn0]) (fun j v hj => by simp at hj)
    | sl f h1 h2 h3 =>
      rename_i b off cap
      obtain ⟨vs, k1, k2, k3⟩ := cells_list (W := W) (A := ⟨b, off, none⟩) (cs := cs.take (m * sz)) (M := M) (ρ := ρ) (fun i c hc => by
        rw [List.getElem?_take] at hc
        split at hc
        · obtain ⟨g1, g2⟩ := hw.fro.cell _ _ _ (h2 i c hc)
          exact ⟨f i, by rw [add_flat]; exact g1, g2, (h3 i c hc).mono (Mem.le.refl M) (Nm.none_le ρ)⟩
        · cases hc)
      exact ⟨vs, k1, k2, by simp [Builtin.lenOf], fin (by rw [← k1.len]; exact hl) k3⟩
  · rename_i m' cs
    cases h
    cases hx with
    | sx_e h1 =>
      rename_i A cap
      have h0 : m * sz = 0 := by rw [← hl]; simp
      refine ⟨[], by simpa using L2.nil, by simp, by simp [Builtin.lenOf], fun n hn => ?_⟩
      have hn0 : n * sz = 0 := by
        have := Nat.mul_le_mul_right sz hn
        omega
      simpa [hn0] using run_firstCells_some (P := P) W sz n A m cap [] (by simp [hn0]) (fun j v hj => by simp at hj)
    | sx f h1 h2 h3 =>
      rename_i b off cap
      obtain ⟨vs, k1, k2, k3⟩ := cells_list (W := W) (A := ⟨b, off, none⟩) (cs := cs.take (m * sz)) (M := M) (ρ := ρ) (fun i c hc => by
        rw [List.getElem?_take] at hc
        split at hc
        · obtain ⟨g1, g2⟩ := hw.fro.cell _ _ _ (h2 i c hc)
          exact ⟨f i, by rw [add_flat]; exact g1, g2, (h3 i c hc).mono (Mem.le.refl M) (Nm.none_le ρ)⟩
        · cases hc)
      exact ⟨vs, k1, k2, by simp [Builtin.lenOf], fin (by rw [← k1.len]; exact hl) k3⟩
  · cases h
    cases hx with
    | nsl =>
      rename_i a
      refine ⟨[], L2.nil, by simp, by simp [Builtin.lenOf], fun n hn => ?_⟩
      have hn0 : n = 0 := by omega
      subst hn0
      cases a with
      | none => simp [run_firstCells_none]
      | some A => simpa using run_firstCells_some (P := P) W sz 0 A 0 0 [] (by simp) (fun j v hj => by simp at hj)
  · rename_i id off m' k
    split at h
    · rename_i L cs fz hB
      split at h
      · rename_i hk
        cases h
        cases hx with
        | osl_e =>
          rename_i a
          refine ⟨[], by simpa using L2.nil, by simp, by simp [Builtin.lenOf], fun n hn => ?_⟩
          have hn0 : n = 0 := by omega
          subst hn0
          cases a with
          | none => simp [run_firstCells_none]
          | some A => simpa using run_firstCells_some (P := P) W sz 0 A 0 0 [] (by simp) (fun j v hj => by simp at hj)
        | osl h1 h2 h3 =>
          rename_i b s cap
          obtain ⟨A, e, hA⟩ := cells_at (H := H) hw (x := .ptr id off) (.ptr h1) (cs := cs.drop off) (by simp [derefA, hB])
          cases e
          obtain ⟨vs, k1, k2, k3⟩ := cells_list (W := W) (A := ⟨b, off + s.base, none⟩) (cs := (cs.drop off).take (m * sz)) (M := M) (ρ := ρ) (fun i c hc => by
            rw [List.getElem?_take] at hc
            split at hc
            · exact hA i c hc
            · cases hc)
          exact ⟨vs, k1, k2, by simp [Builtin.lenOf], fin (by rw [← k1.len]; exact hl) k3⟩
      · cases h
    · cases h
  · rename_i b
    split at h
    · rename_i h1
      subst h1
      cases h
      obtain rfl := hx.inv_s
      exact ⟨_, L2.bytes b, by simp [Value.oneCell'], by simp [Builtin.lenOf], fun n hn => by
        have := bytes_take b n
        simp only [Builtin.firstCells, Nat.mul_one, Sem.run_pure, this]⟩
    · cases h
  · cases h
    obtain rfl := hx.inv_s
    exact ⟨[], L2.nil, by simp, by simp [Builtin.lenOf], fun n hn => by simp [run_firstCells_none]⟩
  · cases h
theorem strA_fold (cs : List AV) (vs : List Value) (hx : L2 (VR M ρ) cs vs) (h8 : cs.all isU8 = true) : ∃ ns : List Int, vs = ns.map (Value.int .u8) ∧ ns.foldl (fun (r : ByteArray) n => r.push (UInt8.ofNat n.toNat)) ByteArray.empty = strA cs := by
  have key : ∀ (cs : List AV) (vs : List Value) (acc : ByteArray), L2 (VR M ρ) cs vs → cs.all isU8 = true → ∃ ns : List Int, vs = ns.map (Value.int .u8) ∧ ns.foldl (fun (r : ByteArray) n => r.push (UInt8.ofNat n.toNat)) acc = ⟨acc.data ++ (cs.map toByte).toArray⟩ := by
    intro cs
    induction cs with
    | nil =>
      intro vs acc hx _
      have : vs = [] := by have := hx.len; cases vs <;> simp at this; rfl
      subst this
      exact ⟨[], rfl, by simp⟩
    | cons c cs ih =>
      intro vs acc hx h8
      obtain ⟨v, vs', rfl, h1, h2⟩ := hx.inv_cons
      simp only [List.all_cons, Bool.and_eq_true] at h8
      obtain ⟨n, rfl⟩ : ∃ n, c = .s (.int .u8 n) := by
        have := h8.1
        unfold isU8 at this
        split at this
        · exact ⟨_, rfl⟩
        · cases this
      obtain rfl := h1.inv_s
      obtain ⟨ns, rfl, hf⟩ := ih vs' (acc.push (UInt8.ofNat n.toNat)) h2 h8.2
      refine ⟨n :: ns, rfl, ?_⟩
      simp only [List.foldl_cons, hf, List.map_cons, toByte]
      congr 1
      apply Array.ext'
      simp [ByteArray.push]
  obtain ⟨ns, h1, h2⟩ := key cs vs ByteArray.empty hx h8
  exact ⟨ns, h1, by rw [h2]; simp [strA]⟩
theorem ok_conv {C : Cx} {nid : Nat} {src dst : TypeId} {x v : AV} {news : List Bk} {bs : List Bool} {ps : List Prop} (hw : WR w0 ρ M H W) (hn0 : news ≠ [] → ρ nid = none) (hr : rdConv C (fun j => H[j]?) nid src dst x = some (v, news, bs, ps)) (hb : bs.all id = true) {u : Value} (hx : VR M ρ x u) :
    ∃ y W' ρ', (convert src dst u).run C.P W = .ok y W' ∧ ρ.le ρ' ∧ WR w0 ρ' M (putW H (newsW nid news)) W' ∧ VR M ρ' v y ∧ ∀ i x, ρ' i = some x → ρ i = some x ∨ i ∈ (newsW nid news).map (·.1) := by
  unfold rdConv at hr
  split at hr
  · rename_i e hs hd
    split at hr
    · rename_i b he
      cases hr
      have hn := hn0 (by simp)
      obtain rfl := hx.inv_s
      have hrun := Lib.run_convert_string_bytes (P := C.P) W src dst e b hs hd he
      have hcap := grownCap_ge W b.size 0 e
      refine ⟨_, _, ρ.upd nid (W.heap.size, (Lib.bytesCells W e b).size), hrun, Nm.le_upd _ hn, ?_, ?_, ?_⟩
      · have hsz : (Lib.bytesCells W e b).size = grownCap W b.size 0 e := by simp [Lib.bytesCells]; show b.size + _ = _; omega
        refine hw.putG hn ?_ (fun k hk => Lib.bytesWorld_at_old W e b k hk) _ _ fun ρ' hr' => ⟨?_, ?_, ⟨_, _, _, Lib.bytesWorld_at_new W e b, rfl, fun o ho => ?_, fun i c hc => ?_⟩, fun o v hv => absurd (hw.fro.lt hv) (by omega), TyR.zero⟩
        · exact hw.bel.trans ⟨rfl, rfl, rfl, by rw [Lib.bytesWorld_size]; omega, fun k hk => Lib.bytesWorld_at_old W e b k (Nat.lt_of_lt_of_le hk hw.bel.size)⟩
        · simp [bytesA]
        · rw [hsz]; exact hcap
        · have ho' : o < (Lib.bytesCells W e b).size := ho
          simp; omega
        · obtain ⟨u, hu, hr⟩ := (L2.bytes (M := M) (ρ := ρ') b).get hc
          have hlt := (List.getElem?_eq_some_iff.1 hu).1
          have hlt' : i < b.data.size := by simpa using hlt
          refine ⟨u, ?_, ?_, hr⟩
          · have : (Lib.bytesCells W e b).toList[i]? = some u := by
              simp only [Lib.bytesCells, Array.toList_append, Array.toList_map]
              rw [List.getElem?_append_left (by simpa using hlt')]
              exact hu
            simpa using this
          · have := List.mem_of_getElem? hu
            simp only [List.mem_map] at this
            obtain ⟨b', _, rfl⟩ := this
            rfl
      · refine .osl (Nm.upd_self _ _ _) hcap ?_
        simp [Lib.bytesCells]; show _ ≤ b.size + _; omega
      · intro i y hi
        by_cases e1 : i = nid
        · right; subst e1; simp [newsW]
        · left; rwa [Nm.upd_ne _ _ e1] at hi
    · cases hr
  · rename_i e hs hd
    split at hr
    · rename_i m cs he hsrc
      cases hr
      obtain ⟨h1, hb⟩ := allB_dec hb
      obtain ⟨h2, _⟩ := allB_cons hb
      obtain ⟨hsrc', a, l, c, rfl⟩ : srcA (fun j => H[j]?) 1 x = some (m, cs) ∧ ∃ a l c, u = .slice a l c := by
        cases hx <;> simp [srcB, srcA] at hsrc ⊢ <;> exact hsrc
      obtain ⟨vs, S⟩ := src_ok (P := C.P) hw hsrc' (by rw [h1]; simp) hx
      obtain ⟨ns, rfl, hf⟩ := strA_fold cs vs S.l2 h2
      refine ⟨.string (strA cs), W, ρ, ?_, Nm.le.refl _, hw, .s _ _, fun i x h => .inl h⟩
      have hlen := S.len
      have hc := S.cells m (Nat.le_refl _)
      have htk : (ns.map (Value.int .u8)).take (m * 1) = ns.map (Value.int .u8) := List.take_of_length_le (by rw [← S.l2.len, h1]; simp)
      rw [htk] at hc
      rw [run_convert_bytes_string W src dst e a l c hs he hd]
      have hm : l = m := by simpa [Builtin.lenOf] using hlen
      subst hm
      cases a with
      | none =>
        simp only [run_firstCells_none] at hc
        have : ns.map (Value.int .u8) = [] := by
          simp only [Result.ok.injEq, and_true] at hc
          simpa using congrArg Array.toList hc.symm
        have hn0 : ns = [] := by simpa using this
        subst hn0
        rw [← hf]
        simp [Conv.bytesToString]
      | some A =>
        have hc' : (loadCells A l).run C.P W = .ok (ns.map (Value.int .u8)).toArray W := by simpa [Builtin.firstCells] using hc
        rw [run_bytesToString W A l c ns hc', hf]
    · cases hr
  · split at hr
    · rename_i _ _ sd k hsd hd _ q n
      cases hr
      obtain rfl := hx.inv_s
      exact ⟨_, W, ρ, by simp [convert, run_underlying hsd, run_underlying hd, Conv.intToInt], Nm.le.refl _, hw, .s _ _, fun i x h => .inl h⟩
    · cases hr
  · rename_i hs hd
    split at hr
    · cases hr
      obtain rfl := hx.inv_s
      exact ⟨_, W, ρ, by simp [convert, run_underlying hs, run_underlying hd], Nm.le.refl _, hw, .s _ _, fun i x h => .inl h⟩
    · cases hr
  · cases hr
end
end Go.Pm

set_option linter.unusedVariables false
namespace Go.Pm
open Go Go.RowKit
theorem List.length_replZ (n : Nat) (z : List AV) : (replZ n z).length = n * z.length := by
  unfold replZ
  induction n with
  | zero => simp
  | succ n ih => simp [List.replicate_succ, ih, Nat.add_mul]; omega
section
variable {P : Program} {w0 W : World} {ρ : Nm} {M : Mem} {H : List Bk}
/-- a statement's value, and the memory behind it -/
def Good (P : Program) (w0 : World) (ρ : Nm) (M : Mem) (H : List Bk) (W : World) (s : Sem Next) (v : AV) (w : Ws) : Prop :=
  ∃ n u W' ρ', s.run P W = .ok n W' ∧ (n = .value u ∨ n = .skip ∧ u = undef) ∧ ρ.le ρ' ∧ WR w0 ρ' M (putW H w) W' ∧ VR M ρ' v u ∧ ∀ i x, ρ' i = some x → ρ i = some x ∨ i ∈ w.map (·.1)
theorem Good.same {s : Sem Value} {v : AV} (hw : WR w0 ρ M H W) (h : ∃ y, s.run P W = .ok y W ∧ VR M ρ v y) : Good P w0 ρ M H W (do pure (.value (← s))) v [] := by
  obtain ⟨y, h1, h2⟩ := h
  exact ⟨_, y, W, ρ, by simp only [Sem.run_bind, h1, Result.andThen_ok, Sem.run_pure], .inl rfl, Nm.le.refl _, hw, h2, fun i x h => .inl h⟩
theorem Good.val {s : Sem Value} {v : AV} {w : Ws} (h : ∃ y W' ρ', s.run P W = .ok y W' ∧ ρ.le ρ' ∧ WR w0 ρ' M (putW H w) W' ∧ VR M ρ' v y ∧ ∀ i x, ρ' i = some x → ρ i = some x ∨ i ∈ w.map (·.1)) : Good P w0 ρ M H W (do pure (.value (← s))) v w := by
  obtain ⟨y, W', ρ', h1, h2, h3, h4, h5⟩ := h
  exact ⟨_, y, W', ρ', by simp only [Sem.run_bind, h1, Result.andThen_ok, Sem.run_pure], .inl rfl, h2, h3, h4, h5⟩
/-- a new row of cells, and a value that points to it -/
theorem good_row (hw : WR w0 ρ M H W) {nid : Nat} (hn : ρ nid = none) (T : TypeId) {cs : List AV} {vs us : List Value} (hc : L2 (VR M ρ) cs vs) (h1 : ∀ v ∈ vs, v.oneCell' = true) {L : Nat} (hL : L = cs.length) {v : AV} {y : Value} (hv : VR M (ρ.upd nid (W.heap.size, (vs ++ us).length)) v y) {s : Sem Value}
    (hs : s.run P W = .ok y (W.alloc (.cells (vs ++ us).toArray T))) (fz : Fz := 0) (hty : ∀ u, fz.ty = some u → u = T := by intro u h; cases h) : Good P w0 ρ M H W (do pure (.value (← s))) v (newsW nid [.arr L cs fz]) := by
  subst hL
  refine .val ⟨y, _, _, hs, Nm.le_upd _ hn, hw.putRow hn T hc h1 fz hty, hv, fun i x hi => ?_⟩
  by_cases e1 : i = nid
  · right; subst e1; simp [newsW]
  · left; rwa [Nm.upd_ne _ _ e1] at hi
theorem zero_cells_list {z : List AV} {vs : List Value} (hz : L2 (VR M ρ) z vs) (h0 : 0 < vs.length) (n m : Nat) (hnm : n ≤ m) : ∃ a b : List Value, (madeCells vs.toArray (m * vs.length)).toList = a ++ b ∧ L2 (VR M ρ) (replZ n z) a ∧ ((∀ v ∈ vs, v.oneCell' = true) → ∀ v ∈ a, v.oneCell' = true) := by
  have key : ∀ k, (madeCells vs.toArray (k * vs.length)).toList = (List.replicate k vs).flatten := by
    intro k
    apply List.ext_getElem?
    intro i
    induction k generalizing i with
    | zero => simp [madeCells]
    | succ k ih =>
      rw [List.replicate_succ, List.flatten_cons, List.getElem?_append]
      simp only [madeCells, Array.toList_map, Array.toList_range, List.getElem?_map] at ih ⊢
      by_cases hi : i < vs.length
      · rw [if_pos hi, List.getElem?_range (by rw [Nat.add_mul]; omega)]
        simp [Nat.mod_eq_of_lt hi, hi]
      · rw [if_neg hi, ← ih]
        by_cases h2 : i < (k + 1) * vs.length
        · rw [List.getElem?_range h2, List.getElem?_range (by rw [Nat.add_mul] at h2; omega)]
          simp only [Option.map_some, List.size_toArray]
          rw [Nat.mod_eq_sub_mod (by omega)]
        · rw [List.getElem?_eq_none (by simpa using h2), List.getElem?_eq_none (by simp; rw [Nat.add_mul] at h2; omega)]
  refine ⟨(List.replicate n vs).flatten, (List.replicate (m - n) vs).flatten, ?_, ?_, ?_⟩
  · rw [key, ← List.flatten_append, List.replicate_append_replicate]
    congr 2; omega
  · clear hnm
    induction n with
    | zero => exact L2.nil
    | succ n ih =>
      simp only [replZ, List.replicate_succ, List.flatten_cons]
      exact hz.append ih
  · intro h v hv
    simp only [List.mem_flatten, List.mem_replicate] at hv
    obtain ⟨l, ⟨_, rfl⟩, hv⟩ := hv
    exact h v hv
theorem eq_zip {α β : Type} {l : List α} {f : α → β} {i : Nat} {p : α} (h : l[i]? = some p) : (l.map f)[i]? = some (f p) := by simp [h]
/-- the values of a list of operands -/
theorem vals_ok {e : Operand → AV} {a : Act} {xs : List Operand} (he : ∀ x ∈ xs, VR M ρ (e x) (a.eval x)) : L2 (VR M ρ) (xs.map e) (xs.map a.eval) := L2.map xs e a.eval he
theorem parts_ok {e : Operand → AV} {a : Act} {ps : List (Nat × Operand)} (he : ∀ x ∈ ps.map (·.2), VR M ρ (e x) (a.eval x)) :
    ∀ (i : Nat) p q, (ps.map fun p => (p.1, e p.2))[i]? = some p → (ps.map fun p => (p.1, a.eval p.2))[i]? = some q → p.1 = q.1 ∧ VR M ρ p.2 q.2 := by
  intro i p q hp hq
  simp only [List.getElem?_map] at hp hq
  cases h : ps[i]? with
  | none => simp [h] at hp
  | some r =>
    simp [h] at hp hq
    subst hp hq
    exact ⟨rfl, he _ (List.mem_map.2 ⟨r, List.mem_of_getElem? h, rfl⟩)⟩
theorem ok_build {C : Cx} {t : TypeId} {ps : List (Nat × AV)} {qs : List (Nat × Value)} {v : AV} {news : List Bk} {bs : List Bool} {pp : List Prop} (hr : rdBuild C t ps = some (v, news, bs, pp)) (hl : ps.length = qs.length)
    (hq : ∀ (i : Nat) p q, ps[i]? = some p → qs[i]? = some q → p.1 = q.1 ∧ VR M ρ p.2 q.2) : news = [] ∧ ∃ y, (Instr.build t qs.toArray).run C.P W = .ok y W ∧ VR M ρ v y := by
  unfold rdBuild at hr
  split at hr
  · rename_i z fs hz hfs
    split at hr
    · rename_i pl hpl
      simp only [Option.map_eq_some_iff] at hr
      obtain ⟨cs, h1, h2⟩ := hr
      cases h2
      obtain ⟨zv, z1, z2, z3, _⟩ := run_zeroA hz W
      have hm := placesOf_ok hpl W
      obtain ⟨us, f1, f2, f3⟩ := fill_ok (M := M) (ρ := ρ) (pl := fun i => pl[i]?) (pl' := fun i => pl.toArray[i]?) (by intro i; simp) ps qs z cs zv.cells.toList h1 (z2 M ρ) z3 hl hq
      simp only [Array.toArray_toList] at f1
      refine ⟨rfl, .agg us.toArray, ?_, .mkAgg f2 f3⟩
      have hm2 : (fs.mapM fun f => (do pure (f.offset, ← sizeOf f.type) : Sem (Nat × Nat))).run C.P W = .ok pl.toArray W := by
        rw [← Array.toArray_toList (xs := fs), List.mapM_toArray]
        rw [← bind_pure_comp]
        simp only [Sem.run_bind, hm, Result.andThen_ok, Sem.run_pure, Function.comp]
      simp only [Instr.build, Sem.run_bind, z1, Result.andThen_ok, run_underlying hfs, hm2, f1]
      simp
    · cases hr
  · rename_i z el n hz hfs
    split at hr
    · rename_i sz hs
      simp only [Option.map_eq_some_iff] at hr
      obtain ⟨cs, h1, h2⟩ := hr
      cases h2
      obtain ⟨zv, z1, z2, z3, _⟩ := run_zeroA hz W
      obtain ⟨us, f1, f2, f3⟩ := fill_ok (M := M) (ρ := ρ) (pl := fun i => some (i * sz, sz)) (pl' := fun i => some (i * sz, sz)) (by intro i; rfl) ps qs z cs zv.cells.toList h1 (z2 M ρ) z3 hl hq
      simp only [Array.toArray_toList] at f1
      refine ⟨rfl, .agg us.toArray, ?_, .mkAgg f2 f3⟩
      simp only [Instr.build, Sem.run_bind, z1, Result.andThen_ok, run_underlying hfs, run_szOf hs, f1]
      simp
    · cases hr
  · cases hr
end
end Go.Pm

set_option linter.unusedVariables false
namespace Go.Pm
open Go Go.RowKit
section
variable {P : Program} {w0 W : World} {ρ : Nm} {M : Mem} {H : List Bk}
theorem bds_of {e : Operand → AV} {a : Act} {o : Option Operand} (he : ∀ x, o = some x → VR M ρ (e x) (a.eval x)) : Bds M ρ (o.map e) (o.map a.eval) := by
  refine ⟨fun x hx => ?_, fun h => ?_⟩
  · cases o with
    | none => cases hx
    | some z => cases hx; exact ⟨_, rfl, he z rfl⟩
  · cases o with
    | none => rfl
    | some z => cases h
theorem ok_builtin {C : Cx} {b : Builtin} {ts : List TypeId} {xs : List AV} {us : List Value} {v : AV} {news : List Bk} {bs : List Bool} {ps : List Prop} {ty : TypeId} {cn : Array Bool} (hw : WR w0 ρ M H W) (hr : rdBuiltin C (fun j => H[j]?) b ts xs = some (v, news, bs, ps)) (hx : L2 (VR M ρ) xs us) :
    news = [] ∧ ∃ y, (builtin b ts.toArray ty cn us.toArray).run C.P W = .ok (.value y) W ∧ VR M ρ v y := by
  unfold rdBuiltin at hr
  split at hr
  · split at hr
    · rename_i t x
      obtain ⟨u, us', rfl, h1, h2⟩ := hx.inv_cons
      have : us' = [] := by have := h2.len; cases us' <;> simp at this; rfl
      subst this
      split at hr
      · rename_i b ht
        cases hr
        obtain rfl := h1.inv_s
        exact ⟨rfl, _, by simp [builtin, Builtin.len_, run_underlying ht, goInt], .s _ _⟩
      · rename_i n el ht
        cases hr
        exact ⟨rfl, _, by simp [builtin, Builtin.len_, run_underlying ht, goInt], .s _ _⟩
      · rename_i el n cs ht
        cases hr
        cases h1 with
        | sl_e => exact ⟨rfl, _, by simp [builtin, Builtin.len_, run_underlying ht, goInt], .s _ _⟩
        | sl => exact ⟨rfl, _, by simp [builtin, Builtin.len_, run_underlying ht, goInt], .s _ _⟩
      · rename_i el n cs ht
        cases hr
        cases h1 with
        | sx_e => exact ⟨rfl, _, by simp [builtin, Builtin.len_, run_underlying ht, goInt], .s _ _⟩
        | sx => exact ⟨rfl, _, by simp [builtin, Builtin.len_, run_underlying ht, goInt], .s _ _⟩
      · rename_i el ht
        cases hr
        cases h1 with
        | nsl => exact ⟨rfl, _, by simp [builtin, Builtin.len_, run_underlying ht, goInt], .s _ _⟩
      · rename_i el ht
        cases hr
        have h1 := h1.inv_s
        subst h1
        exact ⟨rfl, _, by simp [builtin, Builtin.len_, run_underlying ht, goInt], .s _ _⟩
      · rename_i el id off n k ht
        cases hr
        cases h1 with
        | osl_e => exact ⟨rfl, _, by simp [builtin, Builtin.len_, run_underlying ht, goInt], .s _ _⟩
        | osl => exact ⟨rfl, _, by simp [builtin, Builtin.len_, run_underlying ht, goInt], .s _ _⟩
      · rename_i k el es ht
        cases hr
        cases h1 with
        | mp_e => exact ⟨rfl, _, by simp [builtin, Builtin.len_, run_underlying ht, goInt], .s _ _⟩
        | mp kv pq m1 m2 m3 =>
          rename_i b
          obtain ⟨g1, g2⟩ := hw.fro.map _ _ m1
          have : es.length = kv.1.size := by
            have := m2.length_eq
            simp at this
            omega
          exact ⟨rfl, .int .i64 (kv.1.size : Nat), by simp [builtin, Builtin.len_, run_underlying ht, goInt, getObj, Sem.run, g1], by rw [this]; exact .s _ _⟩
      · rename_i k el id ht
        split at hr
        · rename_i es fz hB
          cases hr
          cases h1 with
          | omp m1 =>
            rename_i b sz
            obtain ⟨⟨ents, clock, g1, _, pq, g2, g3, _⟩, _⟩ := hw.blk _ _ _ _ m1 hB
            have : es.length = ents.size := by
              have := g2.length_eq
              simp at this
              omega
            exact ⟨rfl, .int .i64 (ents.size : Nat), by simp [builtin, Builtin.len_, run_underlying ht, goInt, getObj, Sem.run, g1], by rw [this]; exact .s _ _⟩
        · cases hr
      · cases hr
    · cases hr
  · split at hr
    · rename_i k x k' y
      cases hr
      obtain ⟨u, us', rfl, h1, h2⟩ := hx.inv_cons
      obtain ⟨u', us'', rfl, h3, h4⟩ := h2.inv_cons
      have : us'' = [] := by have := h4.len; cases us'' <;> simp at this; rfl
      subst this
      obtain rfl := h1.inv_s
      obtain rfl := h3.inv_s
      exact ⟨rfl, _, by simp [builtin, Builtin.min_, Builtin.min2], .s _ _⟩
    · cases hr
  · split at hr
    · rename_i k x k' y
      cases hr
      obtain ⟨u, us', rfl, h1, h2⟩ := hx.inv_cons
      obtain ⟨u', us'', rfl, h3, h4⟩ := h2.inv_cons
      have : us'' = [] := by have := h4.len; cases us'' <;> simp at this; rfl
      subst this
      obtain rfl := h1.inv_s
      obtain rfl := h3.inv_s
      exact ⟨rfl, _, by simp [builtin, Builtin.max_, Builtin.max2], .s _ _⟩
    · cases hr
  · cases hr
theorem rd_ok {C : Cx} {h : Hint} {o : Oper} {a : Act} {e : Operand → AV} {nid : Nat} {v : AV} {news : List Bk} {bs : List Bool} {ps : List Prop} (hw : WR w0 ρ M H W) (hn0 : news ≠ [] → ρ nid = none) (he : ∀ x ∈ o.op.operands.toList, VR M ρ (e x) (a.eval x))
    (hr : rd C (fun j => H[j]?) nid e h o.op = some (v, news, bs, ps)) (hb : bs.all id = true) (hp : allP ps) : Good C.P w0 ρ M H W (execOp a.eval o) v (newsW nid news) := by
  obtain ⟨dst, op, ty, pos, af, gd⟩ := o
  simp only at he hr
  cases op with
  | move x => cases hr; exact ⟨_, _, W, ρ, rfl, .inl rfl, Nm.le.refl _, hw, he x (by simp [Op.operands]), fun i x h => .inl h⟩
  | assign x => cases hr; exact ⟨_, _, W, ρ, rfl, .inl rfl, Nm.le.refl _, hw, he x (by simp [Op.operands]), fun i x h => .inl h⟩
  | pick c x y =>
    simp only [rd] at hr
    split at hr
    · rename_i t hc
      cases hr
      have h1 := he c (by simp [Op.operands])
      rw [hc] at h1
      have h1' := h1.inv_s
      refine ⟨_, if t then a.eval x else a.eval y, W, ρ, ?_, .inl rfl, Nm.le.refl _, hw, ?_, fun i x h => .inl h⟩
      · simp only [execOp, h1', asBool, Sem.run_bind, Sem.run_pure, Result.andThen_ok]
      · cases t
        · exact he y (by simp [Op.operands])
        · exact he x (by simp [Op.operands])
    · cases hr
  | alloc T =>
    simp only [rd, Option.map_eq_some_iff] at hr
    obtain ⟨z, hz, h2⟩ := hr
    cases h2
    obtain ⟨zv, z1, z2, z3⟩ : ∃ zv, (zeroValue T).run C.P W = .ok zv W ∧ (∀ M ρ, L2 (VR M ρ) z zv.cells.toList) ∧ ∀ v ∈ zv.cells.toList, v.oneCell' = true := by
      split at hz
      · exact run_zeroX hz W
      · obtain ⟨zv, z1, z2, z3, _⟩ := run_zeroA hz W
        exact ⟨zv, z1, z2, z3⟩
    refine good_row hw (hn0 (by simp)) T (cs := z) (vs := zv.cells.toList) (us := []) (z2 M ρ) z3 rfl (y := .pointer (some ⟨W.heap.size, 0, none⟩)) (.ptr (Nm.upd_self _ _ _)) ?_ (h.tyF T) (fun u e => Hint.tyF_ty e)
    simp [Instr.alloc, z1, newVar, newRow]
  | box T x =>
    simp only [rd] at hr
    split at hr
    · rename_i hc
      cases hr
      obtain ⟨c1, c2⟩ := (he x (by simp [Op.operands])).cells hc
      refine good_row hw (hn0 (by simp)) T (cs := cellsA (e x)) (us := []) c1 c2 rfl (y := .pointer (some ⟨W.heap.size, 0, none⟩)) (.ptr (Nm.upd_self _ _ _)) ?_
      simp [Instr.box, newVar, newRow]
    · cases hr
  | build t qs =>
    simp only [rd] at hr
    have hq := parts_ok (e := e) (a := a) (ps := qs.toList) (M := M) (ρ := ρ) (fun x hx => he x (by simpa [Op.operands] using hx))
    obtain ⟨rfl, y, h1, h2⟩ := ok_build (W := W) hr (by simp) hq
    refine Good.same hw ⟨y, ?_, h2⟩
    rw [← h1]
    congr 2
    apply Array.ext'
    simp
  | buildSlice t len qs =>
    simp only [rd] at hr
    split at hr
    · rename_i el ht
      split at hr
      · rename_i z sz hz hs
        split at hr
        · rename_i hc
          obtain ⟨hzl, h0, hmax⟩ := hc
          simp only [Option.map_eq_some_iff] at hr
          obtain ⟨cs, h1, h2⟩ := hr
          cases h2
          have hq := parts_ok (e := e) (a := a) (ps := qs.toList) (M := M) (ρ := ρ) (fun x hx => he x (by simpa [Op.operands] using hx))
          obtain ⟨zv, z1, z2, z3, _⟩ := run_zeroA hz W
          have hzv : zv.cells.toList.length = sz := by rw [← (z2 M ρ).len]; exact hzl
          obtain ⟨A, B, k1, k2, k3⟩ := zero_cells_list (M := M) (ρ := ρ) (z2 M ρ) (by omega) len len (Nat.le_refl _)
          have hB : B = [] := by
            have l1 := congrArg List.length k1
            simp only [List.length_append, Array.length_toList, size_madeCells, ← k2.len, List.length_replZ, hzl, hzv] at l1
            cases B <;> simp at l1; rfl
          subst hB
          rw [List.append_nil] at k1
          obtain ⟨us, f1, f2, f3⟩ := fill_ok (M := M) (ρ := ρ) (pl := fun i => some (i * sz, sz)) (pl' := fun i => some (i * sz, sz)) (by intro i; rfl) (qs.toList.map fun p => (p.1, e p.2)) (qs.toList.map fun p => (p.1, a.eval p.2)) _ cs A h1 k2 (k3 z3) (by simp) hq
          have hlen : cs.length = len * sz := by
            have key : ∀ (ps : List (Nat × AV)) (c d : List AV), fillA (fun i => some (i * sz, sz)) c ps = some d → d.length = c.length := by
              intro ps
              induction ps with
              | nil => intro c d h; simp [fillA] at h; rw [h]
              | cons p ps ih =>
                intro c d h
                unfold fillA at h
                simp only at h
                split at h
                · rename_i hcc
                  rw [ih _ _ h]
                  simp [splice]; omega
                · cases h
            rw [key _ _ _ h1, List.length_replZ, hzl]
          have hA : (Array.range (len * sz)).map (fun x => zv.cells[x % zv.cells.size]!) = A.toArray := by
            have : (madeCells zv.cells (len * sz)).toList = A := by
              have := k1
              simp only [Array.toArray_toList, hzv] at this
              exact this
            rw [← this]
            simp only [Array.toArray_toList, madeCells]
          refine good_row hw (hn0 (by simp)) el (cs := cs) (vs := us) (us := []) f2 f3 hlen.symm (y := .slice (some ⟨W.heap.size, 0, none⟩) len len) (.osl (Nm.upd_self _ _ _) (Nat.le_refl _) (by simp [← f2.len, hlen])) ?_
          have hq2 : (qs.map fun x => (x.1, a.eval x.2)).toList = qs.toList.map fun p => (p.1, a.eval p.2) := by simp
          by_cases hz0 : len * sz = 0
          · have hA0 : A = [] := by
              have l1 := k2.len
              rw [List.length_replZ, hzl, hz0] at l1
              exact List.eq_nil_of_length_eq_zero l1.symm
            subst hA0
            simp only [Instr.buildSlice, Sem.run_bind, run_underlying ht, Result.andThen_ok, run_szOf hs, show ¬ (len * sz > 2 ^ 24) by omega, if_false, hz0, if_true, Sem.run_pure]
            have er : (Array.map (fun x => (#[] : Array Value)[x % (#[] : Array Value).size]!) (Array.range 0)) = (([] : List Value)).toArray := by apply Array.ext'; simp
            rw [if_neg (by omega : ¬ (0 : Nat) > 2 ^ 24)]
            simp only [Sem.run_bind, Sem.run_pure, Result.andThen_ok]
            rw [er, hq2, f1]
            simp [newRow]
          · simp only [Instr.buildSlice, Sem.run_bind, run_underlying ht, Result.andThen_ok, run_szOf hs, show ¬ (len * sz > 2 ^ 24) by omega, if_false, hz0, z1, Sem.run_pure]
            simp [hA, f1, newRow]
        · cases hr
      · cases hr
    · cases hr
  | load t x =>
    obtain ⟨rfl, hy⟩ := ok_load hw hr hp (he x (by simp [Op.operands]))
    exact Good.same hw hy
  | nilCheck x =>
    have h1 := he x (by simp [Op.operands])
    simp only [rd] at hr
    split at hr
    · rename_i id off hx
      cases hr
      rw [hx] at h1
      generalize hu : a.eval x = u at h1
      cases h1 with
      | ptr g1 => exact ⟨_, _, W, ρ, by simp only [execOp, hu]; rfl, .inl rfl, Nm.le.refl _, hw, .ptr g1, fun i x h => .inl h⟩
    · rename_i cs hx
      cases hr
      rw [hx] at h1
      generalize hu : a.eval x = u at h1
      cases h1 with
      | fptr_e => exact ⟨_, _, W, ρ, by simp only [execOp, hu]; rfl, .inl rfl, Nm.le.refl _, hw, .fptr_e, fun i x h => .inl h⟩
      | fptr f g1 g2 => exact ⟨_, _, W, ρ, by simp only [execOp, hu]; rfl, .inl rfl, Nm.le.refl _, hw, .fptr f g1 g2, fun i x h => .inl h⟩
    · rename_i f xs ys hx
      cases hr
      rw [hx] at h1
      generalize hu : a.eval x = u at h1
      cases h1 with
      | fn g1 g2 g3 g4 => exact ⟨_, _, W, ρ, by simp only [execOp, hu]; rfl, .inl rfl, Nm.le.refl _, hw, .fn g1 g2 g3 g4, fun i x h => .inl h⟩
    · cases hr
  | binOp op xT x y yT =>
    obtain ⟨rfl, hy⟩ := ok_bin (W := W) hr hb (he x (by simp [Op.operands])) (he y (by simp [Op.operands])) (fun c e => by subst e; rfl)
    exact Good.same hw hy
  | unOp op xT x =>
    have h1 := he x (by simp [Op.operands])
    simp only [rd] at hr
    split at hr
    · rename_i k n hx
      simp only [Option.map_eq_some_iff] at hr
      obtain ⟨u, hu, h2⟩ := hr
      cases h2
      rw [hx] at h1
      exact Good.same hw ⟨u, by rw [h1.inv_s]; exact pureP_run hu W, .s _ _⟩
    · rename_i b hx
      simp only [Option.map_eq_some_iff] at hr
      obtain ⟨u, hu, h2⟩ := hr
      cases h2
      rw [hx] at h1
      exact Good.same hw ⟨u, by rw [h1.inv_s]; exact pureP_run hu W, .s _ _⟩
    · cases hr
  | convert src dst x =>
    exact Good.val (ok_conv hw hn0 hr hb (he x (by simp [Op.operands])))
  | makeFunc fn f c =>
    cases hr
    refine Good.same hw ⟨.func fn (f.map a.eval) (c.map a.eval), rfl, ?_⟩
    have h1 := vals_ok (e := e) (a := a) (xs := f.toList) (M := M) (ρ := ρ) (fun x hx => he x (by simp [Op.operands]; exact .inl (by simpa using hx)))
    have h2 := vals_ok (e := e) (a := a) (xs := c.toList) (M := M) (ρ := ρ) (fun x hx => he x (by simp [Op.operands]; exact .inr (by simpa using hx)))
    have := VR.fn (f := fn) h1.len h1.at_ h2.len h2.at_
    have e1 : (f.toList.map a.eval).toArray = f.map a.eval := by apply Array.ext'; simp
    have e2 : (c.toList.map a.eval).toArray = c.map a.eval := by apply Array.ext'; simp
    rw [e1, e2] at this
    exact this
  | makeSlice t l c =>
    simp only [rd] at hr
    split at hr
    · rename_i el ht
      split at hr
      · rename_i z i k1 n k2 m hz hi hl hc
        have e1 := he l (by simp [Op.operands])
        have e2 := he c (by simp [Op.operands])
        rw [hl] at e1
        rw [hc] at e2
        have e1' := e1.inv_s
        have e2' := e2.inv_s
        split at hr
        · rename_i hcc
          obtain ⟨hzl, h0⟩ := hcc
          obtain ⟨zv, z1, z2, z3, i', hi', hz'⟩ := run_zeroA hz W
          rw [hi] at hi'
          cases hi'
          have fin : ∀ {xs : List AV}, ρ nid = none → (0 ≤ n ∧ n ≤ m ∧ m * i.bytes ≤ 140737488355328 ∧ m ≤ 140737488355328) → replZ n.toNat z = xs → Good C.P w0 ρ M H W (execOp a.eval ⟨dst, .makeSlice t l c, ty, pos, af, gd⟩) (.osl nid 0 n.toNat i.size) (newsW nid [.arr (n.toNat * i.size) xs 0]) := by
            intro xs hn hin hx
            obtain ⟨i1, i2, i3, i4⟩ := hin
            have hzv : zv.cells.toList.length = i.size := by rw [← (z2 M ρ).len]; exact hzl
            obtain ⟨A, B, q1, q2, q3⟩ := zero_cells_list (M := M) (ρ := ρ) (z2 M ρ) (by omega) n.toNat m.toNat (by omega)
            simp only [Array.toArray_toList, hzv] at q1
            have hrun := run_make (P := C.P) W t el i zv ht hi hz' k1 k2 n m i1 i2 (by rw [Int.mul_comm]; omega) (by omega)
            rw [← Array.toArray_toList (xs := madeCells zv.cells (m.toNat * i.size)), q1] at hrun
            subst hx
            refine good_row hw hn el (cs := replZ n.toNat z) (vs := A) (us := B) q2 (q3 z3) (by rw [List.length_replZ, hzl]) (y := .slice (some ⟨W.heap.size, 0, none⟩) n.toNat m.toNat) (.osl (Nm.upd_self _ _ _) (by omega) ?_) ?_
            · rw [← q1]; simp [size_madeCells]
            · rw [e1', e2']; exact hrun
          split at hr
          · cases hr
            exact fin (hn0 (by simp)) (allB_dec hb).1 hp.1
          · cases hr
            exact fin (hn0 (by simp)) (allB_dec hb).1 rfl
        · cases hr
      · cases hr
    · cases hr
  | slice t x lo hi mx =>
    obtain ⟨rfl, hy⟩ := ok_slice hw hr hb hp (he x (by simp [Op.operands]))
      (bds_of fun y hy => he y (by subst hy; simp [Op.operands])) (bds_of fun y hy => he y (by subst hy; simp [Op.operands])) (bds_of fun y hy => he y (by subst hy; simp [Op.operands]))
    exact Good.same hw hy
  | fieldAddr t x f =>
    simp only [rd] at hr
    split at hr
    · rename_i fd hf
      split at hr
      · rename_i sz hs
        split at hr
        · cases hr
        · rename_i h0
          have h1 := he x (by simp [Op.operands])
          split at hr
          · rename_i id off hx
            cases hr
            exact Good.same hw (ok_fieldAddr hf hs h0 h1 (by rw [hx]; rfl))
          · rename_i cs hx
            cases hr
            exact Good.same hw (ok_fieldAddr hf hs h0 h1 (by rw [hx]; rfl))
          · cases hr
      · cases hr
    · cases hr
  | field t x f =>
    simp only [rd] at hr
    split at hr
    · rename_i fd cs hf hx
      simp only [Option.map_eq_some_iff] at hr
      obtain ⟨w, hw', h2⟩ := hr
      cases h2
      have h1 := he x (by simp [Op.operands])
      rw [hx] at h1
      obtain ⟨vs, hu, k1, k2⟩ := h1.inv_agg
      obtain ⟨y, y1, y2⟩ := ok_part (W := W) hw' k1 k2
      unfold fieldOf at hf
      split at hf
      · rename_i fs hfs
        refine Good.same hw ⟨y, ?_, y2⟩
        rw [hu]
        simp only [Instr.field, Sem.run_bind, run_underlying hfs, Result.andThen_ok, hf, asAgg, Sem.run_pure, y1]
      · cases hf
    · cases hr
  | indexAddr t x ix =>
    obtain ⟨rfl, hy⟩ := ok_indexAddr (W := W) hr hb hp (he x (by simp [Op.operands])) (he ix (by simp [Op.operands]))
    exact Good.same hw hy
  | index t x ix =>
    have h1 := he x (by simp [Op.operands])
    have h2 := he ix (by simp [Op.operands])
    simp only [rd] at hr
    split at hr
    · rename_i b k i ht hx hi
      cases hr
      obtain ⟨h0, _⟩ := allB_dec hb
      rw [hx] at h1
      rw [hi] at h2
      refine Good.same hw ⟨_, ?_, .s _ _⟩
      rw [h1.inv_s, h2.inv_s]
      have hlt : i.toNat < b.size := by omega
      have hlt2 : i.toNat < b.data.toList.length := by simpa using hlt
      have e1 : b[i.toNat]? = some (b.data.toList.getD i.toNat 0) := by
        rw [getElem?_pos b i.toNat hlt]
        simp [List.getD, List.getElem?_eq_getElem hlt2]
        rfl
      simp [Instr.index, asIntOf, run_underlying ht, h0.1, e1]
    · rename_i len el cs k i ht hx hi
      rw [hx] at h1
      rw [hi] at h2
      obtain ⟨vs, hu, k1, k2⟩ := h1.inv_agg
      split at hr
      · rename_i sz hs
        have fin : ∀ {w : AV} {xs : List AV}, 0 ≤ i ∧ i < (len : Int) → cs.drop (i.toNat * sz) = xs → partA C el xs = some w → Good C.P w0 ρ M H W (execOp a.eval ⟨dst, .index t x ix, ty, pos, af, gd⟩) w [] := by
          intro w xs hin hx' hp'
          subst hx'
          obtain ⟨y, y1, y2⟩ := ok_part (W := W) hp' k1 k2
          refine Good.same hw ⟨y, ?_, y2⟩
          rw [hu, h2.inv_s]
          simp only [Instr.index, asIntOf, Sem.run_bind, Sem.run_pure, Result.andThen_ok, run_underlying ht, if_pos hin, run_szOf hs, y1]
        split at hr
        · simp only [Option.map_eq_some_iff] at hr
          obtain ⟨w, hw', h3⟩ := hr
          cases h3
          exact fin (allB_dec hb).1 hp.1 hw'
        · simp only [Option.map_eq_some_iff] at hr
          obtain ⟨w, hw', h3⟩ := hr
          cases h3
          exact fin (allB_dec hb).1 rfl hw'
      · cases hr
    · cases hr
  | extract x ix =>
    have h1 := he x (by simp [Op.operands])
    simp only [rd] at hr
    split at hr
    · rename_i vs hx
      simp only [Option.map_eq_some_iff] at hr
      obtain ⟨w, hw', h3⟩ := hr
      cases h3
      rw [hx] at h1
      obtain ⟨us, hu, k1⟩ := h1.inv_tup
      obtain ⟨y, y1, y2⟩ := k1.get hw'
      exact Good.same hw ⟨y, by rw [hu]; simp [Instr.extract, y1], y2⟩
    · cases hr
  | call c =>
    simp only [rd] at hr
    split at hr
    · rename_i b hb'
      have hx := vals_ok (e := e) (a := a) (xs := c.args.toList) (M := M) (ρ := ρ) (fun x hx => he x (by simp [Op.operands, Call.operands]; exact .inr (by simpa using hx)))
      obtain ⟨rfl, y, y1, y2⟩ := ok_builtin (ty := ty) (cn := c.args.map fun | .const _ => true | _ => false) hw hr hx
      refine ⟨_, y, W, ρ, ?_, .inl rfl, Nm.le.refl _, hw, y2, fun i x h => .inl h⟩
      simp only [execOp, resolve, hb', Sem.run_bind, Sem.run_pure, Result.andThen_ok, invoke]
      have e2 : (c.args.toList.map a.eval).toArray = c.args.map a.eval := by apply Array.ext'; simp
      rw [e2, Array.toArray_toList] at y1
      exact y1
    · cases hr
  | _ => cases hr
end
end Go.Pm

set_option linter.unusedVariables false
namespace Go.Pm
open Go Go.RowKit
section
variable {P : Program} {w0 W : World} {ρ : Nm} {M : Mem} {H : List Bk}
/-- cells laid into a row -/
theorem run_cells (P : Program) (g o : Nat) (e : TypeId) (fr : Nat × Nat) : ∀ (vs : List Value) (i : Nat) (cur : Array Value) (W : World), W.heap[g]? = some (.cells cur e fr) → o + i + vs.length ≤ cur.size →
    (∀ j, j < cur.size → (decide (fr.1 ≤ j) && decide (j < fr.2)) = false) → (∀ v ∈ vs, v.oneCell' = true) →
    ∃ W' cur', (storeCells ⟨g, o, none⟩ vs i).run P W = .ok () W' ∧ W'.heap[g]? = some (.cells cur' e fr) ∧ cur'.size = cur.size ∧ (∀ j, cur'[j]? = if o + i ≤ j ∧ j < o + i + vs.length then vs[j - (o + i)]? else cur[j]?) ∧
      (∀ k, k ≠ g → W'.heap[k]? = W.heap[k]?) ∧ (W'.os = W.os ∧ W'.tape = W.tape ∧ W'.output = W.output ∧ W.heap.size ≤ W'.heap.size) := by
  intro vs
  induction vs with
  | nil =>
    intro i cur W hg _ _ _
    exact ⟨W, cur, rfl, hg, rfl, fun j => by rw [if_neg (by simp only [List.length_nil]; omega)], fun k _ => rfl, rfl, rfl, rfl, Nat.le_refl _⟩
  | cons v vs ih =>
    intro i cur W hg hl hf h1
    have hlt : o + i < cur.size := by simp at hl; omega
    have hc : W.cell? ⟨g, o + i, none⟩ = some cur[o + i] := by simp [World.cell?, hg, hlt]
    have hfz : W.frozen? ⟨g, o + i, none⟩ = false := by
      have := hf (o + i) hlt
      simpa [World.frozen?, hg] using this
    have hset : (W.setCell ⟨g, o + i, none⟩ v).heap[g]? = some (.cells (cur.setIfInBounds (o + i) v) e fr) := by
      have hgl := (Array.getElem?_eq_some_iff.1 hg)
      simp only [World.setCell]
      rw [Array.getElem?_modify, if_pos rfl, hg]
      simp
    have hother : ∀ k, k ≠ g → (W.setCell ⟨g, o + i, none⟩ v).heap[k]? = W.heap[k]? := fun k hk => by
      simp only [World.setCell]
      rw [Array.getElem?_modify, if_neg (Ne.symm hk)]
    obtain ⟨W', cur', r1, r2, r3, r4, r5, r6⟩ := ih (i + 1) _ _ hset (by simp at hl ⊢; omega) (by simpa using hf) (fun u hu => h1 u (by simp [hu]))
    refine ⟨W', cur', ?_, r2, by simpa using r3, fun j => ?_, fun k hk => (r5 k hk).trans (hother k hk), ?_⟩
    · simp only [storeCells, Sem.run_bind, add_flat]
      rw [run_store P W _ v .plain (h1 v (by simp))]
      simp only [hc, hfz, Bool.false_eq_true, if_false, Result.andThen_ok]
      exact r1
    · rw [r4]
      simp only [List.length_cons]
      by_cases hj : j = o + i
      · subst hj
        rw [if_neg (by omega), if_pos (by omega)]
        simp [hlt]
      · by_cases h2 : o + (i + 1) ≤ j ∧ j < o + (i + 1) + vs.length
        · rw [if_pos h2, if_pos (by omega)]
          have : j - (o + i) = (j - (o + (i + 1))) + 1 := by omega
          rw [this, List.getElem?_cons_succ]
        · rw [if_neg h2, if_neg (by omega)]
          simp [Array.getElem?_setIfInBounds_ne (Ne.symm hj)]
    · obtain ⟨q1, q2, q3, q4⟩ := r6
      exact ⟨q1, q2, q3, by simpa [World.setCell] using q4⟩
/-- a number that is nobody's is given away -/
theorem WR.putNone (hw : WR w0 ρ M H W) {id : Nat} (hno : ρ id = none) (B0 : Bk) : WR w0 ρ M (putB H (id, B0)) W := by
  have hget : ∀ i x, ρ i = some x → (putB H (id, B0))[i]? = H[i]? := fun i x hi => by
    have hne : i ≠ id := fun e => by subst e; rw [hno] at hi; cases hi
    rw [get_putB, if_neg hne, if_pos (hw.dom i x hi)]
  refine ⟨hw.bel, hw.fro, fun i x hi => ?_, fun i j b s t B B' hi hj h1 l1 h2 l2 => ?_, fun i b s B hi h1 l1 => ?_, fun i b s B hi h1 => ?_, fun i b s B hi h1 l1 => ?_⟩
  · rw [len_putB]; have := hw.dom i x hi; omega
  · rw [hget i _ hi] at h1; rw [hget j _ hj] at h2; exact hw.inj i j b s t B B' hi hj h1 l1 h2 l2
  · rw [hget i _ hi] at h1; exact hw.new i b s B hi h1 l1
  · rw [hget i _ hi] at h1; exact hw.blk i b s B hi h1
  · rw [hget i _ hi] at h1; exact hw.apart i b s B hi h1 l1
/-- a block that is given up -/
theorem WR.kill (hw : WR w0 ρ M H W) (id : Nat) : WR w0 ρ M (putB H (id, .dead)) W := by
  have hget : ∀ i x B, ρ i = some x → (putB H (id, .dead))[i]? = some B → B.live → i ≠ id ∧ H[i]? = some B := by
    intro i x B hi h1 l1
    rw [get_putB] at h1
    by_cases e : i = id
    · rw [if_pos e] at h1; cases h1; exact l1.elim
    · rw [if_neg e, if_pos (hw.dom i x hi)] at h1; exact ⟨e, h1⟩
  refine ⟨hw.bel, hw.fro, fun i x hi => ?_, fun i j b s t B B' hi hj h1 l1 h2 l2 => ?_, fun i b s B hi h1 l1 => ?_, fun i b s B hi h1 => ?_, fun i b s B hi h1 l1 => ?_⟩
  · rw [len_putB]; have := hw.dom i x hi; omega
  · exact hw.inj i j b s t B B' hi hj (hget i _ _ hi h1 l1).2 l1 (hget j _ _ hj h2 l2).2 l2
  · exact hw.new i b s B hi (hget i _ _ hi h1 l1).2 l1
  · by_cases hl : B.live
    · exact hw.blk i b s B hi (hget i _ _ hi h1 hl).2
    · cases B with
      | dead => trivial
      | arr => exact absurd trivial hl
      | map => exact absurd trivial hl
      | iter => exact absurd trivial hl
  · exact hw.apart i b s B hi (hget i _ _ hi h1 l1).2 l1
/-- a row that is gone on with in its place -/
theorem WR.extend (h : WR w0 ρ M H W) {id nid b : Nat} {sz : Sz} {L off : Nat} {fz fz' : Fz} (hfn : fz.n ≤ fz'.n + off) (hft : ∀ u, fz'.ty = some u → fz.ty = some u) {cs : List AV} (hid : ρ id = some (b, sz)) (hB : H[id]? = some (.arr L cs fz)) (hn : ρ nid = none) {xs : List AV} {vs : List Value} (hx : L2 (VR M ρ) xs vs) (h1 : ∀ v ∈ vs, v.oneCell' = true)
    (hoff : off ≤ L) (hfit : L + sz.base + xs.length ≤ sz.tot) {cur : Array Value} {e : TypeId} {fr : Nat × Nat} (hcur : W.heap[b]? = some (.cells cur e fr)) {cur' : Array Value} (hs : cur'.size = cur.size)
    (hc : ∀ i, cur'[i]? = if L + sz.base ≤ i ∧ i < L + sz.base + vs.length then vs[i - (L + sz.base)]? else cur[i]?) (hfz : fz ≤ L) {W' : World} (hW : W'.heap[b]? = some (.cells cur' e fr)) (ho : ∀ k, k ≠ b → W'.heap[k]? = W.heap[k]?) (hos : W'.os = W.os ∧ W'.tape = W.tape ∧ W'.output = W.output ∧ W.heap.size ≤ W'.heap.size) :
    WR w0 (ρ.upd nid (b, ⟨sz.tot, off + sz.base⟩)) M (putB (putB H (id, .dead)) (nid, .arr (L - off + xs.length) (cs.drop off ++ xs) fz')) W' := by
  obtain ⟨b1, b2, ⟨cur0, e0, fr0, b3, b4, b5, b6⟩, b7, b8⟩ := h.blk id b sz _ hid hB
  rw [hcur] at b3
  cases b3
  have hne : nid ≠ id := fun e => by subst e; rw [hn] at hid; cases hid
  have hwb : w0.heap.size ≤ b := h.new id b sz _ hid hB trivial
  have hget : ∀ i x B, ρ i = some x → (putB (putB H (id, .dead)) (nid, .arr (L - off + xs.length) (cs.drop off ++ xs) fz'))[i]? = some B → B.live → i ≠ id ∧ i ≠ nid ∧ H[i]? = some B := by
    intro i x B hi g1 l1
    have hni : i ≠ nid := fun e => by subst e; rw [hn] at hi; cases hi
    rw [get_putB, if_neg hni, len_putB, if_pos (by have := h.dom i x hi; omega), get_putB] at g1
    by_cases e : i = id
    · rw [if_pos e] at g1; cases g1; exact l1.elim
    · rw [if_neg e, if_pos (h.dom i x hi)] at g1; exact ⟨e, hni, g1⟩
  have hself : (putB (putB H (id, .dead)) (nid, .arr (L - off + xs.length) (cs.drop off ++ xs) fz'))[nid]? = some (.arr (L - off + xs.length) (cs.drop off ++ xs) fz') := by rw [get_putB, if_pos rfl]
  refine ⟨?_, ?_, ?_, ?_, ?_, ?_, ?_⟩
  · exact h.bel.trans ⟨hos.1, hos.2.1, hos.2.2.1, hos.2.2.2, fun k hk => ho k (by omega)⟩
  · refine ⟨fun k o v hk => ?_, fun k kv hk => ?_, fun k o hk => ?_, Nat.le_trans h.fro.base hos.2.2.2⟩
    · obtain ⟨k1, k2⟩ := h.fro.cell k o v hk
      refine ⟨?_, k2⟩
      by_cases e1 : k = b
      · subst e1
        have hlt := b7 o v hk
        simp only [World.cell?, hW, hcur] at k1 ⊢
        simp only [Option.isSome_none, Bool.false_eq_true, if_false] at k1 ⊢
        rw [hc, if_neg (by omega)]
        exact k1
      · rw [World.cell?_of_block (w := W) (a := ⟨k, o, none⟩) (ho k e1)]; exact k1
    · obtain ⟨k1, k2⟩ := h.fro.map k kv hk
      have e1 : k ≠ b := fun e => by subst e; rw [hcur] at k1; cases k1
      exact ⟨(ho k e1).trans k1, k2⟩
    · obtain ⟨k1, k2⟩ := h.fro.obj k o hk
      have e1 : k ≠ b := fun e => by subst e; rw [h.apart id k sz _ hid hB trivial] at hk; cases hk
      exact ⟨(ho k e1).trans k1, k2⟩
  · intro i x hi
    rw [len_putB, len_putB]
    by_cases e1 : i = nid
    · subst e1; simp only; omega
    · rw [Nm.upd_ne _ _ e1] at hi
      have := h.dom i x hi
      omega
  · intro i j c s t B1 B2 hi hj g1 l1 g2 l2
    by_cases e1 : i = nid <;> by_cases e2 : j = nid
    · rw [e1, e2]
    · subst e1
      rw [Nm.upd_self] at hi
      rw [Nm.upd_ne _ _ e2] at hj
      cases hi
      obtain ⟨q1, q2, q3⟩ := hget j _ _ hj g2 l2
      exact absurd (h.inj j id _ _ _ _ _ hj hid q3 l2 hB trivial) q1
    · subst e2
      rw [Nm.upd_self] at hj
      rw [Nm.upd_ne _ _ e1] at hi
      cases hj
      obtain ⟨q1, q2, q3⟩ := hget i _ _ hi g1 l1
      exact absurd (h.inj i id _ _ _ _ _ hi hid q3 l1 hB trivial) q1
    · rw [Nm.upd_ne _ _ e1] at hi
      rw [Nm.upd_ne _ _ e2] at hj
      exact h.inj i j c s t B1 B2 hi hj (hget i _ _ hi g1 l1).2.2 l1 (hget j _ _ hj g2 l2).2.2 l2
  · intro i c s B1 hi g1 l1
    by_cases e1 : i = nid
    · subst e1
      rw [Nm.upd_self] at hi
      cases hi; exact hwb
    · rw [Nm.upd_ne _ _ e1] at hi
      exact h.new i c s B1 hi (hget i _ _ hi g1 l1).2.2 l1
  · intro i c s B1 hi g1
    by_cases e1 : i = nid
    · subst e1
      rw [Nm.upd_self] at hi
      cases hi
      rw [hself] at g1
      cases g1
      have hlen := hx.len
      have hdl : (cs.drop off).length = L - off := by rw [List.length_drop, ← b1]
      refine ⟨by rw [List.length_append, hdl], ?_, ⟨cur', e, fr, hW, by rw [hs]; exact b4, b5, fun j d hj => ?_⟩, fun o v hv => ⟨?_, ?_⟩, fun u e => (b8.set hcur hW) u (hft u e)⟩
      · show L - off + xs.length + (off + sz.base) ≤ sz.tot
        omega
      · show ∃ u, cur'[j + (off + sz.base)]? = some u ∧ _
        rw [hc]
        by_cases hin : L - off ≤ j ∧ j < L - off + vs.length
        · rw [if_pos (by omega), show j + (off + sz.base) - (L + sz.base) = j - (L - off) by omega]
          rw [List.getElem?_append_right (by omega), hdl] at hj
          obtain ⟨v, hv, hr⟩ := hx.get hj
          exact ⟨v, hv, h1 v (List.mem_of_getElem? hv), hr.mono (Mem.le.refl M) (Nm.le_upd _ hn)⟩
        · have hjl : j < (cs.drop off).length := by
            have := (List.getElem?_eq_some_iff.1 hj).1
            rw [List.length_append] at this
            omega
          rw [if_neg (by omega)]
          rw [List.getElem?_append_left hjl, List.getElem?_drop] at hj
          obtain ⟨u, q1, q2, q3⟩ := b6 _ d hj
          exact ⟨u, by rw [show j + (off + sz.base) = off + j + sz.base by omega]; exact q1, q2, q3.mono (Mem.le.refl M) (Nm.le_upd _ hn)⟩
      · have := (b7 o v hv).1
        show o < fz'.n + (off + sz.base)
        omega
      · have := (b7 o v hv).2
        show o < L - off + xs.length + (off + sz.base)
        omega
    · rw [Nm.upd_ne _ _ e1] at hi
      by_cases hl : B1.live
      · obtain ⟨q1, q2, q3⟩ := hget i _ _ hi g1 hl
        have hnb : c ≠ b := fun eb => by subst eb; exact q1 (h.inj i id _ _ _ _ _ hi hid q3 hl hB trivial)
        exact (h.blk i c s B1 hi q3).keep (Nm.le_upd _ hn) (ho c hnb)
      · cases B1 with
        | dead => trivial
        | arr => exact absurd trivial hl
        | map => exact absurd trivial hl
        | iter => exact absurd trivial hl
  · intro i c s B1 hi g1 l1
    by_cases e1 : i = nid
    · subst e1
      rw [Nm.upd_self] at hi
      cases hi
      exact h.apart id b sz _ hid hB trivial
    · rw [Nm.upd_ne _ _ e1] at hi
      exact h.apart i c s B1 hi (hget i _ _ hi g1 l1).2.2 l1
theorem ok_store (hw : WR w0 ρ M H W) {t : TypeId} {sz : Nat} (hs : szOf P t = some sz) {id off L : Nat} {fz : Fz} {cs : List AV} (hB : H[id]? = some (.arr L cs fz)) {y : AV} {u v : Value} (hx : VR M ρ (.ptr id off) u) (hy : VR M ρ y v) (hc : okCells y = true) (hl : (cellsA y).length = sz)
    (hfit : off + sz ≤ L) (hfz : fz ≤ off) :
    ∃ W', (Instr.storeAt t u v).run P W = .ok () W' ∧ WR w0 ρ M (putB H (id, .arr L (splice cs off (cellsA y)) fz)) W' := by
  cases hx with
  | ptr h1 =>
    rename_i b s
    obtain ⟨k1, k2, ⟨cur, e, fr, k3, k4, k5, k6⟩, k7, k8⟩ := hw.blk _ _ _ _ h1 hB
    obtain ⟨c1, c2⟩ := hy.cells hc
    have hlv : v.cells.toList.length = sz := by rw [← c1.len]; exact hl
    obtain ⟨W', cur', r1, r2, r3, r4, r5, r6⟩ := run_cells P b (off + s.base) e fr v.cells.toList 0 cur W k3 (by omega) (by rw [k4]; exact k5) c2
    refine ⟨W', ?_, hw.setRow h1 hB c1 c2 (by omega) hfz k3 r3 (by simpa using r4) r2 r5 r6⟩
    have : v.cells.size = sz := by simpa using hlv
    simp [Instr.storeAt, Instr.sureAddr, storeVar, run_szOf hs, this, r1]
theorem ok_copy (hw : WR w0 ρ M H W) {t el sT : TypeId} {ty : TypeId} {sz : Nat} (ht : P.underlying t = some (.slice el)) (hs : szOf P el = some sz) {id off n k L m : Nat} {fz : Fz} {cs xs : List AV} (hB : H[id]? = some (.arr L cs fz)) {x : AV} {u v : Value}
    (hd : VR M ρ (.osl id off n k) u) (hk : k = sz) (hsrc : srcA (fun j => H[j]?) sz x = some (m, xs)) (hl : xs.length = m * sz) (hx : VR M ρ x v) (hfit : off + n * sz ≤ L) (hfz : fz ≤ off) :
    ∃ W', (Builtin.copy_ #[t, sT] ty #[u, v]).run P W = .ok (.int .i64 (min m n : Nat)) W' ∧ WR w0 ρ M (putB H (id, .arr L (splice cs off (xs.take (min m n * sz))) fz)) W' := by
  obtain ⟨vs, S⟩ := src_ok (P := P) hw hsrc hl hx
  have hlen := S.len
  have hc := S.cells (min m n) (Nat.min_le_left _ _)
  have hmin : ∀ a b : Nat, Nat.min a b = min a b := fun _ _ => rfl
  cases hd with
  | osl_e =>
    rename_i a
    have h0 : min m 0 = 0 := by omega
    rw [h0] at hc ⊢
    simp only [Nat.zero_mul, List.take_zero] at hc ⊢
    refine ⟨W, ?_, ?_⟩
    · cases a <;> simp [Builtin.copy_, run_underlying ht, hlen, run_szOf hs, hmin, h0, hc, storeCells, goInt]
    · by_cases hid : ∃ q, ρ id = some q
      · obtain ⟨⟨b, s⟩, hid⟩ := hid
        obtain ⟨k1, k2, ⟨cur, e, fr, k3, k4, k5, k6⟩, k7, k8⟩ := hw.blk _ _ _ _ hid hB
        exact hw.setRow hid hB (xs := []) (vs := []) L2.nil (by simp) (by simp; omega) hfz k3 rfl (fun i => by rw [if_neg (by simp only [List.length_nil]; omega)]) k3 (fun _ _ => rfl) ⟨rfl, rfl, rfl, Nat.le_refl _⟩
      · have hno : ρ id = none := by
          cases h : ρ id with
          | none => rfl
          | some q => exact absurd ⟨q, h⟩ hid
        exact hw.putNone hno _
  | osl h1 h2 h3 =>
    rename_i b s cap
    subst hk
    obtain ⟨k1, k2, ⟨cur, e, fr, k3, k4, k5, k6⟩, k7, k8⟩ := hw.blk _ _ _ _ h1 hB
    have hvl : vs.length = m * k := by rw [← S.l2.len]; exact hl
    have hle : min m n * k ≤ m * k := Nat.mul_le_mul_right _ (Nat.min_le_left _ _)
    have hle2 : min m n * k ≤ n * k := Nat.mul_le_mul_right _ (Nat.min_le_right _ _)
    have htl : (vs.take (min m n * k)).length = min m n * k := by rw [List.length_take]; omega
    have hxl : (xs.take (min m n * k)).length = min m n * k := by rw [List.length_take]; omega
    obtain ⟨W', cur', r1, r2, r3, r4, r5, r6⟩ := run_cells P b (off + s.base) e fr (vs.take (min m n * k)) 0 cur W k3 (by omega) (by rw [k4]; exact k5) (fun v hv => S.one v (List.mem_of_mem_take hv))
    refine ⟨W', ?_, hw.setRow h1 hB (S.l2.take _) (fun v hv => S.one v (List.mem_of_mem_take hv)) (by omega) hfz k3 r3 (by simpa using r4) r2 r5 r6⟩
    simp [Builtin.copy_, run_underlying ht, hlen, run_szOf hs, hmin, hc, r1, goInt]
theorem zero_cells_l {z : List AV} {vs : Array Value} (hz : L2 (VR M ρ) z vs.toList) (n : Nat) : L2 (VR M ρ) (replZ n z) (Builtin.zeroCells vs n).toList := by
  have e : (Builtin.zeroCells vs n).toList = (List.replicate n vs.toList).flatten := by
    apply List.ext_getElem?
    intro i
    induction n generalizing i with
    | zero => simp [Builtin.zeroCells]
    | succ k ih =>
      rw [List.replicate_succ, List.flatten_cons, List.getElem?_append]
      simp only [Builtin.zeroCells, Array.toList_map, Array.toList_range, List.getElem?_map] at ih ⊢
      by_cases hi : i < vs.toList.length
      · have hi' : i < vs.size := by simpa using hi
        rw [if_pos hi, List.getElem?_range (by rw [Nat.add_mul]; omega)]
        simp [Nat.mod_eq_of_lt hi', hi']
      · have hi' : ¬ i < vs.size := by simpa using hi
        rw [if_neg hi, ← ih, Array.length_toList]
        by_cases h2 : i < (k + 1) * vs.size
        · rw [List.getElem?_range h2, List.getElem?_range (by rw [Nat.add_mul] at h2; omega)]
          simp only [Option.map_some]
          rw [Nat.mod_eq_sub_mod (by omega)]
        · rw [List.getElem?_eq_none (by simpa using h2), List.getElem?_eq_none (by simp; rw [Nat.add_mul] at h2; omega)]
  rw [e]
  clear e
  induction n with
  | zero => exact L2.nil
  | succ n ih =>
    simp only [replZ, List.replicate_succ, List.flatten_cons]
    exact hz.append ih
theorem zero_cells_one {vs : Array Value} (h : ∀ v ∈ vs.toList, v.oneCell' = true) (n : Nat) : ∀ v ∈ (Builtin.zeroCells vs n).toList, v.oneCell' = true := by
  intro v hv
  simp only [Builtin.zeroCells, Array.toList_map, Array.toList_range, List.mem_map, List.mem_range] at hv
  obtain ⟨i, hi, rfl⟩ := hv
  have h0 : 0 < vs.size := by
    rcases Nat.eq_zero_or_pos vs.size with h0 | h0
    · rw [h0] at hi; simp at hi
    · exact h0
  have hm : i % vs.size < vs.size := Nat.mod_lt _ h0
  rw [getElem!_pos vs (i % vs.size) hm]
  exact h _ (by simp)
theorem ok_clear (hw : WR w0 ρ M H W) {t el ty : TypeId} {sz : Nat} {z : List AV} (ht : P.underlying t = some (.slice el)) (hz : zeroA P el = some z) (hzl : z.length = sz) {id off n k L : Nat} {fz : Fz} {cs : List AV} (hB : H[id]? = some (.arr L cs fz)) {u : Value}
    (hd : VR M ρ (.osl id off n k) u) (hk : k = sz) (hfit : off + n * sz ≤ L) (hfz : fz ≤ off) :
    ∃ W', (Builtin.clear_ #[t] ty #[u]).run P W = .ok (.tuple #[]) W' ∧ WR w0 ρ M (putB H (id, .arr L (splice cs off (replZ n z)) fz)) W' := by
  obtain ⟨zv, z1, z2, z3, _⟩ := run_zeroA hz W
  have same : n = 0 → WR w0 ρ M (putB H (id, .arr L (splice cs off (replZ n z)) fz)) W := by
    intro h0
    subst h0
    simp only [Nat.zero_mul] at hfit
    by_cases hid : ∃ q, ρ id = some q
    · obtain ⟨⟨b, s⟩, hid⟩ := hid
      obtain ⟨k1, k2, ⟨cur, e, fr, k3, k4, k5, k6⟩, k7, k8⟩ := hw.blk _ _ _ _ hid hB
      exact hw.setRow hid hB (xs := []) (vs := []) L2.nil (by simp) (by simp; omega) hfz k3 rfl (fun i => by rw [if_neg (by simp only [List.length_nil]; omega)]) k3 (fun _ _ => rfl) ⟨rfl, rfl, rfl, Nat.le_refl _⟩
    · have hno : ρ id = none := by
        cases h : ρ id with
        | none => rfl
        | some q => exact absurd ⟨q, h⟩ hid
      exact hw.putNone hno _
  cases hd with
  | osl_e =>
    rename_i a
    refine ⟨W, ?_, same rfl⟩
    cases a <;> simp [Builtin.clear_, run_underlying ht]
  | osl h1 h2 h3 =>
    rename_i b s cap
    subst hk
    cases n with
    | zero => exact ⟨W, by simp [Builtin.clear_, run_underlying ht], same rfl⟩
    | succ n =>
      obtain ⟨k1, k2, ⟨cur, e, fr, k3, k4, k5, k6⟩, k7, k8⟩ := hw.blk _ _ _ _ h1 hB
      have l2 := zero_cells_l (z2 M ρ) (n + 1)
      have one := zero_cells_one z3 (n + 1)
      have hvl : (Builtin.zeroCells zv.cells (n + 1)).toList.length = (n + 1) * k := by rw [← l2.len, List.length_replZ, hzl]
      obtain ⟨W', cur', r1, r2, r3, r4, r5, r6⟩ := run_cells P b (off + s.base) e fr (Builtin.zeroCells zv.cells (n + 1)).toList 0 cur W k3 (by omega) (by rw [k4]; exact k5) one
      have hl2 : (replZ (n + 1) z).length = (n + 1) * k := by rw [List.length_replZ, hzl]
      refine ⟨W', ?_, hw.setRow h1 hB l2 one (by omega) hfz k3 r3 (by simpa using r4) r2 r5 r6⟩
      simp [Builtin.clear_, run_underlying ht, z1, r1]
end
end Go.Pm

set_option linter.unusedVariables false
namespace Go.Pm
open Go Go.RowKit
section
variable {P : Program} {w0 W : World} {ρ : Nm} {M : Mem} {H : List Bk}
theorem Src.drew {sz m : Nat} {xs : List AV} {u : Value} {vs : List Value} (S : Src P W M ρ sz m xs u vs) (hw : WR w0 ρ M H W) {x : AV} (h : srcA (fun j => H[j]?) sz x = some (m, xs)) (hl : xs.length = m * sz) (hx : VR M ρ x u) : ∃ vs', Src P W.drew M ρ sz m xs u vs' := src_ok hw.drew h hl hx
/-- an append that makes a new row -/
theorem run_grow {t sT el ty : TypeId} {i : TypeInfo} {z : Value} (ht : P.underlying t = some (.slice el)) (hud : ∃ ud, P.underlying sT = some ud ∧ srcD ud = true) (hi : P.info? el = some i) (hz : i.zero = some z)
    {a : Option Addr} {n cap m : Nat} {u : Value} {vs olds : List Value} (hlen : (Builtin.lenOf u).run P W = .ok m W) (hc : (Builtin.firstCells i.size m u).run P W.drew = .ok vs.toArray W.drew) (ho : (Builtin.firstCells i.size n (.slice a n cap)).run P W.drew = .ok olds.toArray W.drew)
    (hg : cap < n + m) (hb : 0 < i.bytes) (hbytes : (n + m) * i.bytes ≤ 140737488355328) :
    (Builtin.append_ #[t, sT] ty #[.slice a n cap, u]).run P W = .ok (.slice (some ⟨W.heap.size, 0, none⟩) (n + m) (grownCap W (n + m) cap el)) (W.drew.alloc (.cells ((olds ++ vs) ++ (Builtin.zeroCells z.cells (grownCap W (n + m) cap el - (n + m))).toList).toArray el)) := by
  obtain ⟨ud, hud, hud2⟩ := hud
  have hn : ¬ (n + m ≤ cap) := by omega
  have h63 : n + m ≤ 140737488355328 := Nat.le_trans (Nat.le_mul_of_pos_right _ hb) hbytes
  have h63' : ¬ (9223372036854775807 < ((n : Int) + (m : Int))) := by omega
  have h48' : ¬ (281474976710656 < Builtin.nextslicecap (n + m) cap * i.bytes) := by have := growslice_fits (old := cap) (need := n + m) (bytes := i.bytes) (by omega) hbytes; omega
  have hzr : ∀ k, (Array.mk (olds ++ vs ++ (Builtin.zeroCells z.cells k).toList)) = olds.toArray ++ vs.toArray ++ Builtin.zeroCells z.cells k := by
    intro k
    apply Array.ext'
    simp
  have hzr' : ((olds ++ vs ++ (Builtin.zeroCells z.cells (grownCap W (n + m) cap el - (n + m))).toList)).toArray = olds.toArray ++ vs.toArray ++ Builtin.zeroCells z.cells (grownCap W (n + m) cap el - (n + m)) := hzr _
  rw [hzr']
  cases ud <;> simp [srcD] at hud2 <;>
    simp [Builtin.append_, run_underlying ht, run_underlying hud, sizeOf, typeInfo, zeroValue, hi, hz, hlen, hn, h63', h48', Question.forced, hc, ho, newRow, grownCap] <;>
    (congr 2; apply Array.ext'; simp [List.append_assoc])
theorem ok_append (hw : WR w0 ρ M H W) {nid : Nat} (hn : ρ nid = none) {t sT el ty : TypeId} {i : TypeInfo} {zs : List AV} (ht : P.underlying t = some (.slice el)) (hud : ∃ ud, P.underlying sT = some ud ∧ srcD ud = true) (hi : P.info? el = some i) (hz : zeroA P el = some zs)
    (hzl : zs.length = i.size) (h0 : 0 < i.size) (hb : 0 < i.bytes) {x : AV} {m n : Nat} {xs cs : List AV} (hsrc : srcA (fun j => H[j]?) i.size x = some (m, xs)) (hl : xs.length = m * i.size) {u : Value} (hx : VR M ρ x u) (hbytes : (n + m) * i.bytes ≤ 140737488355328)
    {s : AV} {v : Value} (hs : VR M ρ s v) {w : Ws} {fz fz' : Fz} (hty : ∀ u, fz'.ty = some u → u = el)
    (hform : (s = .nsl ∧ n = 0 ∧ cs = [] ∧ fz'.n = 0 ∧ w = [(nid, .arr ((n + m) * i.size) (cs ++ xs) fz')]) ∨ (∃ id off L cs0, s = .osl id off n i.size ∧ H[id]? = some (.arr L cs0 fz) ∧ L = n * i.size + off ∧ fz ≤ L ∧ L = cs0.length ∧ cs = cs0.drop off ∧ w = [(id, .dead), (nid, .arr ((n + m) * i.size) (cs ++ xs) fz')] ∧ fz.n ≤ fz'.n + off ∧ ∀ u, fz'.ty = some u → fz.ty = some u)) :
    ∃ y W' ρ', (Builtin.append_ #[t, sT] ty #[v, u]).run P W = .ok y W' ∧ ρ.le ρ' ∧ WR w0 ρ' M (putW H w) W' ∧ VR M ρ' (.osl nid 0 (n + m) i.size) y ∧ ∀ j x, ρ' j = some x → ρ j = some x ∨ j ∈ w.map (·.1) := by
  obtain ⟨zv, z1, z2, z3, i', hi', hz'⟩ := run_zeroA hz W
  rw [hi] at hi'
  cases hi'
  obtain ⟨vs, S⟩ := src_ok (P := P) hw hsrc hl hx
  obtain ⟨vs2, S2⟩ := src_ok (P := P) hw.drew hsrc hl hx
  have hvl : vs2.length = m * i.size := by rw [← S2.l2.len]; exact hl
  have hcd := S2.cells m (Nat.le_refl _)
  rw [List.take_of_length_le (by omega)] at hcd
  have hzs : zv.cells.size = i.size := by have := (z2 M ρ).len; simp at this; omega
  have hdom : ∀ (ρ1 : Nm) (b : Nat × Sz), ρ1 = ρ.upd nid b → nid ∈ w.map (·.1) → ∀ j x, ρ1 j = some x → ρ j = some x ∨ j ∈ w.map (·.1) := by
    intro ρ1 b e hm j x hj
    subst e
    by_cases e1 : j = nid
    · right; rw [e1]; exact hm
    · left; rwa [Nm.upd_ne _ _ e1] at hj
  have hnw : nid ∈ w.map (·.1) := by rcases hform with ⟨_, _, _, _, rfl⟩ | ⟨_, _, _, _, _, _, _, _, _, _, rfl, _⟩ <;> simp
  -- a new row, laid into memory H'
  have grow : ∀ {a : Option Addr} {cap : Nat} {olds : List Value} {H' : List Bk}, v = .slice a n cap → cap < n + m → L2 (VR M ρ) cs olds → (∀ y ∈ olds, y.oneCell' = true) → (Builtin.firstCells i.size n (.slice a n cap)).run P W.drew = .ok olds.toArray W.drew → WR w0 ρ M H' W → cs.length = n * i.size → putW H w = putB H' (nid, .arr ((n + m) * i.size) (cs ++ xs) fz') →
      ∃ y W' ρ', (Builtin.append_ #[t, sT] ty #[v, u]).run P W = .ok y W' ∧ ρ.le ρ' ∧ WR w0 ρ' M (putW H w) W' ∧ VR M ρ' (.osl nid 0 (n + m) i.size) y ∧ ∀ j x, ρ' j = some x → ρ j = some x ∨ j ∈ w.map (·.1) := by
    intro a cap olds H' hv hg hol ho1 hfo hwk hcl hput
    subst hv
    have hrun := run_grow (ty := ty) ht hud hi hz' S.len hcd hfo hg hb hbytes
    have hge := grownCap_ge W (n + m) cap el
    have hcl2 : (cs ++ xs).length = (n + m) * i.size := by rw [List.length_append, hcl, hl, Nat.add_mul]
    refine ⟨_, _, ρ.upd nid (W.heap.size, ⟨(olds ++ vs2 ++ (Builtin.zeroCells zv.cells (grownCap W (n + m) cap el - (n + m))).toList).length, 0⟩), hrun, Nm.le_upd _ hn, ?_, .osl (Nm.upd_self _ _ _) hge ?_, hdom _ _ rfl hnw⟩
    · rw [hput, ← hcl2]
      exact hwk.drew.putRow hn el (hol.append S2.l2) (by intro y hy; rcases List.mem_append.1 hy with hy | hy; exact ho1 y hy; exact S2.one y hy) fz' hty
    · simp only [List.length_append, Array.length_toList, size_zeroCells, ← hol.len, hvl, hcl, hzs, Nat.zero_add]
      rw [← Nat.add_mul, ← Nat.add_mul]
      refine Nat.mul_le_mul_right _ ?_
      omega
  have empty : ∀ {a : Option Addr}, (Builtin.firstCells i.size 0 (.slice a 0 0)).run P W.drew = .ok ([] : List Value).toArray W.drew := by
    intro a
    cases a with
    | none => simp [run_firstCells_none]
    | some A => exact run_firstCells_some (P := P) W.drew i.size 0 A 0 0 [] (by simp) (fun j v hj => by simp at hj)
  obtain ⟨ud, hudd, hud2⟩ := hud
  have same : ∀ {a : Option Addr}, m = 0 → v = .slice a 0 0 → (Builtin.append_ #[t, sT] ty #[v, u]).run P W = .ok (.slice a 0 0) W := by
    intro a hm hv
    subst hm hv
    have hlen := S.len
    have hc := S.cells 0 (Nat.le_refl _)
    simp only [Nat.zero_mul, List.take_zero] at hc
    cases ud <;> simp [srcD] at hud2 <;> cases a <;> simp [Builtin.append_, run_underlying ht, run_underlying hudd, sizeOf, typeInfo, hi, hlen, hc, storeCells]
  rcases hform with ⟨rfl, rfl, rfl, _, rfl⟩ | ⟨id, off, L, cs0, rfl, hB, hL, hfz, hLc, rfl, rfl, hfn, hft⟩
  · cases hs with
    | nsl =>
      rename_i a
      by_cases hm : m = 0
      · subst hm
        exact ⟨_, W, ρ, same rfl rfl, Nm.le.refl _, hw.putNone hn _, .osl_e, fun j x h => .inl h⟩
      · exact grow rfl (by omega) L2.nil (by simp) empty hw (by simp) rfl
  · cases hs with
    | osl_e =>
      rename_i a
      have hcs : cs0.drop off = [] := List.eq_nil_of_length_eq_zero (by rw [List.length_drop]; omega)
      rw [hcs]
      rw [hcs] at grow
      by_cases hm : m = 0
      · subst hm
        exact ⟨_, W, ρ, same rfl rfl, Nm.le.refl _, (hw.kill id).putNone hn _, .osl_e, fun j x h => .inl h⟩
      · exact grow rfl (by omega) L2.nil (by simp) empty (hw.kill id) (by simp) rfl
    | osl h1 h2 h3 =>
      rename_i b sz cap
      obtain ⟨k1, k2, ⟨cur, e, fr, k3, k4, k5, k6⟩, k7, k8⟩ := hw.blk _ _ _ _ h1 hB
      by_cases hroom : n + m ≤ cap
      · have hvl1 : vs.length = m * i.size := by rw [← S.l2.len]; exact hl
        have hmul : (n + m) * i.size ≤ cap * i.size := Nat.mul_le_mul_right _ hroom
        rw [Nat.add_mul] at hmul
        obtain ⟨W', cur', r1, r2, r3, r4, r5, r6⟩ := run_cells P b (n * i.size + (off + sz.base)) e fr vs 0 cur W k3 (by omega) (by rw [k4]; exact k5) S.one
        have hc := S.cells m (Nat.le_refl _)
        rw [List.take_of_length_le (by omega)] at hc
        have hwr := hw.extend hfn hft h1 hB hn S.l2 S.one (by omega) (by omega) k3 r3 (by
          intro j
          have := r4 j
          rw [show n * i.size + (off + sz.base) + 0 = L + sz.base by omega] at this
          exact this) hfz r2 r5 r6
        have hv : VR M (ρ.upd nid (b, ⟨sz.tot, off + sz.base⟩)) (.osl nid 0 (n + m) i.size) (.slice (some ⟨b, 0 + (off + sz.base), none⟩) (n + m) cap) := .osl (Nm.upd_self _ _ _) hroom (by show 0 + (off + sz.base) + cap * i.size ≤ sz.tot; omega)
        rw [Nat.zero_add] at hv
        refine ⟨.slice (some ⟨b, off + sz.base, none⟩) (n + m) cap, W', ρ.upd nid (b, ⟨sz.tot, off + sz.base⟩), ?_, Nm.le_upd _ hn, ?_, hv, hdom _ _ rfl hnw⟩
        · have hlen := S.len
          have ea : Addr.add ⟨b, off + sz.base, none⟩ (n * i.size) = ⟨b, n * i.size + (off + sz.base), none⟩ := by rw [add_flat, Nat.add_comm]
          cases ud <;> simp [srcD] at hud2 <;> simp [Builtin.append_, run_underlying ht, run_underlying hudd, sizeOf, typeInfo, hi, hlen, hroom, hc, ea, r1]
        · have e2 : (n + m) * i.size = L - off + xs.length := by rw [Nat.add_mul, hl, hL]; omega
          show WR w0 _ M (putB (putB H (id, .dead)) (nid, .arr ((n + m) * i.size) (cs0.drop off ++ xs) fz')) W'
          rw [e2]
          exact hwr
      · obtain ⟨A, eA, hA⟩ := cells_at (H := H) hw.drew (x := .ptr id off) (.ptr h1) (cs := cs0.drop off) (by simp [derefA, hB])
        cases eA
        obtain ⟨olds, q1, q2, q3⟩ := cells_list (W := W.drew) (A := ⟨b, off + sz.base, none⟩) (cs := cs0.drop off) hA
        have hdl : (cs0.drop off).length = n * i.size := by rw [List.length_drop]; omega
        have hol : olds.length = n * i.size := by rw [← q1.len]; exact hdl
        exact grow rfl (by omega) q1 q2 (run_firstCells_some (P := P) W.drew i.size n _ n cap olds hol q3) (hw.kill id) hdl rfl
end
end Go.Pm

set_option linter.unusedVariables false
namespace Go.Pm
open Go Go.RowKit
section
variable {P : Program} {w0 W : World} {ρ : Nm} {M : Mem} {H : List Bk}
theorem list1 {α β : Type} {f : α → β} {l : List α} {a : β} (h : l.map f = [a]) : ∃ x, l = [x] ∧ f x = a := by
  match l with
  | [] => simp at h
  | [x] => simp at h; exact ⟨x, rfl, h⟩
  | x :: y :: r => simp at h
theorem list2 {α β : Type} {f : α → β} {l : List α} {a b : β} (h : l.map f = [a, b]) : ∃ x y, l = [x, y] ∧ f x = a ∧ f y = b := by
  match l with
  | [] => simp at h
  | [x] => simp at h
  | [x, y] => simp at h; exact ⟨x, y, rfl, h.1, h.2⟩
  | x :: y :: z :: r => simp at h
theorem args2 {a b : Operand} {A : Array Operand} (h : A.toList = [a, b]) : A = #[a, b] := by apply Array.ext'; simpa using h
theorem types2 {a b : TypeId} {A : Array TypeId} (h : A.toList = [a, b]) : A = #[a, b] := by apply Array.ext'; simpa using h
theorem wr_ok {C : Cx} {h : Hint} {o : Oper} {a : Act} {e : Operand → AV} {nid : Nat} {v : AV} {w : Ws} {bs : List Bool} {ps : List Prop} (hw : WR w0 ρ M H W) (hn0 : nid ∈ w.map (·.1) → ρ nid = none) (he : ∀ x ∈ o.op.operands.toList, VR M ρ (e x) (a.eval x))
    (hr : wr C (fun j => H[j]?) nid e h o.op = some (v, w, bs, ps)) (hb : bs.all id = true) (hp : allP ps) : Good C.P w0 ρ M H W (execOp a.eval o) v w := by
  obtain ⟨dst, op, ty, pos, af, gd⟩ := o
  simp only at he hr
  cases op with
  | store t x y =>
    have h1 := he x (by simp [Op.operands])
    have h2 := he y (by simp [Op.operands])
    simp only [wr] at hr
    split at hr
    · rename_i sz id off hs hx
      rw [hx] at h1
      split at hr
      · rename_i L cs fz hB
        split at hr
        · rename_i hc
          have fin : ∀ {xs : List AV}, off + sz ≤ L → fz ≤ off → splice cs off (cellsA (e y)) = xs → Good C.P w0 ρ M H W (execOp a.eval ⟨dst, .store t x y, ty, pos, af, gd⟩) (.tup []) [(id, .arr L xs fz)] := by
            intro xs f1 f2 f3
            subst f3
            obtain ⟨W', r1, r2⟩ := ok_store (P := C.P) hw hs hB h1 h2 hc.1 hc.2 f1 f2
            refine ⟨.skip, undef, W', ρ, ?_, .inr ⟨rfl, rfl⟩, Nm.le.refl _, r2, .mkTup (vs := []) L2.nil, fun i x h => .inl h⟩
            simp only [execOp, Sem.run_bind, r1, Result.andThen_ok, Sem.run_pure]
          split at hr
          · cases hr
            obtain ⟨q1, hb⟩ := allB_dec hb
            obtain ⟨q2, _⟩ := allB_dec hb
            exact fin q1 q2 hp.1
          · cases hr
            obtain ⟨q1, hb⟩ := allB_dec hb
            obtain ⟨q2, _⟩ := allB_dec hb
            exact fin q1 q2 rfl
        · cases hr
      · cases hr
    · cases hr
  | call c =>
    obtain ⟨callee, args, argTypes⟩ := c
    simp only [wr] at hr
    split at hr
    · rename_i _ t u s x h2 h3
      obtain ⟨so, xo, ha, es, ex⟩ := list2 h3
      have hA := args2 ha
      have hT := types2 h2
      subst hA hT
      have v1 := he so (by simp [Op.operands, Call.operands])
      have v2 := he xo (by simp [Op.operands, Call.operands])
      rw [es] at v1
      rw [ex] at v2
      have run : ∀ {y W'}, (Builtin.append_ #[t, u] ty #[a.eval so, a.eval xo]).run C.P W = .ok y W' → (execOp a.eval ⟨dst, .call ⟨.builtin .append, #[so, xo], #[t, u]⟩, ty, pos, af, gd⟩).run C.P W = .ok (.value y) W' := by
        intro y W' hr
        simp only [execOp, resolve, invoke, builtin, Sem.run_bind, Sem.run_pure, Result.andThen_ok, List.map_toArray, List.map_cons, List.map_nil, hr]
      split at hr
      · rename_i el ht
        split at hr
        · rename_i i z ud hi hz hud
          split at hr
          · rename_i hc
            obtain ⟨c1, c2, c3, c4⟩ := hc
            split at hr
            · rename_i m xs hsrc
              have fin : ∀ {s' : AV} {n : Nat} {cs zs : List AV} {fz fz' : Fz} {w : Ws}, VR M ρ s' (a.eval so) → (∀ u, fz'.ty = some u → u = el) → ρ nid = none → xs.length = m * i.size → (n + m) * i.bytes ≤ 140737488355328 → cs ++ xs = zs →
                  (∀ zs, cs ++ xs = zs → (s' = .nsl ∧ n = 0 ∧ cs = [] ∧ fz'.n = 0 ∧ w = [(nid, .arr ((n + m) * i.size) zs fz')]) ∨ (∃ id off L cs0, s' = .osl id off n i.size ∧ H[id]? = some (.arr L cs0 fz) ∧ L = n * i.size + off ∧ fz ≤ L ∧ L = cs0.length ∧ cs = cs0.drop off ∧ w = [(id, .dead), (nid, .arr ((n + m) * i.size) zs fz')] ∧ fz.n ≤ fz'.n + off ∧ ∀ u, fz'.ty = some u → fz.ty = some u)) →
                  Good C.P w0 ρ M H W (execOp a.eval ⟨dst, .call ⟨.builtin .append, #[so, xo], #[t, u]⟩, ty, pos, af, gd⟩) (.osl nid 0 (n + m) i.size) w := by
                intro s' n cs zs fz fz' w hs' hty hn hl hby hzs hf
                obtain ⟨y, W', ρ', r1, r2, r3, r4, r5⟩ := ok_append (ty := ty) hw hn ht ⟨ud, hud, c4⟩ hi hz c1 c2 c3 hsrc hl v2 hby hs' hty (hf _ rfl)
                exact ⟨_, y, W', ρ', run r1, .inl rfl, r2, r3, r4, r5⟩
              split at hr
              · split at hr
                · cases hr
                  obtain ⟨q1, hb⟩ := allB_dec hb
                  obtain ⟨q2, _⟩ := allB_dec hb
                  have := fin (n := 0) (cs := []) (fz := 0) (fz' := h.tyF el) (w := [(nid, .arr (m * i.size) xs (h.tyF el))]) v1 (fun u e => Hint.tyF_ty e) (hn0 (by simp)) q2 (by simpa using q1) rfl (fun zs hzs => .inl ⟨rfl, rfl, rfl, Hint.tyF_n _ _, by subst hzs; simp⟩)
                  rw [Nat.zero_add] at this
                  rw [← hp.1]
                  exact this
                · cases hr
                  obtain ⟨q1, hb⟩ := allB_dec hb
                  obtain ⟨q2, _⟩ := allB_dec hb
                  have := fin (n := 0) (cs := []) (fz := 0) (fz' := h.tyF el) (w := [(nid, .arr (m * i.size) xs (h.tyF el))]) v1 (fun u e => Hint.tyF_ty e) (hn0 (by simp)) q2 (by simpa using q1) rfl (fun zs hzs => .inl ⟨rfl, rfl, rfl, Hint.tyF_n _ _, by subst hzs; simp⟩)
                  rw [Nat.zero_add] at this
                  exact this
              · split at hr
                · cases hr
                  obtain ⟨q1, hb⟩ := allB_dec hb
                  obtain ⟨q2, _⟩ := allB_dec hb
                  have := fin (n := 0) (cs := []) (fz := 0) (fz' := h.tyF el) (w := [(nid, .arr (m * i.size) xs (h.tyF el))]) (s' := .nsl) (by rw [v1.inv_s]; exact .nsl) (fun u e => Hint.tyF_ty e) (hn0 (by simp)) q2 (by simpa using q1) rfl (fun zs hzs => .inl ⟨rfl, rfl, rfl, Hint.tyF_n _ _, by subst hzs; simp⟩)
                  rw [Nat.zero_add] at this
                  rw [← hp.1]
                  exact this
                · cases hr
                  obtain ⟨q1, hb⟩ := allB_dec hb
                  obtain ⟨q2, _⟩ := allB_dec hb
                  have := fin (n := 0) (cs := []) (fz := 0) (fz' := h.tyF el) (w := [(nid, .arr (m * i.size) xs (h.tyF el))]) (s' := .nsl) (by rw [v1.inv_s]; exact .nsl) (fun u e => Hint.tyF_ty e) (hn0 (by simp)) q2 (by simpa using q1) rfl (fun zs hzs => .inl ⟨rfl, rfl, rfl, Hint.tyF_n _ _, by subst hzs; simp⟩)
                  rw [Nat.zero_add] at this
                  exact this
              · rename_i id off n k
                split at hr
                · rename_i L cs fz hB
                  split at hr
                  · rename_i hk
                    subst hk
                    split at hr
                    · rename_i zs hh
                      cases hr
                      obtain ⟨q1, hb⟩ := allB_dec hb
                      obtain ⟨q2, hb⟩ := allB_dec hb
                      obtain ⟨q3, _⟩ := allB_dec hb
                      exact fin (zs := zs) (fz' := (fz.el el).cut h.cut off) v1 (fun u e => (Fz.el_ty (Fz.cut_ty e)).1) (hn0 (by simp)) q3 q2 hp.1 (fun zs' hzs => .inr ⟨id, off, L, cs, rfl, hB, q1.1, q1.2.1, q1.2.2, rfl, by rw [← hzs, hp.1], Fz.cut_n _ _ _ _, fun u e => (Fz.el_ty (Fz.cut_ty e)).2⟩)
                    · cases hr
                      obtain ⟨q1, hb⟩ := allB_dec hb
                      obtain ⟨q2, hb⟩ := allB_dec hb
                      obtain ⟨q3, _⟩ := allB_dec hb
                      exact fin (fz' := (fz.el el).cut h.cut off) v1 (fun u e => (Fz.el_ty (Fz.cut_ty e)).1) (hn0 (by simp)) q3 q2 rfl (fun zs' hzs => .inr ⟨id, off, L, cs, rfl, hB, q1.1, q1.2.1, q1.2.2, rfl, by rw [hzs], Fz.cut_n _ _ _ _, fun u e => (Fz.el_ty (Fz.cut_ty e)).2⟩)
                  · cases hr
                · cases hr
              · cases hr
            · cases hr
          · cases hr
        · cases hr
      · cases hr
    · rename_i _ t sT d x h2 h3
      obtain ⟨dO, xo, ha, es, ex⟩ := list2 h3
      have hA := args2 ha
      have hT := types2 h2
      subst hA hT
      have v1 := he dO (by simp [Op.operands, Call.operands])
      have v2 := he xo (by simp [Op.operands, Call.operands])
      rw [es] at v1
      rw [ex] at v2
      have run : ∀ {y W'}, (Builtin.copy_ #[t, sT] ty #[a.eval dO, a.eval xo]).run C.P W = .ok y W' → (execOp a.eval ⟨dst, .call ⟨.builtin .copy, #[dO, xo], #[t, sT]⟩, ty, pos, af, gd⟩).run C.P W = .ok (.value y) W' := by
        intro y W' hr
        simp only [execOp, resolve, invoke, builtin, Sem.run_bind, Sem.run_pure, Result.andThen_ok, List.map_toArray, List.map_cons, List.map_nil, hr]
      split at hr
      · rename_i el ht
        split at hr
        · rename_i sz hs
          split at hr
          · rename_i m xs hsrc
            split at hr
            · rename_i id off n k
              split at hr
              · rename_i L cs fz hB
                split at hr
                · rename_i hk
                  have fin : ∀ {zs : List AV}, off + n * sz ≤ L → fz ≤ off → xs.length = m * sz → splice cs off (xs.take (min m n * sz)) = zs → Good C.P w0 ρ M H W (execOp a.eval ⟨dst, .call ⟨.builtin .copy, #[dO, xo], #[t, sT]⟩, ty, pos, af, gd⟩) (.s (.int .i64 (min m n : Nat))) [(id, .arr L zs fz)] := by
                    intro zs f1 f2 f3 f4
                    subst f4
                    obtain ⟨W', r1, r2⟩ := ok_copy (P := C.P) (sT := sT) (ty := ty) hw ht hs hB v1 hk hsrc f3 v2 f1 f2
                    exact ⟨_, _, W', ρ, run r1, .inl rfl, Nm.le.refl _, r2, .s _ _, fun i x h => .inl h⟩
                  split at hr
                  · cases hr
                    obtain ⟨q1, hb⟩ := allB_dec hb
                    obtain ⟨q2, hb⟩ := allB_dec hb
                    obtain ⟨q3, _⟩ := allB_dec hb
                    exact fin q1 q2 q3 hp.1
                  · cases hr
                    obtain ⟨q1, hb⟩ := allB_dec hb
                    obtain ⟨q2, hb⟩ := allB_dec hb
                    obtain ⟨q3, _⟩ := allB_dec hb
                    exact fin q1 q2 q3 rfl
                · cases hr
              · cases hr
            · cases hr
              obtain ⟨q1, _⟩ := allB_dec hb
              obtain ⟨vs, S⟩ := src_ok (P := C.P) hw hsrc q1 v2
              have hlen := S.len
              have hc := S.cells 0 (Nat.zero_le _)
              simp only [Nat.zero_mul, List.take_zero] at hc
              generalize hd : a.eval dO = ud at v1 run
              cases v1 with
              | nsl =>
                rename_i ad
                have h0 : Nat.min m 0 = 0 := by show min m 0 = 0; omega
                refine ⟨_, _, W, ρ, run (y := .int .i64 0) ?_, .inl rfl, Nm.le.refl _, hw, .s _ _, fun i x h => .inl h⟩
                cases ad <;> simp [Builtin.copy_, run_underlying ht, hlen, run_szOf hs, h0, hc, storeCells, goInt]
            · cases hr
          · cases hr
        · cases hr
      · cases hr
    · rename_i _ t d h2 h3
      obtain ⟨dO, ha, es⟩ := list1 h3
      have hA : args = #[dO] := by apply Array.ext'; simpa using ha
      have hT : argTypes = #[t] := by apply Array.ext'; simpa using h2
      subst hA hT
      have v1 := he dO (by simp [Op.operands, Call.operands])
      rw [es] at v1
      have run : ∀ {y W'}, (Builtin.clear_ #[t] ty #[a.eval dO]).run C.P W = .ok y W' → (execOp a.eval ⟨dst, .call ⟨.builtin .clear, #[dO], #[t]⟩, ty, pos, af, gd⟩).run C.P W = .ok (.value y) W' := by
        intro y W' hr
        simp only [execOp, resolve, invoke, builtin, Sem.run_bind, Sem.run_pure, Result.andThen_ok, List.map_toArray, List.map_cons, List.map_nil, hr]
      split at hr
      · rename_i el ht
        split at hr
        · rename_i z hz
          split at hr
          · rename_i id off n k
            split at hr
            · rename_i L cs fz hB
              split at hr
              · rename_i hk
                have fin : ∀ {zs : List AV}, off + n * z.length ≤ L → fz ≤ off → splice cs off (replZ n z) = zs → Good C.P w0 ρ M H W (execOp a.eval ⟨dst, .call ⟨.builtin .clear, #[dO], #[t]⟩, ty, pos, af, gd⟩) (.tup []) [(id, .arr L zs fz)] := by
                  intro zs f1 f2 f3
                  subst f3
                  obtain ⟨W', r1, r2⟩ := ok_clear (P := C.P) (ty := ty) hw ht hz rfl hB v1 hk f1 f2
                  exact ⟨_, _, W', ρ, run r1, .inl rfl, Nm.le.refl _, r2, .mkTup (vs := []) L2.nil, fun i x h => .inl h⟩
                split at hr
                · cases hr
                  obtain ⟨q1, hb⟩ := allB_dec hb
                  obtain ⟨q2, _⟩ := allB_dec hb
                  exact fin q1 q2 hp.1
                · cases hr
                  obtain ⟨q1, hb⟩ := allB_dec hb
                  obtain ⟨q2, _⟩ := allB_dec hb
                  exact fin q1 q2 rfl
              · cases hr
            · cases hr
          · cases hr
        · cases hr
      · cases hr
    · cases hr
  | _ => cases hr
end
end Go.Pm
