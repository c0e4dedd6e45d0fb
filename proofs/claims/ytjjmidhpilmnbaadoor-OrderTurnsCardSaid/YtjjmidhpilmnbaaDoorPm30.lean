/- The machine of plain values: what comes in from outside, as plain values; a law from its reckoning. By the prover of this seat. -/
import Derived.Test.YtjjmidhpilmnbaaDoorPm29
import Derived.Deep.Slices
import Derived.ChangeArms
import Derived.OpenShut
import Derived.WideShapes
import Derived.Below
set_option linter.unusedVariables false
namespace Go.Pm
open Go Go.RowKit
/-- what a row of cells looks like -/
inductive Sh where
  | int (k : IntKind) | bool | str
  | sl (e : Sh)
  | unit
  | seq (a b : Sh)
def Fits : Sh → List AV → Prop
  | .int k, cs => ∃ n, cs = [.s (.int k n)] ∧ (Lit.int k n).wf = true
  | .bool, cs => ∃ b, cs = [.s (.bool b)]
  | .str, cs => ∃ s, cs = [.s (.string s)] ∧ s.size ≤ maxLen
  | .sl e, cs => ∃ els : List (List AV), cs = [.sl els.length els.flatten] ∧ els.length ≤ maxLen ∧ ∀ x ∈ els, Fits e x
  | .unit, cs => cs = []
  | .seq a b, cs => ∃ x y, cs = x ++ y ∧ Fits a x ∧ Fits b y
theorem Fits.cell : ∀ (s : Sh) (cs : List AV), Fits s cs → ∀ c ∈ cs, isCell c = true := by
  intro s
  induction s with
  | int k => rintro cs ⟨n, rfl, _⟩ c hc; simp at hc; subst hc; rfl
  | bool => rintro cs ⟨n, rfl⟩ c hc; simp at hc; subst hc; rfl
  | str => rintro cs ⟨n, rfl, _⟩ c hc; simp at hc; subst hc; rfl
  | sl e _ => rintro cs ⟨els, rfl, _⟩ c hc; simp at hc; subst hc; rfl
  | unit => rintro cs rfl c hc; simp at hc
  | seq a b ha hb =>
    rintro cs ⟨x, y, rfl, h1, h2⟩ c hc
    rcases List.mem_append.1 hc with h | h
    · exact ha _ h1 c h
    · exact hb _ h2 c h
def fieldsSh (P : Program) (g : TypeId → Option Sh) (total : Nat) : List Field → Nat → Option Sh
  | [], off => if off = total then some .unit else none
  | f :: r, off => if f.offset = off then
      match g f.type, fieldsSh P g total r (off + P.cellsOf f.type) with
      | some a, some b => some (.seq a b)
      | _, _ => none
    else none
def repSh (a : Sh) : Nat → Sh
  | 0 => .unit
  | n + 1 => .seq a (repSh a n)
def shOf (P : Program) : Nat → TypeId → Option Sh
  | 0, _ => none
  | n + 1, t => match P.underlying t with
    | some .bool => some .bool
    | some (.int k) => some (.int k)
    | some .string => some .str
    | some (.slice e) => (shOf P n e).map .sl
    | some (.struct fs) => fieldsSh P (shOf P n) (P.cellsOf t) fs.toList 0
    | some (.array len e) => if len * P.cellsOf e = P.cellsOf t then (shOf P n e).map fun a => repSh a len else none
    | _ => none
/-- the memory that is there -/
def memOf (W : World) : Mem where
  cell b o := match W.cell? ⟨b, o, none⟩ with
    | some v => if v.oneCell' = true then some v else none
    | none => none
  map b := none
theorem memOf_cell {W : World} {b o : Nat} {v : Value} (h : W.cell? ⟨b, o, none⟩ = some v) (h1 : v.oneCell' = true) : (memOf W).cell b o = some v := by simp [memOf, h, h1]
theorem memOf_fro (W : World) : Fro (memOf W) W := by
  refine ⟨fun b o v h => ?_, fun b kv h => by simp [memOf] at h⟩
  simp only [memOf] at h
  split at h
  · rename_i u hu
    split at h
    · rename_i h1; cases h; exact ⟨hu, h1⟩
    · cases h
  · cases h
section
variable {P : Program} {W : World} {H : Type} {enc : TypeId × Value → H} {spare : Nat → Bool} {held : Bool}
abbrev VIn (W : World) : AV → Value → Prop := VR (memOf W) Nm.none
theorem fields_open {g : TypeId → Option Sh} {n : Nat} (hg : ∀ t s, g t = some s → ∀ cs x, DataW.trod enc P W 0 spare held n t cs = some x → ∃ as, Fits s as ∧ L2 (VIn W) as cs) {total : Nat} {cs : List Value} (hl : cs.length = total) :
    ∀ (fs : List Field) (off : Nat) (s : Sh), fieldsSh P g total fs off = some s → off ≤ total → (∀ f ∈ fs, ∃ x, DataW.trod enc P W 0 spare held n f.type ((cs.drop f.offset).take (P.cellsOf f.type)) = some x) →
      ∃ as, Fits s as ∧ L2 (VIn W) as (cs.drop off) := by
  intro fs
  induction fs with
  | nil =>
    intro off s h ho _
    simp only [fieldsSh] at h
    split at h
    · rename_i e; cases h
      exact ⟨[], rfl, by rw [List.drop_of_length_le (by omega)]; exact L2.nil⟩
    · cases h
  | cons f r ih =>
    intro off s h ho hf
    simp only [fieldsSh] at h
    split at h
    · rename_i e
      subst e
      split at h
      · rename_i a b ha hb
        cases h
        obtain ⟨x, hx⟩ := hf f (List.mem_cons_self ..)
        obtain ⟨as, f1, l1⟩ := hg _ _ ha _ _ hx
        by_cases hle : f.offset + P.cellsOf f.type ≤ total
        · obtain ⟨bs, f2, l2⟩ := ih _ _ hb hle (fun f' hf' => hf f' (List.mem_cons_of_mem _ hf'))
          refine ⟨as ++ bs, ⟨as, bs, rfl, f1, f2⟩, ?_⟩
          have := l1.append l2
          rwa [← List.drop_drop, List.take_append_drop] at this
        · exfalso
          have hbad : ∀ (r : List Field) (off : Nat) (b : Sh), total < off → fieldsSh P g total r off = some b → False := by
            intro r
            induction r with
            | nil => intro off b ho h; simp only [fieldsSh] at h; split at h <;> first | omega | cases h
            | cons f' r ih' =>
              intro off b ho h
              simp only [fieldsSh] at h
              split at h
              · split at h
                · rename_i q1 q2; exact ih' _ _ (by omega) q2
                · cases h
              · cases h
          exact hbad _ _ _ (by omega) hb
      · cases h
    · cases h
theorem reps_open {a : Sh} {sz : Nat} {cs : List Value} : ∀ (len off : Nat), cs.length = (off + len) * sz → (∀ i, off ≤ i → i < off + len → ∃ as, Fits a as ∧ L2 (VIn W) as ((cs.drop (i * sz)).take sz)) → ∃ as, Fits (repSh a len) as ∧ L2 (VIn W) as (cs.drop (off * sz)) := by
  intro len
  induction len with
  | zero => intro off hl _; exact ⟨[], rfl, by rw [List.drop_of_length_le (by rw [hl, Nat.add_zero]; exact Nat.le_refl _)]; exact L2.nil⟩
  | succ len ih =>
    intro off hl h
    obtain ⟨as, f1, l1⟩ := h off (Nat.le_refl _) (by omega)
    obtain ⟨bs, f2, l2⟩ := ih (off + 1) (by rw [hl]; congr 1; omega) (fun i h1 h2 => h i (by omega) (by omega))
    refine ⟨as ++ bs, ⟨as, bs, rfl, f1, f2⟩, ?_⟩
    have := l1.append l2
    rwa [show (off + 1) * sz = off * sz + sz by rw [Nat.add_mul, Nat.one_mul], ← List.drop_drop, List.take_append_drop] at this
/-- the elements of a row, one after the other -/
theorem els_open {s : Sh} {sz : Nat} {a : Addr} : ∀ (len : Nat), (∀ i, i < len → ∃ cs', W.cells? 0 (a.add (i * sz)) sz = some cs' ∧ ∃ as, Fits s as ∧ L2 (VIn W) as cs') →
    ∃ (els : List (List AV)) (vs : List Value), els.length = len ∧ (∀ x ∈ els, Fits s x) ∧ L2 (VIn W) els.flatten vs ∧ vs.length = len * sz ∧ ∀ (j : Nat) v, vs[j]? = some v → W.cell? (a.add j) = some v := by
  intro len
  induction len with
  | zero => intro _; exact ⟨[], [], rfl, by simp, L2.nil, by simp, by simp⟩
  | succ len ih =>
    intro h
    obtain ⟨els, vs, h1, h2, h3, h4, h5⟩ := ih (fun i hi => h i (by omega))
    obtain ⟨cs', hc, as, hf, hl⟩ := h len (by omega)
    obtain ⟨_, k1, k2⟩ := World.cells?_some hc
    refine ⟨els ++ [as], vs ++ cs', by simp [h1], fun x hx => ?_, ?_, by simp [h4, k1, Nat.add_mul], fun j v hj => ?_⟩
    · rcases List.mem_append.1 hx with h | h
      · exact h2 x h
      · simp at h; subst h; exact hf
    · rw [List.flatten_append]
      simpa using h3.append hl
    · by_cases hlt : j < vs.length
      · rw [List.getElem?_append_left hlt] at hj; exact h5 j v hj
      · rw [List.getElem?_append_right (by omega)] at hj
        have := k2 (j - vs.length) (by have := (List.getElem?_eq_some_iff.1 hj).1; omega)
        rw [h4] at hj
        rw [Deep.add_add, h4, hj] at this
        rwa [show len * sz + (j - len * sz) = j by omega] at this
theorem sh_open : ∀ (m : Nat) (t : TypeId) (s : Sh), shOf P m t = some s → ∀ (fuel : Nat) (cs : List Value) (x : DataW H × List MemPlace), DataW.trod enc P W 0 spare held fuel t cs = some x → ∃ as, Fits s as ∧ L2 (VIn W) as cs := by
  intro m
  induction m with
  | zero => intro t s h; cases h
  | succ m ih =>
    intro t s h fuel cs x hx
    simp only [shOf] at h
    split at h
    · rename_i ht
      cases h
      obtain ⟨b, rfl, rfl⟩ := DataW.trod_bool ht hx
      exact ⟨_, ⟨b, rfl⟩, .cons (.s _ _) .nil⟩
    · rename_i k ht
      cases h
      obtain ⟨n, rfl, rfl, hw⟩ := DataW.trod_int ht hx
      exact ⟨_, ⟨n, rfl, hw⟩, .cons (.s _ _) .nil⟩
    · rename_i ht
      cases h
      obtain ⟨q, rfl, rfl, hw⟩ := DataW.trod_string ht hx
      exact ⟨_, ⟨q, rfl, hw⟩, .cons (.s _ _) .nil⟩
    · rename_i e ht
      simp only [Option.map_eq_some_iff] at h
      obtain ⟨s', hs', rfl⟩ := h
      rcases Deep.open_slice ht hx with ⟨rfl, _⟩ | ⟨a, len, cap, q, n, D, Pl, rfl, _, hl, hm, hq, _, hall⟩
      · exact ⟨_, ⟨[], rfl, by simp, by simp⟩, .cons (.sl_e (Nat.le_refl _) (fun _ => rfl)) .nil⟩
      · obtain ⟨els, vs, h1, h2, h3, h4, h5⟩ := els_open (W := W) (s := s') (sz := P.cellsOf e) (a := a) len (fun i hi => by
          obtain ⟨cs', g1, g2⟩ := hall i (by rw [hq]; split <;> omega)
          exact ⟨cs', g1, ih _ _ hs' _ _ _ g2⟩)
        subst h1
        refine ⟨_, ⟨els, rfl, by omega, h2⟩, .cons ?_ .nil⟩
        have hcell : ∀ c ∈ els.flatten, isCell c = true := by
          intro c hc
          obtain ⟨l, hl', hc'⟩ := List.mem_flatten.1 hc
          exact Fits.cell s' l (h2 l hl') c hc'
        by_cases h0 : vs = []
        · subst h0
          have : els.flatten = [] := List.eq_nil_of_length_eq_zero h3.len
          rw [this]
          exact .sl_e hl (fun h => by cases h)
        · obtain ⟨v0, hv0⟩ : ∃ v, vs[0]? = some v := by
            cases hvs : vs with
            | nil => exact absurd hvs h0
            | cons p q => exact ⟨p, rfl⟩
          obtain ⟨b, off, sp⟩ := a
          have hsp : sp = none := by
            have := World.cell?_spot (h5 0 v0 hv0)
            simpa [Addr.add] using this
          subst hsp
          refine .sl (fun i => vs.getD i undef) hl (fun i c hc => ?_) (fun i c hc => ?_)
          · obtain ⟨v, hv, hr⟩ := h3.get hc
            have := h5 i v hv
            rw [add_flat] at this
            rw [List.getD_eq_getElem?_getD, hv]
            exact memOf_cell this (hr.cell1 (hcell c (List.mem_of_getElem? hc)))
          · obtain ⟨v, hv, hr⟩ := h3.get hc
            rw [List.getD_eq_getElem?_getD, hv]
            exact hr
    · rename_i fs ht
      obtain ⟨xs, n, _, _, hl, hxl, hf⟩ := DataW.trod_struct ht hx
      obtain ⟨as, f1, l1⟩ := fields_open (enc := enc) (spare := spare) (held := held) (n := n) (fun t s hs cs x hx => ih t s hs n cs x hx) hl fs.toList 0 s h (Nat.zero_le _) (fun f hfm => by
        obtain ⟨i, hi, rfl⟩ := List.mem_iff_getElem.1 hfm
        have hi' : i < fs.size := by simpa using hi
        have := hf i fs[i] (Array.getElem?_eq_getElem hi')
        rw [List.getElem?_eq_getElem (by omega)] at this
        exact ⟨_, by simpa using this⟩)
      exact ⟨as, f1, by simpa using l1⟩
    · rename_i len e ht
      split at h
      · rename_i hsz
        simp only [Option.map_eq_some_iff] at h
        obtain ⟨s', hs', rfl⟩ := h
        obtain ⟨xs, n, _, _, hl, hxl, hf⟩ := DataW.trod_array ht hx
        obtain ⟨as, f1, l1⟩ := reps_open (W := W) (a := s') (sz := P.cellsOf e) (cs := cs) len 0 (by rw [hl, ← hsz]; simp) (fun i _ hi => by
          have := hf i (by omega)
          rw [List.getElem?_eq_getElem (by omega)] at this
          exact ih _ _ hs' _ _ _ this)
        exact ⟨as, f1, by simpa using l1⟩
      · cases h
    · cases h
/-- an argument of one cell -/
theorem in_cell {m : Nat} {t : TypeId} {s : Sh} {v : Value} {d : DataW H} {ps : List MemPlace} (hs : shOf P m t = some s) (h1 : v.cells.toList = [v]) (h : DataW.Trod enc P W 0 spare held t v d ps) : ∃ a, Fits s [a] ∧ VIn W a v := by
  obtain ⟨fuel, hf⟩ := h
  obtain ⟨as, f1, l1⟩ := sh_open m t s hs fuel _ _ hf
  rw [h1] at l1
  have := l1.len
  cases as with
  | nil => simp at this
  | cons a as =>
    cases as with
    | nil => exact ⟨a, f1, l1.at_ 0 _ _ rfl rfl⟩
    | cons b as => simp at this
/-- an argument of a struct's type -/
theorem in_agg {m : Nat} {t : TypeId} {s : Sh} {cs : Array Value} {d : DataW H} {ps : List MemPlace} (hs : shOf P m t = some s) (h : DataW.Trod enc P W 0 spare held t (.agg cs) d ps) : ∃ as, Fits s as ∧ VIn W (.agg as) (.agg cs) := by
  obtain ⟨fuel, hf⟩ := h
  obtain ⟨as, f1, l1⟩ := sh_open m t s hs fuel _ _ hf
  refine ⟨as, f1, ?_⟩
  have l2 : L2 (VIn W) as cs.toList := l1
  have := VR.mkAgg l2 (fun u hu => by
    obtain ⟨i, hi, rfl⟩ := List.mem_iff_getElem.1 hu
    have hi' : i < as.length := by rw [l2.len]; exact hi
    exact (l2.at_ i as[i] _ (List.getElem?_eq_getElem hi') (List.getElem?_eq_getElem hi)).cell1 (Fits.cell s as f1 _ (List.getElem_mem _)))
  simpa using this
/-- a law's reckoning is a law's walk -/
theorem law_calls {f : FuncId} {args : List AV} {v : Value} {vals : List Value} {G : Nat → Option (List AV)} (h : Pure P G f args (.s v) []) (hg : GlobR G (memOf W)) (ha : L2 (VIn W) args vals) :
    Calls P f vals.toArray W (fun e W' => e = .returned v ∧ Below W.heap.size W W') := by
  refine (h.2 W Nm.none (memOf W) W vals ⟨Below.refl _ _, memOf_fro W, fun i x h => by simp [Nm.none] at h, fun i j b s t B B' h => by simp [Nm.none] at h, fun i b s B h => by simp [Nm.none] at h, fun i b s B h => by simp [Nm.none] at h⟩ hg ha).mono fun e W' hh => ?_
  obtain ⟨u, ρ', M', rfl, q1, q2, q3, q4, q5⟩ := hh
  obtain rfl := q4.inv_s
  exact ⟨rfl, q3.bel⟩
end
end Go.Pm
