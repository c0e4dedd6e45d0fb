/- The machine of plain values: a region that draws its order comes to what the text's order comes to. By the prover of this seat. -/
import Derived.Test.YtjjmidhpilmnbaaDoorPm23
set_option linter.unusedVariables false
namespace Go.Pm
open Go Go.RowKit
instance : Inhabited En := ⟨⟨.any, [], []⟩⟩
def ids (w : Ws) : List Nat := w.map (·.1)
/-- the blocks behind the operations of s, in the text's order -/
def AS (A0 : List Bk) (E : Nat → En) (s : Nat → Bool) : Nat → List Bk
  | 0 => A0
  | k + 1 => if s k then putW (AS A0 E s k) (E k).w else AS A0 E s k
theorem putW_comm {a b : Ws} (H : List Bk) (hd : ∀ id, id ∈ ids a → id ∈ ids b → False) : putW (putW H a) b = putW (putW H b) a := by
  have hl : (putW (putW H a) b).length = (putW (putW H b) a).length := by simp only [len_putW_eq]; omega
  apply List.ext_getElem?
  intro i
  by_cases hi : i < (putW (putW H a) b).length
  · have h1 : ∃ x, (putW (putW H a) b)[i]? = some x := ⟨_, List.getElem?_eq_getElem hi⟩
    have h2 : ∃ x, (putW (putW H b) a)[i]? = some x := ⟨_, List.getElem?_eq_getElem (by omega)⟩
    obtain ⟨x, hx⟩ := h1
    obtain ⟨y, hy⟩ := h2
    have e1 := getD_putW b (putW H a) i
    have e2 := getD_putW a (putW H b) i
    rw [getD_putW a H i] at e1
    rw [getD_putW b H i] at e2
    rw [hx] at e1
    rw [hy] at e2
    simp only [Option.getD_some] at e1 e2
    rw [hx, hy, e1, e2]
    by_cases ha : i ∈ ids a
    · have : lastW b i = none := lastW_none fun hb => hd i ha hb
      rw [this]; simp
    · have : lastW a i = none := lastW_none ha
      rw [this]; simp
  · rw [List.getElem?_eq_none (by omega), List.getElem?_eq_none (by omega)]
section
variable {A0 : List Bk} {E : Nat → En} {s : Nat → Bool}
theorem AS_upto {B : Nat → List Bk} (h0 : B 0 = A0) (hB : ∀ k, B (k + 1) = putW (B k) (E k).w) {id : Nat} : ∀ k, (∀ m, m < k → id ∈ ids (E m).w → s m = true) → ((AS A0 E s k)[id]?).getD .dead = ((B k)[id]?).getD .dead := by
  intro k
  induction k with
  | zero => intro _; rw [h0]; rfl
  | succ k ih =>
    intro h
    have := ih fun m hm hid => h m (by omega) hid
    rw [hB, getD_putW]
    unfold AS
    split
    · rw [getD_putW, this]
    · rename_i hs
      have hn : lastW (E k).w id = none := lastW_none fun hid => hs (h k (by omega) hid)
      rw [hn, this]; rfl
theorem AS_beyond {id i : Nat} : ∀ d, (∀ m, i ≤ m → m < i + d → id ∈ ids (E m).w → s m = false) → ((AS A0 E s (i + d))[id]?).getD .dead = ((AS A0 E s i)[id]?).getD .dead := by
  intro d
  induction d with
  | zero => intro _; rfl
  | succ d ih =>
    intro h
    have := ih fun m h1 h2 hid => h m h1 (by omega) hid
    rw [← this]
    show ((AS A0 E s (i + d + 1))[id]?).getD .dead = _
    conv => lhs; unfold AS
    split
    · rename_i hs
      have hn : lastW (E (i + d)).w id = none := lastW_none fun hid => by rw [h (i + d) (by omega) (by omega) hid] at hs; cases hs
      rw [getD_putW, hn]; rfl
    · rfl
theorem AS_congr {s' : Nat → Bool} : ∀ k, (∀ m, m < k → s m = s' m) → AS A0 E s k = AS A0 E s' k := by
  intro k
  induction k with
  | zero => intro _; rfl
  | succ k ih =>
    intro h
    unfold AS
    rw [h k (by omega), ih fun m hm => h m (by omega)]
theorem AS_mark {i n : Nat} (hi : i < n) (hs : s i = false) (hd : ∀ k, i < k → k < n → s k = true → ∀ id, id ∈ ids (E i).w → id ∈ ids (E k).w → False) : AS A0 E (mark s i) n = putW (AS A0 E s n) (E i).w := by
  have key : ∀ d, i + 1 + d ≤ n → AS A0 E (mark s i) (i + 1 + d) = putW (AS A0 E s (i + 1 + d)) (E i).w := by
    intro d
    induction d with
    | zero =>
      intro _
      show AS A0 E (mark s i) (i + 1) = putW (AS A0 E s (i + 1)) (E i).w
      conv => lhs; unfold AS
      conv => rhs; unfold AS
      rw [mark_self, hs, AS_congr (s := mark s i) (s' := s) i fun m hm => mark_other (by omega)]
      simp
    | succ d ih =>
      intro hle
      have h1 := ih (by omega)
      show AS A0 E (mark s i) (i + 1 + d + 1) = putW (AS A0 E s (i + 1 + d + 1)) (E i).w
      conv => lhs; unfold AS
      conv => rhs; unfold AS
      rw [mark_other (show i + 1 + d ≠ i by omega), h1]
      split
      · rename_i hsk
        exact putW_comm _ fun id ha hb => hd (i + 1 + d) (by omega) (by omega) hsk id ha hb
      · rfl
  have := key (n - (i + 1)) (by omega)
  rwa [show i + 1 + (n - (i + 1)) = n by omega] at this
theorem AS_none : ∀ k, (∀ m, m < k → s m = false) → AS A0 E s k = A0 := by
  intro k
  induction k with
  | zero => intro _; rfl
  | succ k ih =>
    intro h
    unfold AS
    rw [h k (by omega)]
    simp only [Bool.false_eq_true, if_false]
    exact ih fun m hm => h m (by omega)
theorem AS_all {B : Nat → List Bk} (h0 : B 0 = A0) (n : Nat) (hB : ∀ k, k < n → B (k + 1) = putW (B k) (E k).w) (hs : ∀ m, m < n → s m = true) : ∀ k, k ≤ n → AS A0 E s k = B k := by
  intro k
  induction k with
  | zero => intro _; rw [h0]; rfl
  | succ k ih =>
    intro hk
    unfold AS
    rw [hs k (by omega), if_pos rfl, ih (by omega), hB k (by omega)]
end
theorem meets_no {a b : List Nat} (h : meets a b = false) : ∀ x, x ∈ a → x ∈ b → False := by
  intro x h1 h2
  unfold meets at h
  rw [List.any_eq_false] at h
  have := h x h1
  simp [h2] at this
theorem noClash_spec {pr : List (List Nat)} : ∀ (es : List En) (k : Nat), noClash pr k es = true → ∀ (i j : Nat) x y, i < j → es[i]? = some x → es[j]? = some y → pairOk pr (k + i) (k + j) x y = true := by
  intro es
  induction es with
  | nil => intro k _ i j x y _ h; simp at h
  | cons e es ih =>
    intro k h i j x y hij hi hj
    simp only [noClash, Bool.and_eq_true] at h
    cases j with
    | zero => omega
    | succ j =>
      cases i with
      | zero =>
        simp at hi
        subst hi
        have hj' : es[j]? = some y := by simpa using hj
        have hm : (y, k + 1 + j) ∈ es.zipIdx (k + 1) := by
          rw [List.mem_zipIdx_iff_le_and_getElem?_sub]
          exact ⟨by simp, by simpa using hj'⟩
        have := List.all_eq_true.1 h.1 _ hm
        simpa [Nat.add_assoc, Nat.add_comm 1 j] using this
      | succ i =>
        have := ih (k + 1) h.2 i j x y (by omega) (by simpa using hi) (by simpa using hj)
        rw [show k + (i + 1) = k + 1 + i by omega, show k + (j + 1) = k + 1 + j by omega]
        exact this
theorem slotsOk_spec {ops : List Oper} {pr : List (List Nat)} (h : slotsOk ops pr = true) {i j : Nat} {o q : Oper} (hi : ops[i]? = some o) (hj : ops[j]? = some q) (hne : i ≠ j) {d : Tmp} (hd : q.dst = some d) (hn : d ∈ named ops o) : j ∈ pr.getD i [] ∨ i ∈ pr.getD j [] := by
  unfold slotsOk at h
  have h1 := List.all_eq_true.1 h (o, i) (by rw [List.mem_zipIdx_iff_getElem?]; exact hi)
  have h2 := List.all_eq_true.1 h1 (q, j) (by rw [List.mem_zipIdx_iff_getElem?]; exact hj)
  simp only [hd, Bool.or_eq_true, beq_iff_eq, Bool.not_eq_true', List.contains_eq_mem, decide_eq_true_eq, decide_eq_false_iff_not] at h2
  rcases h2 with h2 | (h2 | h2) | h2
  · exact absurd h2 hne
  · exact absurd hn h2
  · exact .inl h2
  · exact .inr h2
section
variable {w0 W : World} {ρ : Nm} {M : Mem}
/-- a test that looks at the slots that the operation names -/
theorem want_at {ops : List Oper} {t : List AV} {o : Oper} {b : Bool} (h : wantA ops t o = some b) {a : Act} (hs : ∀ d ∈ named ops o, ∀ c, t[d]? = some c → ∃ u, a.tmps[d]? = some u ∧ VR M ρ c u) : Region.wanted o (yielded ops.toArray a.tmps) = b := by
  unfold wantA at h
  unfold Region.wanted
  cases hg : o.guard with
  | none => simp [hg] at h; subst h; rfl
  | some jw =>
    obtain ⟨j, want⟩ := jw
    simp only [hg] at h ⊢
    split at h
    · rename_i d hd
      split at h
      · rename_i q hq
        cases h
        have hd' : ((ops.toArray[j]?).bind (·.dst)) = some d := by simpa using hd
        obtain ⟨v, hv, hr⟩ := hs d (by
          unfold named Oper.looksAt
          rw [hg]
          simp only [hd']
          simp) _ hq
        have := hr.inv_s
        subst this
        have : yielded ops.toArray a.tmps j = some q := by
          unfold yielded
          rw [hd']
          simp [hv]
        rw [this]
        cases q <;> cases want <;> rfl
      · rename_i hq
        cases h
        have hd' : ((ops.toArray[j]?).bind (·.dst)) = some d := by simpa using hd
        obtain ⟨v, hv, hr⟩ := hs d (by
          unfold named Oper.looksAt
          rw [hg]
          simp only [hd']
          simp) _ hq
        obtain ⟨vs, rfl, hl⟩ := hr.inv_tup
        have : yielded ops.toArray a.tmps j = none := by
          unfold yielded
          rw [hd']
          simp [hv]
        rw [this]
        cases want <;> rfl
      · cases h
    · cases h
theorem eval_at {C : Cx} {t : List AV} {a : Act} {ops : List Oper} {o : Oper} (hs : ∀ d ∈ named ops o, ∀ c, t[d]? = some c → ∃ u, a.tmps[d]? = some u ∧ VR M ρ c u) (hg : GlobR C.G M) (x : Operand) (hx : x ∈ o.op.operands.toList) : VR M ρ (evalA C t x) (a.eval x) := by
  cases x with
  | tmp i =>
    simp only [evalA, Act.eval]
    cases h : t[i]? with
    | none => simp only [List.getD, h, Option.getD_none]; exact .any _ _
    | some c =>
      obtain ⟨v, hv, hr⟩ := hs i (by
        unfold named Oper.looksAt
        simp only [List.mem_append, List.mem_filterMap]
        exact .inr (.inl ⟨_, hx, rfl⟩)) c h
      have e : a.tmps.getD i undef = v := by simp [Array.getD_eq_getD_getElem?, hv]
      simpa [List.getD, h, e] using hr
  | const v => exact ofV_ok M ρ v
  | global g =>
    simp only [evalA, Act.eval]
    split
    · rename_i cs h; exact (hg g cs h).mono (Mem.le.refl M) (Nm.none_le ρ)
    · exact .any _ _
  | func f => exact .fn (us := []) (vs := []) rfl (fun i c v h => by simp at h) rfl (fun i c v h => by simp at h)
end
end Go.Pm
