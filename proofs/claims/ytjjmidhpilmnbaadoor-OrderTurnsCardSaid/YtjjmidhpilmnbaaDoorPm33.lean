/- The machine of plain values: small laws that the printed walks name; rows of elements. By the prover of this seat. -/
import Derived.Test.YtjjmidhpilmnbaaDoorPm32
set_option linter.unusedVariables false
namespace Go.Pm
open Go Go.RowKit
abbrev i64 (n : Int) : AV := .s (.int .i64 n)
abbrev i32 (n : Int) : AV := .s (.int .i32 n)
abbrev u8 (n : Int) : AV := .s (.int .u8 n)
abbrev u16 (n : Int) : AV := .s (.int .u16 n)
abbrev u32 (n : Int) : AV := .s (.int .u32 n)
abbrev u64 (n : Int) : AV := .s (.int .u64 n)
abbrev bl (b : Bool) : AV := .s (.bool b)
abbrev st (b : ByteArray) : AV := .s (.string b)
abbrev A (cs : List AV) : AV := .agg cs
theorem decide_t {p : Prop} [Decidable p] (h : p) : decide p = true := decide_eq_true h
theorem bdT {p : Prop} [Decidable p] (h : p) : bl (decide p) = bl true := by rw [decide_eq_true h]
theorem bdF {p : Prop} [Decidable p] (h : ¬ p) : bl (decide p) = bl false := by rw [decide_eq_false h]
theorem bvT {b : Bool} (h : b = true) : bl b = bl true := by rw [h]
theorem bvF {b : Bool} (h : ¬ b = true) : bl b = bl false := by rw [Bool.not_eq_true] at h; rw [h]
theorem bnT {b : Bool} (h : bl b = bl true) : bl (!b) = bl false := by cases b <;> simp_all
theorem bnF {b : Bool} (h : bl b = bl false) : bl (!b) = bl true := by cases b <;> simp_all
theorem beT {α : Type} [BEq α] [LawfulBEq α] {a b : α} (h : a = b) : bl (a == b) = bl true := by rw [h, beq_self_eq_true]
theorem beF {α : Type} [BEq α] [LawfulBEq α] {a b : α} (h : ¬ a = b) : bl (a == b) = bl false := by rw [beq_eq_false_iff_ne.2 h]
theorem neT {α : Type} [BEq α] [LawfulBEq α] {a b : α} (h : a = b) : bl (a != b) = bl false := by simp [bne, h]
theorem neF {α : Type} [BEq α] [LawfulBEq α] {a b : α} (h : ¬ a = b) : bl (a != b) = bl true := by simp [bne, beq_eq_false_iff_ne.2 h]
theorem toList_loop (a : ByteArray) : ∀ (n i : Nat) (r : List UInt8), a.size - i = n → ByteArray.toList.loop a i r = r.reverse ++ a.data.toList.drop i := by
  intro n
  induction n with
  | zero =>
    intro i r h
    unfold ByteArray.toList.loop
    rw [if_neg (by omega), List.drop_of_length_le (by rw [Array.length_toList]; show a.size ≤ i; omega), List.append_nil]
  | succ n ih =>
    intro i r h
    unfold ByteArray.toList.loop
    have hi : i < a.data.toList.length := by rw [Array.length_toList]; show i < a.size; omega
    have hi' : i < a.data.size := by simpa using hi
    have e : a.get! i = a.data.toList[i]'hi := by
      show a.data[i]! = _
      rw [getElem!_pos a.data i hi', Array.getElem_toList]
    rw [if_pos (by omega), ih (i + 1) _ (by omega), e, List.reverse_cons, List.append_assoc, List.drop_eq_getElem_cons hi]
    rfl
theorem toList_data (a : ByteArray) : a.toList = a.data.toList := by
  unfold ByteArray.toList
  rw [toList_loop a _ 0 [] rfl]
  simp
theorem toList_inj {a b : ByteArray} : a.toList = b.toList ↔ a = b := by
  rw [toList_data, toList_data]
  constructor
  · intro h
    apply ByteArray.ext
    exact Array.ext' h
  · intro h; rw [h]
theorem bsT {a b : ByteArray} (h : a = b) : bl (a.toList == b.toList) = bl true := by rw [h, beq_self_eq_true]
theorem bsF {a b : ByteArray} (h : ¬ a = b) : bl (a.toList == b.toList) = bl false := by
  rw [beq_eq_false_iff_ne.2 fun e => h (toList_inj.1 e)]
theorem intE {k : IntKind} {a b : Int} (h : a = b) : AV.s (.int k a) = AV.s (.int k b) := by rw [h]
theorem wrap_i64 {n : Int} (h0 : -9223372036854775808 ≤ n) (h : n ≤ 9223372036854775807) : IntKind.i64.wrap n = n := by
  simp only [IntKind.wrap, IntKind.signed, IntKind.bits]; simp; omega
theorem wrap_i32 {n : Int} (h0 : -2147483648 ≤ n) (h : n ≤ 2147483647) : IntKind.i32.wrap n = n := by
  simp only [IntKind.wrap, IntKind.signed, IntKind.bits]; simp; omega
theorem wrap_u8 {n : Int} (h0 : 0 ≤ n) (h : n ≤ 255) : IntKind.u8.wrap n = n := by
  simp only [IntKind.wrap, IntKind.signed, IntKind.bits]; simp; omega
theorem wrap_u16 {n : Int} (h0 : 0 ≤ n) (h : n ≤ 65535) : IntKind.u16.wrap n = n := by
  simp only [IntKind.wrap, IntKind.signed, IntKind.bits]; simp; omega
theorem wrap_u32 {n : Int} (h0 : 0 ≤ n) (h : n ≤ 4294967295) : IntKind.u32.wrap n = n := by
  simp only [IntKind.wrap, IntKind.signed, IntKind.bits]; simp; omega
theorem wrap_u64 {n : Int} (h0 : 0 ≤ n) (h : n ≤ 18446744073709551615) : IntKind.u64.wrap n = n := by
  simp only [IntKind.wrap, IntKind.signed, IntKind.bits]; simp; omega
theorem wrapE {k : IntKind} {m m' : Int} (h : m = m') (h2 : k.wrap m' = m') : k.wrap m = m' := by rw [h, h2]
theorem wrapE' {k : IntKind} {m m' x : Int} (h : m = m') (h2 : k.wrap m' = x) : k.wrap m = x := by rw [h, h2]
theorem wrap_u8_mod (n : Int) : IntKind.u8.wrap n = n % 256 := by simp only [IntKind.wrap, IntKind.signed, IntKind.bits]; simp
theorem wrap_u16_mod (n : Int) : IntKind.u16.wrap n = n % 65536 := by simp only [IntKind.wrap, IntKind.signed, IntKind.bits]; simp
theorem wrap_u32_mod (n : Int) : IntKind.u32.wrap n = n % 4294967296 := by simp only [IntKind.wrap, IntKind.signed, IntKind.bits]; simp
theorem wrap_u64_mod (n : Int) : IntKind.u64.wrap n = n % 18446744073709551616 := by simp only [IntKind.wrap, IntKind.signed, IntKind.bits]; simp
theorem pure_cast {P : Program} {G : Nat → Option (List AV)} {f : FuncId} {args : List AV} {r r' : AV} {news : List Bk} (h : Pure P G f args r' news) (e : r' = r) : Pure P G f args r news := e ▸ h
theorem callH_cast {P : Program} {G : Nat → Option (List AV)} {f : FuncId} {args : List AV} {H H1 H' : List Bk} {r r' : AV} (h : CallH P G f args H r' H1) (e : r' = r) (e2 : H1 = H') : CallH P G f args H r H' := e ▸ e2 ▸ h
/-! rows of elements, each of so many cells -/
def nth {α : Type} [Inhabited α] (l : List α) (k : Nat) : α := l.getD k default
theorem nth_eq {α : Type} [Inhabited α] {l : List α} {k : Nat} (h : k < l.length) : nth l k = l[k] := by simp [nth, List.getD_eq_getElem?_getD, List.getElem?_eq_getElem h]
theorem take_nth {α : Type} [Inhabited α] {l : List α} {k : Nat} (h : k < l.length) : l.take (k + 1) = l.take k ++ [nth l k] := by
  rw [nth_eq h, List.take_add_one, List.getElem?_eq_getElem h]; rfl
theorem drop_nth {α : Type} [Inhabited α] {l : List α} {k : Nat} (h : k < l.length) : l.drop k = nth l k :: l.drop (k + 1) := by
  rw [nth_eq h, List.drop_eq_getElem_cons h]
section
variable {α : Type} {enc : α → List AV} {sz : Nat}
theorem len_flat (he : ∀ x, (enc x).length = sz) (l : List α) : (l.flatMap enc).length = l.length * sz := by
  induction l with
  | nil => simp
  | cons x l ih => rw [List.flatMap_cons, List.length_append, he, ih, List.length_cons, Nat.add_mul]; omega
theorem flat_drop (he : ∀ x, (enc x).length = sz) (l : List α) (k : Nat) : (l.flatMap enc).drop (k * sz) = (l.drop k).flatMap enc := by
  induction k generalizing l with
  | zero => simp
  | succ k ih =>
    cases l with
    | nil => simp
    | cons x l =>
      rw [List.flatMap_cons, Nat.add_mul, Nat.one_mul, Nat.add_comm, ← List.drop_drop, List.drop_append_of_le_length (by rw [he]; exact Nat.le_refl _), List.drop_of_length_le (l := enc x) (by rw [he]; exact Nat.le_refl _), List.nil_append, ih, List.drop_succ_cons]
theorem flat_take (he : ∀ x, (enc x).length = sz) (l : List α) (k : Nat) : (l.flatMap enc).take (k * sz) = (l.take k).flatMap enc := by
  induction k generalizing l with
  | zero => simp
  | succ k ih =>
    cases l with
    | nil => simp
    | cons x l =>
      rw [List.flatMap_cons, Nat.add_mul, Nat.one_mul, Nat.add_comm, List.take_add, List.take_append_of_le_length (by rw [he]; exact Nat.le_refl _), List.take_of_length_le (l := enc x) (by rw [he]; exact Nat.le_refl _), List.drop_append_of_le_length (by rw [he]; exact Nat.le_refl _), List.drop_of_length_le (l := enc x) (by rw [he]; exact Nat.le_refl _), List.nil_append, ih, List.take_succ_cons, List.flatMap_cons]
theorem flat_all (he : ∀ x, (enc x).length = sz) (l : List α) : (l.flatMap enc).take (l.length * sz) = l.flatMap enc := by rw [flat_take he, List.take_length]
theorem flat_nth [Inhabited α] (he : ∀ x, (enc x).length = sz) {l : List α} {k : Nat} (h : k < l.length) : (l.flatMap enc).drop (k * sz) = enc (nth l k) ++ (l.drop (k + 1)).flatMap enc := by
  rw [flat_drop he, drop_nth h, List.flatMap_cons]
theorem flat_snoc (l : List α) (x : α) : l.flatMap enc ++ enc x = (l ++ [x]).flatMap enc := by simp
theorem flat_pure (hp : ∀ x, (enc x).all pureC = true) (l : List α) : (l.flatMap enc).all pureC = true := by
  rw [List.all_flatMap]
  exact List.all_eq_true.2 fun x _ => hp x
theorem flat_pureB (hp : ∀ x, (enc x).all pureC = true) (l : List α) (b : Bool) (hb : b = true) : ((l.flatMap enc).all pureC && b) = true := by rw [flat_pure hp, hb]; rfl
theorem flat_take1 (he : ∀ x, (enc x).length = sz) (l : List α) (n : Nat) (h : l.length * sz ≤ n) : (l.flatMap enc).take n = l.flatMap enc := List.take_of_length_le (by rw [len_flat he]; exact h)
theorem flat_piece (he : ∀ x, (enc x).length = sz) (l : List α) (a n : Nat) : ((l.flatMap enc).drop (a * sz)).take (n * sz) = ((l.drop a).take n).flatMap enc := by rw [flat_drop he, flat_take he]
theorem fits_list {e : Sh} {Q : α → Prop} (h : ∀ cs, Fits e cs → ∃ a : α, cs = enc a ∧ Q a) {cs : List AV} (hf : Fits (.sl e) cs) : ∃ l : List α, cs = [.sl l.length (l.flatMap enc)] ∧ l.length ≤ maxLen ∧ ∀ a ∈ l, Q a := by
  obtain ⟨els, rfl, hl, hall⟩ := hf
  have key : ∀ els : List (List AV), (∀ x ∈ els, Fits e x) → ∃ l : List α, els.length = l.length ∧ els.flatten = l.flatMap enc ∧ ∀ a ∈ l, Q a := by
    intro els
    induction els with
    | nil => intro _; exact ⟨[], rfl, rfl, by simp⟩
    | cons x els ih =>
      intro hx
      obtain ⟨a, rfl, ha⟩ := h x (hx x (List.mem_cons_self ..))
      obtain ⟨l, h1, h2, h3⟩ := ih fun y hy => hx y (List.mem_cons_of_mem _ hy)
      refine ⟨a :: l, by simp [h1], by simp [h2], fun b hb => ?_⟩
      rcases List.mem_cons.1 hb with rfl | hb
      · exact ha
      · exact h3 b hb
  obtain ⟨l, h1, h2, h3⟩ := key els hall
  exact ⟨l, by rw [h1, h2], by omega, h3⟩
end
/-- a loop of so many rounds -/
theorem LoopT.count {C : Cx} {c : Code} {e : Ex} {st' : St} (S : Nat → St) (n : Nat) (h1 : ∀ k, k < n → Tri C c (S k) .normal (S (k + 1))) (h2 : LoopT C c (S n) e st') : ∀ k, k ≤ n → LoopT C c (S k) e st' := by
  intro k hk
  obtain ⟨d, hd⟩ : ∃ d, k + d = n := ⟨n - k, by omega⟩
  induction d generalizing k with
  | zero => obtain rfl : k = n := by omega
            exact h2
  | succ d ih => exact LoopT.next (h1 k (by omega)) (ih (k + 1) (by omega) (by omega))
end Go.Pm
