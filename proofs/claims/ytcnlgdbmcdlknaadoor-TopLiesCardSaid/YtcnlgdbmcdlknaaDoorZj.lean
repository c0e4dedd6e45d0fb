/- Lies: what they are, and their requests. By the prover of this seat. -/
import Derived.Test.YtcnlgdbmcdlknaaDoorZh
import Derived.Test.YtcnlgdbmcdlknaaDoorZi
set_option linter.unusedVariables false
set_option linter.unusedSimpArgs false
set_option maxRecDepth 100000
set_option maxHeartbeats 4000000
namespace Go.Proofs.YtcnlgdbmcdlknaaDoor.Fo
open Go.RowKit Go.Pm
structure Li where
  c : Int
  w : Int
  f : Int
  b : ByteArray
instance : Inhabited Li := ⟨⟨0, 0, 0, ⟨#[]⟩⟩⟩
def liE (x : Li) : List AV := lieC x.c x.w x.f x.b
def liA (x : Li) : AV := A (liE x)
structure Li.Ok (x : Li) : Prop where
  c : 0 ≤ x.c ∧ x.c ≤ 255
  w : 0 ≤ x.w ∧ x.w ≤ 255
  f : 0 ≤ x.f ∧ x.f ≤ 255
def liK (x : Li) : Nat := (x.w % 8).toNat
def jbF (o : Int) (x : Li) : ByteArray := if o = 0 then jbM (4 * liK x + 4) x.c (x.f % 2) (liK x + 1 : Nat) 0 (liK x) x.b else jbM (4 * liK x + 4) x.c (x.f % 2) 0 (liK x + 1 : Nat) (liK x) x.b
theorem liK_le (x : Li) : liK x ≤ 7 := by unfold liK; omega
theorem jbF_ok (o : Int) (ho : o = 0 ∨ o = 1) (x : Li) (hx : x.Ok) (hb : x.b.size ≤ 1000) : Pu 14 [i64 o, A (liE x)] (st (jbF o x)) := by
  have hw : x.w.tmod 8 = (liK x : Nat) := by
    have := hx.w
    rw [Int.tmod_eq_emod_of_nonneg this.1]
    unfold liK
    omega
  have hf : x.f.tmod 2 = x.f % 2 := Int.tmod_eq_emod_of_nonneg hx.f.1
  rcases ho with rfl | rfl
  · exact jb_ok0 x.c x.w x.f _ x.b (liK x) (liK_le x) hw hf (by omega) hx.c hb _ rfl
  · exact jb_ok1 x.c x.w x.f _ x.b (liK x) (liK_le x) hw hf (by omega) hx.c hb _ rfl
theorem jbM_size (m : Nat) (a0 a1 a2 a3 : Int) (k : Nat) (b : ByteArray) (hm : m = 4 * k + 4) : (jbM m a0 a1 a2 a3 k b).size = m := by
  unfold jbM
  rw [strA_size]
  exact jb_len1 _ _ _ _ k m b hm
theorem strA_ext (l : List AV) (i j : Nat) : (strA l).extract i j = strA ((l.take j).drop i) := by
  have : ((strA l).extract i j).data = (strA ((l.take j).drop i)).data := by
    rw [ByteArray.data_extract]
    apply Array.ext'
    simp [strA, List.map_drop, List.map_take, List.drop_take]
  exact ByteArray.ext this
theorem jbM_ext (m : Nat) (a0 a1 a2 a3 : Int) (k : Nat) (b : ByteArray) (hm : m = 4 * k + 4) : (jbM m a0 a1 a2 a3 k b).extract 2 4 = strA [u8 a2, u8 a3] := by
  unfold jbM
  rw [strA_ext]
  congr 1
  rw [List.drop_zero, List.take_take, Nat.min_eq_left (by omega)]
  rfl
theorem jbM_at (m : Nat) (a0 a1 a2 a3 : Int) (k : Nat) (b : ByteArray) (hm : m = 4 * k + 4) (h : 0 ≤ a0 ∧ a0 ≤ 255) : byteAt (jbM m a0 a1 a2 a3 k b) 0 = a0 := by
  unfold jbM
  refine at_strA _ 0 a0 (by omega) ?_
  rw [List.drop_zero, List.getElem?_take]
  rw [if_pos (by omega)]
  rfl
theorem len_0 (k : Nat) (hk : k ≤ 7) : Fo.getD 0 2 (strA [u8 (k + 1 : Nat), u8 0]) = (((k + 1 : Nat) : Int), 0) := by
  match k, hk with
  | 0, _ => decide +kernel
  | 1, _ => decide +kernel
  | 2, _ => decide +kernel
  | 3, _ => decide +kernel
  | 4, _ => decide +kernel
  | 5, _ => decide +kernel
  | 6, _ => decide +kernel
  | 7, _ => decide +kernel
  | k + 8, h => omega
theorem len_1 (k : Nat) (hk : k ≤ 7) : Fo.getD 1 2 (strA [u8 0, u8 (k + 1 : Nat)]) = (((k + 1 : Nat) : Int), 0) := by
  match k, hk with
  | 0, _ => decide +kernel
  | 1, _ => decide +kernel
  | 2, _ => decide +kernel
  | 3, _ => decide +kernel
  | 4, _ => decide +kernel
  | 5, _ => decide +kernel
  | 6, _ => decide +kernel
  | 7, _ => decide +kernel
  | k + 8, h => omega
theorem jbF_frm (o : Int) (ho : o = 0 ∨ o = 1) (x : Li) : Frm o (jbF o x) ((liK x + 1 : Nat) : Int) := by
  have hk := liK_le x
  rcases ho with rfl | rfl
  · refine ⟨.inl rfl, by omega, by omega, ?_, ?_⟩
    · unfold jbF; rw [if_pos rfl, jbM_size _ _ _ _ _ _ _ rfl]; omega
    · unfold jbF; rw [if_pos rfl, jbM_ext _ _ _ _ _ _ _ rfl]; exact len_0 _ hk
  · refine ⟨.inr rfl, by omega, by omega, ?_, ?_⟩
    · unfold jbF; rw [if_neg (by decide), jbM_size _ _ _ _ _ _ _ rfl]; omega
    · unfold jbF; rw [if_neg (by decide), jbM_ext _ _ _ _ _ _ _ rfl]; exact len_1 _ hk
theorem jbF_at (o : Int) (x : Li) (hx : x.Ok) : byteAt (jbF o x) 0 = x.c := by
  unfold jbF
  split
  · exact jbM_at _ _ _ _ _ _ _ rfl hx.c
  · exact jbM_at _ _ _ _ _ _ _ rfl hx.c
def liB (o : Int) (ls : List Li) : List ByteArray := ls.map (jbF o)
theorem nth_map {α β : Type} [Inhabited α] [Inhabited β] (f : α → β) (l : List α) (k : Nat) (h : k < l.length) : nth (l.map f) k = f (nth l k) := by
  unfold nth
  simp [h]
theorem liB_frms (o : Int) (ho : o = 0 ∨ o = 1) (ls : List Li) (h20 : ls.length ≤ 20) : Frms o (liB o ls) (fun k => ((liK (nth ls k) + 1 : Nat) : Int)) := by
  unfold liB
  refine ⟨by rw [List.length_map]; exact h20, fun k hk => ?_⟩
  rw [List.length_map] at hk
  rw [nth_map _ _ _ hk]
  exact jbF_frm o ho _
theorem Frms.drop {o : Int} {X : List ByteArray} {v : Nat → Int} (h : Frms o X v) (w : Nat) : Frms o (X.drop w) (fun k => v (w + k)) := by
  have h1 := h.1
  refine ⟨by rw [List.length_drop]; omega, fun k hk => ?_⟩
  rw [List.length_drop] at hk
  have := h.2 (w + k) (by omega)
  rw [show nth (X.drop w) k = nth X (w + k) by unfold nth; simp]
  exact this
end Go.Proofs.YtcnlgdbmcdlknaaDoor.Fo
