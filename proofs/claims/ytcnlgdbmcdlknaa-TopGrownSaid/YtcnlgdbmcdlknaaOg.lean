/- Any rectangles made one list: what a round does, in plain words. By the prover of this seat. -/
import Derived.Test.YtcnlgdbmcdlknaaOe
set_option linter.unusedVariables false
set_option linter.unusedSimpArgs false
set_option maxRecDepth 100000
set_option maxHeartbeats 400000
namespace Go.Proofs.Ytcnlgdbmcdlknaa.Bn
open Go Go.RowKit Go.Pm
def partD (f : Rc → Rc) (l : List Rc) (a k : Nat) : List Rc := l.mapIdx (fun i r => if a ≤ i ∧ i < k then f r else r)
theorem part_len (f : Rc → Rc) (l : List Rc) (a k : Nat) : (partD f l a k).length = l.length := by simp [partD]
theorem part_get (f : Rc → Rc) (l : List Rc) (a k i : Nat) (h : i < (partD f l a k).length) : (partD f l a k)[i] = if a ≤ i ∧ i < k then f (l[i]'(by simpa [partD] using h)) else l[i]'(by simpa [partD] using h) := by
  simp [partD]
theorem part_nth (f : Rc → Rc) (l : List Rc) (a k : Nat) (h : k < l.length) : nth (partD f l a k) k = nth l k := by
  rw [nth_eq (by rw [part_len]; exact h), nth_eq h, part_get, if_neg (by omega)]
theorem part_start (f : Rc → Rc) (l : List Rc) (a : Nat) : partD f l a a = l :=
  List.ext_getElem (part_len f l a a) fun i h1 h2 => by rw [part_get, if_neg (by omega)]
theorem part_next (f : Rc → Rc) (l : List Rc) (a k : Nat) (ha : a ≤ k) (h : k < l.length) : (partD f l a k).set k (f (nth l k)) = partD f l a (k + 1) :=
  List.ext_getElem (by rw [List.length_set, part_len, part_len]) fun i h1 h2 => by
    rw [List.getElem_set, part_get]
    by_cases e : k = i
    · subst e
      rw [if_pos rfl, part_get, if_pos (by omega), nth_eq h]
    · rw [if_neg e, part_get]
      by_cases q : a ≤ i ∧ i < k
      · rw [if_pos q, if_pos (by omega)]
      · rw [if_neg q, if_neg (by omega)]
theorem part_end (f : Rc → Rc) (u v : List Rc) (a : Nat) (ha : a ≤ u.length) : (partD f (u ++ v) a u.length).take u.length = u.take a ++ (u.drop a).map f :=
  List.ext_getElem (by rw [List.length_take, part_len]; simp; omega) fun i h1 h2 => by
    have hi : i < u.length := by rw [List.length_take, part_len] at h1; omega
    rw [List.getElem_take, part_get, List.getElem_append_left hi]
    by_cases q : i < a
    · rw [if_neg (by omega), List.getElem_append_left (by simp; omega), List.getElem_take]
    · rw [if_pos (by omega), List.getElem_append_right (by simp; omega), List.getElem_map, List.getElem_drop]
      congr 2
      rw [List.length_take]
      omega
/-- how many begin here -/
def cmN (y : Int) : List Rc → Nat
  | [] => 0
  | r :: l => if r.y = y then cmN y l + 1 else 0
theorem cmN_le (y : Int) : ∀ l : List Rc, cmN y l ≤ l.length
  | [] => Nat.le_refl _
  | r :: l => by
    have := cmN_le y l
    rw [cmN, List.length_cons]
    split <;> omega
theorem cmN_take (y : Int) : ∀ l : List Rc, ∀ r ∈ l.take (cmN y l), r.y = y
  | [] => by simp [cmN]
  | r :: l => by
    rw [cmN]
    split
    · rename_i h
      rw [List.take_succ_cons]
      intro q hq
      rcases List.mem_cons.1 hq with rfl | hq
      · exact h
      · exact cmN_take y l q hq
    · simp
theorem cmN_drop (y : Int) : ∀ l : List Rc, YS l → (∀ r ∈ l, y ≤ r.y) → ∀ r ∈ l.drop (cmN y l), y < r.y
  | [] => by simp
  | r :: l => by
    intro hs hl
    obtain ⟨h1, h2⟩ := List.pairwise_cons.1 hs
    rw [cmN]
    split
    · rw [List.drop_succ_cons]
      exact cmN_drop y l h2 fun q hq => hl q (by simp [hq])
    · rename_i h
      have h0 := hl r (by simp)
      rw [List.drop_zero]
      intro q hq
      rcases List.mem_cons.1 hq with rfl | hq
      · omega
      · have := h1 q hq; omega
theorem cm_loop (L : List Rc) (ys : List Int) (i ab nx0 : Nat) (o : List Rc) (m : Nat) (y z : Int) (hL : L.length ≤ 1000000) : ∀ (d nx : Nat) (row : List Rc), L.length - nx = d → nx ≤ L.length → row.length ≤ nx → LoopT C0 cmB (cmS L ys i ab nx0 o m y z row row.length nx) (.exit 4) (cmS L ys i ab nx0 o m y z (row ++ (L.drop nx).take (cmN y (L.drop nx))) (row ++ (L.drop nx).take (cmN y (L.drop nx))).length (nx + cmN y (L.drop nx))) := by
  intro d
  induction d with
  | zero =>
    intro nx row hd hn hr
    obtain rfl : nx = L.length := by omega
    rw [List.drop_length, cmN, List.take_nil, List.append_nil, Nat.add_zero]
    exact cm_end L ys i ab nx0 o m y z row row.length hL
  | succ d ih =>
    intro nx row hd hn hr
    have hx : nx < L.length := by omega
    rw [drop_nth hx, cmN]
    by_cases hy : (nth L nx).y = y
    · rw [if_pos hy, List.take_succ_cons]
      have h1 := cm_more L ys i ab nx0 o m y z row row.length nx hL rfl hx hr hy
      have h2 := ih (nx + 1) (row ++ [nth L nx]) (by omega) (by omega) (by simp; omega)
      rw [List.length_append, List.length_singleton] at h2
      have e : row ++ [nth L nx] ++ (L.drop (nx + 1)).take (cmN y (L.drop (nx + 1))) = row ++ nth L nx :: (L.drop (nx + 1)).take (cmN y (L.drop (nx + 1))) := by simp
      rw [e, show nx + 1 + cmN y (L.drop (nx + 1)) = nx + (cmN y (L.drop (nx + 1)) + 1) by omega] at h2
      exact LoopT.next h1 h2
    · rw [if_neg hy, List.take_zero, List.append_nil, Nat.add_zero]
      exact cm_stop L ys i ab nx0 o m y z row row.length nx hL hx hy
theorem hg_loop (L : List Rc) (ys : List Int) (i ab nx fr : Nat) (o : List Rc) (y z : Int) (row : List Rc) (n : Nat) (hab : ab ≤ fr) (hf : fr ≤ o.length) (ho : o.length ≤ 1000000) (hs : ∀ r ∈ o, Sm r) (y0 : -3000 ≤ y) (y1 : y ≤ 3000) (z0 : -3000 ≤ z) (z1 : z ≤ 3000) : LoopT C0 hgB (hgS L ys i ab nx fr o o.length y z row n ab) (.exit 8) (hgS L ys i ab nx fr (partD (ext (z - y)) o ab fr) o.length y z row n fr) := by
  have key : ∀ (d k : Nat), fr - k = d → ab ≤ k → k ≤ fr → LoopT C0 hgB (hgS L ys i ab nx fr (partD (ext (z - y)) o ab k) o.length y z row n k) (.exit 8) (hgS L ys i ab nx fr (partD (ext (z - y)) o ab fr) o.length y z row n fr) := by
    intro d
    induction d with
    | zero =>
      intro k hd h1 h2
      obtain rfl : k = fr := by omega
      exact hg_end L ys i ab nx k _ o.length y z row n
    | succ d ih =>
      intro k hd h1 h2
      have hk : k < o.length := by omega
      have hn := part_nth (ext (z - y)) o ab k hk
      have hsm := hs _ (nth_mem hk)
      obtain ⟨s0, s1, s2, s3, s4, s5, s6, s7⟩ := hsm
      refine LoopT.next (hg_step L ys i ab nx fr (partD (ext (z - y)) o ab k) (partD (ext (z - y)) o ab (k + 1)) o.length y z row n k (part_len _ _ _ _).symm (by omega) hf (by rw [part_len]; exact ho) (by rw [hn]; omega) (by rw [hn]; omega) y0 y1 z0 z1 ?_) (ih (k + 1) (by omega) (by omega) (by omega))
      rw [hn]
      exact part_next (ext (z - y)) o ab k h1 hk
  have h := key _ ab rfl (Nat.le_refl _) hab
  rwa [part_start] at h
end Go.Proofs.Ytcnlgdbmcdlknaa.Bn
