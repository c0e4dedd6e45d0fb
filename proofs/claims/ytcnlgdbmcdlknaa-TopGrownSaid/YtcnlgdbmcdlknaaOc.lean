/- Any rectangles made one list: a row's stretches laid behind. By the prover of this seat. -/
import Derived.Test.YtcnlgdbmcdlknaaOb
set_option linter.unusedVariables false
set_option linter.unusedSimpArgs false
set_option maxRecDepth 100000
set_option maxHeartbeats 400000
namespace Go.Proofs.Ytcnlgdbmcdlknaa.Bn
open Go Go.RowKit Go.Pm
theorem spans_enter : ∀ args w, (callFunc 49 args).run Try.prog w = .ok (.enter 49 args) w := enters_of Try.func49 (by kernel_rfl) rfl
def outK (o : List Rc) (y z : Int) (row : List Rc) (k : Nat) : List Rc := o ++ ((spD row).take k).map (rcS y z)
def rgH (o : List Rc) (m : Nat) (y z : Int) (row : List Rc) : Nat → List Bk
  | 0 => spaH o m y z row
  | k + 1 => spbH (outK o y z row (k + 1)) (m + (k + 1)) y z row
def rgV (L : List Rc) (ys : List Int) (i ab nx fr n : Nat) : List AV := mkT 134 [(2, .ptr 0 0), (3, slR L), (6, slI ys), (7, .ptr 1 0), (8, .osl 3 0 n 4), (9, i64 (ab : Int)), (10, i64 (nx : Int)), (11, i64 (i : Int)), (12, .ptr 4 0), (13, .ptr 5 0), (15, i64 (fr : Int))]
theorem spD_rng (row : List Rc) (hs : ∀ r ∈ row, Sm r) : ∀ p ∈ spD row, -3000 ≤ p.a ∧ p.a ≤ 3000 ∧ -3000 ≤ p.b ∧ p.b ≤ 3000 := by
  have key : ∀ (l : List Rc) (a b : Int), (∀ r ∈ l, Sm r) → -2000 ≤ a → a ≤ 2000 → -2000 ≤ b → b ≤ 2000 → ∀ p ∈ spGo a b l, -3000 ≤ p.a ∧ p.a ≤ 3000 ∧ -3000 ≤ p.b ∧ p.b ≤ 3000 := by
    intro l
    induction l with
    | nil => intro a b _ h1 h2 h3 h4 p hp; rw [spGo, List.mem_singleton] at hp; subst hp; exact ⟨by show _ ≤ a; omega, by show a ≤ _; omega, by show _ ≤ b; omega, by show b ≤ _; omega⟩
    | cons r l ih =>
      intro a b h h1 h2 h3 h4 p hp
      have hr := h r (by simp)
      unfold Sm at hr
      rw [spGo] at hp
      split at hp
      · exact ih _ _ (fun q hq => h q (by simp [hq])) h1 h2 (by omega) (by omega) p hp
      · rcases List.mem_cons.1 hp with rfl | hp
        · exact ⟨by show _ ≤ a; omega, by show a ≤ _; omega, by show _ ≤ b; omega, by show b ≤ _; omega⟩
        · exact ih _ _ (fun q hq => h q (by simp [hq])) (by omega) (by omega) (by omega) (by omega) p hp
  cases row with
  | nil => intro p hp; simp [spD] at hp
  | cons r l =>
    have hr := hs r (by simp)
    unfold Sm at hr
    rw [spD]
    exact key l _ _ (fun q hq => hs q (by simp [hq])) (by omega) (by omega) (by omega) (by omega)
theorem outK_len (o : List Rc) (y z : Int) (row : List Rc) (k : Nat) (hk : k ≤ (spD row).length) : (outK o y z row k).length = o.length + k := by
  unfold outK
  rw [List.length_append, List.length_map, List.length_take]
  omega
theorem outK_next (o : List Rc) (y z : Int) (row : List Rc) (k : Nat) (p : Sp) (h : (spD row)[k]? = some p) : outK o y z row (k + 1) = outK o y z row k ++ [rcS y z p] := by
  unfold outK
  rw [List.take_add_one, h, List.map_append, ← List.append_assoc]
  rfl
theorem rg_tri (L : List Rc) (ys : List Int) (i ab nx fr : Nat) (o : List Rc) (m : Nat) (y z : Int) (row : List Rc) (hm : m = o.length) (hl : o.length + row.length ≤ 1000000) (hs : ∀ r ∈ row, Sm r) (y0 : -3000 ≤ y) (y1 : y ≤ 3000) (z0 : -3000 ≤ z) (z1 : z ≤ 3000) :
    Tri C0 rgC ⟨rgT L ys i ab nx fr row.length, spaH o m y z row⟩ .normal ⟨rgT L ys i ab nx fr row.length, rgH o m y z row (spD row).length⟩ := by
  have hlen := spD_len row
  have hS : ∀ k, k ≤ (spD row).length → SpR row (rgH o m y z row k) := fun k hk => by
    cases k with
    | zero => exact spR_a o m y z row (by omega) hs
    | succ k => exact spR_b _ _ y z row (by omega) hs
  have hF : ∀ k, k ≤ (spD row).length → FrR (rgH o m y z row k) := fun k hk => by
    cases k with
    | zero => exact front_a o m y z row
    | succ k => exact front_b _ _ y z row
  have at_ : ∀ k x, ((spD row).map fun p : Sp => A [i64 p.a, i64 p.b])[k]? = some x → ∃ p : Sp, (spD row)[k]? = some p ∧ x = A [i64 p.a, i64 p.b] := fun k x hx => by
    rw [List.getElem?_map] at hx
    cases hp : (spD row)[k]? with
    | none => rw [hp] at hx; cases hx
    | some p => rw [hp] at hx; cases hx; exact ⟨p, hp, rfl⟩
  rw [rg_code]
  refine range_triM ((spD row).map fun p : Sp => A [i64 p.a, i64 p.b]) (spD row).length (rgH o m y z row) (spans_iter row (by omega) _ _ hS hF) spans_enter rfl rfl (fun k => rgU L ys i ab nx fr row.length (if k = 0 then 7 else 8)) (fun k => rgH o m y z row k ++ [.arr 2 [i64 (nth (spD row) k).a, i64 (nth (spD row) k).b] 0]) (by rw [List.length_map]; omega) (fun k x hk hx => ?_) (fun k hk => ?_) .normal _ (.inl ⟨by rw [List.length_map], rfl, rfl⟩)
  · obtain ⟨p, hp, rfl⟩ := at_ k x hx
    have hk2 := (List.getElem?_eq_some_iff.1 hp).1
    have hn : nth (spD row) k = p := by rw [nth_eq hk2]; exact (List.getElem?_eq_some_iff.1 hp).2
    rw [hn]
    cases k with
    | zero => exact rg_as_a L ys i ab nx fr o m y z row p.a p.b
    | succ k => exact rg_as_b L ys i ab nx fr _ _ y z row p.a p.b
  · have hp : (spD row)[k]? = some (nth (spD row) k) := by rw [nth_eq hk, List.getElem?_eq_getElem hk]
    obtain ⟨p, hpe⟩ : ∃ p, p = nth (spD row) k := ⟨_, rfl⟩
    rw [← hpe] at hp ⊢
    have hmem : p ∈ spD row := List.mem_of_getElem? hp
    obtain ⟨a0, a1, b0, b1⟩ := spD_rng row hs p hmem
    refine ⟨rgT L ys i ab nx fr row.length, ?_⟩
    cases k with
    | zero =>
      have e := outK_next o y z row 0 p hp
      have e0 : outK o y z row 0 = o := by simp [outK]
      rw [e0] at e
      have h := rg_go_a L ys i ab nx fr o m y z row p.a p.b hm (by omega) a0 a1 b0 b1 y0 y1 z0 z1
      rw [show o ++ [rcS y z ⟨p.a, p.b⟩] = outK o y z row (0 + 1) from e.symm] at h
      exact h
    | succ k =>
      have e := outK_next o y z row (k + 1) p hp
      have hlk := outK_len o y z row (k + 1) (by omega)
      have h := rg_go_b L ys i ab nx fr (outK o y z row (k + 1)) (m + (k + 1)) y z row p.a p.b (by omega) (by omega) a0 a1 b0 b1 y0 y1 z0 z1
      rw [show outK o y z row (k + 1) ++ [rcS y z ⟨p.a, p.b⟩] = outK o y z row (k + 1 + 1) from e.symm] at h
      exact h
/-- seen the same way, whether a stretch came or none -/
theorem rg_ok (L : List Rc) (ys : List Int) (i ab nx fr : Nat) (o o' : List Rc) (m m' : Nat) (y z : Int) (row : List Rc) (hm : m = o.length) (hl : o.length + row.length ≤ 1000000) (hs : ∀ r ∈ row, Sm r) (y0 : -3000 ≤ y) (y1 : y ≤ 3000) (z0 : -3000 ≤ z) (z1 : z ≤ 3000) (ho' : o ++ (spD row).map (rcS y z) = o') (hm' : o'.length = m') :
    Tri C0 rgC ⟨rgT L ys i ab nx fr row.length, spaH o m y z row⟩ .normal ⟨rgV L ys i ab nx fr row.length, rnH o' m' row row.length y z⟩ := by
  have h := rg_tri L ys i ab nx fr o m y z row hm hl hs y0 y1 z0 z1
  have hlen := outK_len o y z row (spD row).length (Nat.le_refl _)
  have hall : outK o y z row (spD row).length = o' := by unfold outK; rw [List.take_length]; exact ho'
  rw [hall, hm'] at hlen
  cases hk : (spD row).length with
  | zero =>
    rw [hk] at h hall hlen
    obtain rfl : o = o' := by rw [← hall]; simp [outK]
    obtain rfl : m = m' := by omega
    exact Tri.forget (f := { ks := [2, 3, 6, 7, 8, 9, 10, 11, 12, 13, 15], l := [0, 1, 2, 3, 4, 5], mx := [1] }) h ⟨by kernel_rfl, rfl, pr _ _ _, pr _ _ _, rfl, rfl, trivial⟩
  | succ k =>
    rw [hk] at h hall hlen
    obtain rfl : m' = m + (k + 1) := by omega
    rw [← hall]
    exact Tri.forget (f := { ks := [2, 3, 6, 7, 8, 9, 10, 11, 12, 13, 15], l := [0, 1, 7, 3, 4, 5], mx := [1] }) h ⟨by kernel_rfl, rfl, pr _ _ _, pr _ _ _, rfl, rfl, trivial⟩
end Go.Proofs.Ytcnlgdbmcdlknaa.Bn
