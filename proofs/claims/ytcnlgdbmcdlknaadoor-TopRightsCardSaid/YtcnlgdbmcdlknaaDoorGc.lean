/- Rows of masks. By the prover of this seat. -/
import Derived.Test.YtcnlgdbmcdlknaaDoorGb
set_option linter.unusedVariables false
set_option linter.unusedSimpArgs false
set_option maxRecDepth 100000
set_option maxHeartbeats 4000000
namespace Go.Proofs.YtcnlgdbmcdlknaaDoor.Ch
open Go.RowKit Go.Pm
structure Row where
  c : Int
  id : Int
  m : Nat
instance : Inhabited Row := ⟨⟨0, 0, 0⟩⟩
def recR (r : Row) : List AV := [i64 r.c, u32 r.id, i64 (r.m : Int)]
def slR (l : List Row) : AV := slE recR l
def keyR (r : Row) : Int × Int := (r.c, r.id)
def eJ (n : Int) : List AV := [i64 n]
def slJ (l : List Int) : AV := slE eJ l
def eI (n : Int) : List AV := [u32 n]
def slI (l : List Int) : AV := slE eI l
/-! Mask -/
def isR (c id : Int) (r : Row) : Bool := decide (r.c = c) && decide (r.id = id)
def maskR (l : List Row) (c id : Int) : Nat := match idxD (isR c id) l with
  | some k => (nth l k).m
  | none => 0
def mkS (l : List Row) (c id : Int) (k : Nat) : St := ⟨mkT 35 [(0, slR l), (1, i64 c), (2, u32 id), (7, i64 k)], []⟩
def mkH (l : List Row) (c id : Int) (k : Nat) : St := ⟨mkT 35 [(6, i64 ((nth l k).m : Int))], []⟩
def ptS (l : List Row) (x : Row) (k m : Nat) (ks : List Row) : St := ⟨mkT 42 [(0, slR l), (3, .ptr 0 0), (5, .osl 1 0 m 3), (6, i64 k)], [.arr 3 (recR x) 0, .arr (m * 3) (ks.flatMap recR) 0]⟩
def apartF (a : Int × Int) (x : Row) : List Row := if keyR x = a then [] else [x]
theorem apart_le (a : Int × Int) (x : Row) : (apartF a x).length ≤ 1 := by unfold apartF; split <;> simp
theorem drop_flat (l : List Row) (a : Int × Int) : l.flatMap (apartF a) = dropM keyR l a := by
  unfold dropM
  induction l with
  | nil => rfl
  | cons x l ih =>
    rw [List.flatMap_cons, List.filter_cons, ih]
    by_cases h : keyR x = a <;> simp [apartF, h]
def keepD (c id : Int) (r : Row) : Bool := (decide (¬ r.c = c) || decide (c < 1)) && (decide (¬ r.id = id) || decide (id = 0))
def rdS (l : List Row) (c id : Int) (k m : Nat) (ks : List Row) : St := ⟨mkT 47 [(0, slR l), (1, i64 c), (2, u32 id), (7, .osl 0 0 m 3), (8, i64 k)], [.arr (m * 3) (ks.flatMap recR) 0]⟩
def oneF {α : Type} (p : α → Bool) (x : α) : List α := if p x = true then [x] else []
theorem one_le {α : Type} (p : α → Bool) (x : α) : (oneF p x).length ≤ 1 := by unfold oneF; split <;> simp
theorem one_flat {α : Type} (p : α → Bool) (l : List α) : l.flatMap (oneF p) = l.filter p := by
  induction l with
  | nil => rfl
  | cons x l ih =>
    rw [List.flatMap_cons, List.filter_cons, ih]
    unfold oneF
    split <;> rfl
end Go.Proofs.YtcnlgdbmcdlknaaDoor.Ch
