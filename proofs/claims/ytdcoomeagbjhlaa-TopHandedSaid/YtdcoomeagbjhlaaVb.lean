/- Searches. By the prover of this seat. -/
import Derived.Test.YtdcoomeagbjhlaaVa
set_option linter.unusedVariables false
set_option linter.unusedSimpArgs false
set_option maxRecDepth 100000
set_option maxHeartbeats 4000000
namespace Go.Proofs.Ytdcoomeagbjhlaa.Cl
open Go.RowKit Go.Pm
def fn_m (client req : Int) : AV := .fn (.func 56) [] [.fptr [i64 client], .fptr [u32 req]]
noncomputable def ixmB : Code := loopOf Try.prog 75 2
def ixmS (client req : Int) (l : List Pend) (k : Nat) : St := ⟨mkT 19 [(0, slE pendL l), (1, fn_m client req), (7, i64 l.length), (8, i64 k)], []⟩
def ixmH (client req : Int) (l : List Pend) (k : Nat) : St := ⟨mkT 19 [(4, i64 k)], []⟩
theorem ixm_step (client req : Int) (l : List Pend) (k : Nat) (hk : k < l.length) (hl : l.length ≤ 1000000)  (hp : ¬ mayD client req (nth l k) = true) : Tri C0 ixmB (ixmS client req l k) .normal (ixmS client req l (k + 1)) := by
  exact runF_ok (hs := hint [((2,0), {val := some (bl (true))}), ((4,3), {cells := some (pendL (nth l k) ++ List.flatMap pendL (List.drop (k + (1 : Nat)) l)), sym := true}), ((4,5), {val := some (bl (false)), call := some ((bl (mayD client req (nth l k))))}), ((6,0), {val := some (i64 ((↑k : Int) + (1 : Int)))})]) (f := { ks := [0, 1, 7, 8] }) (ps := [bl (decide ((↑k : Int) < (↑l.length : Int))) = bl (true), decide ((0 : Int) ≤ (↑k : Int) ∧ (↑k : Int) < (↑l.length : Int)) = true, ((List.drop ((↑k : Int).toNat * (8 : Nat)) (List.flatMap pendL l)) : List AV) = (pendL (nth l k) ++ List.flatMap pendL (List.drop (k + (1 : Nat)) l)), _, bl (mayD client req (nth l k)) = bl (false), i64 (IntKind.i64.wrap ((↑k : Int) + (1 : Int))) = i64 ((↑k : Int) + (1 : Int)), true = true]) (by kernel_rfl) ⟨(bdT (by omega)), (by exact decide_t (by omega)), (by exact flat_nth (sz := 8) (k := k) (fun _ => rfl) (by omega)), (may1_ok (client) (req) (nth l k)), (bvF (by assumption)), (intE (by exact wrap_i64 (by omega) (by omega))), rfl, trivial⟩
theorem ixm_hit (client req : Int) (l : List Pend) (k : Nat) (hk : k < l.length) (hl : l.length ≤ 1000000)  (hp : mayD client req (nth l k) = true) : LoopT C0 ixmB (ixmS client req l k) .ret (ixmH client req l k) := by
  exact LoopT.fin (hs := hint [((2,0), {val := some (bl (true))}), ((4,3), {cells := some (pendL (nth l k) ++ List.flatMap pendL (List.drop (k + (1 : Nat)) l)), sym := true}), ((4,5), {val := some (bl (true)), call := some ((bl (mayD client req (nth l k))))})]) (f := { ks := [4] }) (ps := [bl (decide ((↑k : Int) < (↑l.length : Int))) = bl (true), decide ((0 : Int) ≤ (↑k : Int) ∧ (↑k : Int) < (↑l.length : Int)) = true, ((List.drop ((↑k : Int).toNat * (8 : Nat)) (List.flatMap pendL l)) : List AV) = (pendL (nth l k) ++ List.flatMap pendL (List.drop (k + (1 : Nat)) l)), _, bl (mayD client req (nth l k)) = bl (true), true = true]) (by kernel_rfl) ⟨(bdT (by omega)), (by exact decide_t (by omega)), (by exact flat_nth (sz := 8) (k := k) (fun _ => rfl) (by omega)), (may1_ok (client) (req) (nth l k)), (bvT (by assumption)), rfl, trivial⟩ (by decide)
theorem ixm_end (client req : Int) (l : List Pend)  : LoopT C0 ixmB (ixmS client req l l.length) (.exit 0) (ixmS client req l l.length) := by
  exact LoopT.fin (hs := hint [((2,0), {val := some (bl (false))})]) (f := { ks := [0, 1, 7, 8] }) (ps := [bl (decide ((↑l.length : Int) < (↑l.length : Int))) = bl (false), true = true]) (by kernel_rfl) ⟨(bdF (by omega)), rfl, trivial⟩ (by decide)
theorem ixm_ok (client req : Int) (l : List Pend) (hl : l.length ≤ 1000000)  : Pu 75 [slE pendL l, fn_m client req] (i64 (idxI (idxD (mayD client req) l))) := by
  cases h : idxD (mayD client req) l with
  | some m =>
    obtain ⟨h1, h2, h3⟩ := idx_some h
    have L := LoopT.count (ixmS client req l) m (fun k hk => ixm_step client req l k (by omega) hl (h3 k hk)) (ixm_hit client req l m h1 hl h2) 0 (by omega)
    exact pure_of (hs := hint [((2,1000), {loop := some ({ ks := [0, 1, 7, 8] }, ixmS client req l (0 : Nat), Ex.ret, ixmH client req l m)})]) (ps := [ixmS client req l (0 : Nat) = ixmS client req l (0 : Nat), _, true = true]) (by kernel_rfl) ⟨rfl, L, rfl, trivial⟩
  | none =>
    have L := LoopT.count (ixmS client req l) l.length (fun k hk => ixm_step client req l k hk hl (idx_none h k hk)) (ixm_end client req l) 0 (by omega)
    exact pure_of (hs := hint [((2,1000), {loop := some ({ ks := [0, 1, 7, 8] }, ixmS client req l (0 : Nat), Ex.exit (0 : Nat), ixmS client req l l.length)})]) (ps := [ixmS client req l (0 : Nat) = ixmS client req l (0 : Nat), _, true = true]) (by kernel_rfl) ⟨rfl, L, rfl, trivial⟩
noncomputable def ixaB : Code := loopOf Try.prog 75 2
def ixaH (client req sel : Int) (l : List Pend) (k : Nat) : St := ⟨mkT 19 [(4, i64 k)], []⟩
theorem cfm_ok (client req : Int) (l : List Pend) (hl : l.length ≤ 1000000) : Pu 55 [slE pendL l, fn_m client req] (bl (idxD (mayD client req) l).isSome) := by
  have hx := ixm_ok client req l hl
  cases h : idxD (mayD client req) l with
  | none =>
    rw [h] at hx
    simp only [idxI] at hx
    exact pure_of (hs := hint [((1,2), {call := some ((i64 (-1 : Int)))})]) (ps := [_]) (by kernel_rfl) ⟨(hx), trivial⟩
  | some k =>
    rw [h] at hx
    simp only [idxI] at hx
    exact pure_cast (pure_of (hs := hint [((1,2), {call := some ((i64 (↑k : Int)))})]) (r := bl (decide ((↑k : Int) ≥ (0 : Int)))) (ps := [_]) (by kernel_rfl) ⟨(hx), trivial⟩) (by (simp; done))
def isD (v x : Int) : Bool := decide (x = v)
def inD (l : List Int) (v : Int) : Bool := (idxD (isD v) l).isSome
noncomputable def iuB : Code := loopOf Try.prog 77 2
def iuS (l : List Int) (v : Int) (k : Nat) : St := ⟨mkT 19 [(0, slU l), (1, u32 v), (7, i64 l.length), (8, i64 k)], []⟩
def iuH (l : List Int) (v : Int) (k : Nat) : St := ⟨mkT 19 [(4, i64 k)], []⟩
theorem iu_step (l : List Int) (v : Int) (k : Nat) (hk : k < l.length) (hl : l.length ≤ 1000000)  (hp : ¬ isD v (nth l k) = true) : Tri C0 iuB (iuS l v k) .normal (iuS l v (k + 1)) := by
  simp only [isD, decide_eq_true_eq] at hp
  exact runF_ok (hs := hint [((2,0), {val := some (bl (true))}), ((4,3), {cells := some (eU (nth l k) ++ List.flatMap eU (List.drop (k + (1 : Nat)) l)), sym := true}), ((4,5), {val := some (bl (false))}), ((6,0), {val := some (i64 ((↑k : Int) + (1 : Int)))})]) (f := { ks := [0, 1, 7, 8] }) (ps := [bl (decide ((↑k : Int) < (↑l.length : Int))) = bl (true), decide ((0 : Int) ≤ (↑k : Int) ∧ (↑k : Int) < (↑l.length : Int)) = true, ((List.drop ((↑k : Int).toNat * (1 : Nat)) (List.flatMap eU l)) : List AV) = (eU (nth l k) ++ List.flatMap eU (List.drop (k + (1 : Nat)) l)), bl (v == nth l k) = bl (false), i64 (IntKind.i64.wrap ((↑k : Int) + (1 : Int))) = i64 ((↑k : Int) + (1 : Int)), true = true]) (by kernel_rfl) ⟨(bdT (by omega)), (by exact decide_t (by omega)), (by exact flat_nth (sz := 1) (k := k) (fun _ => rfl) (by omega)), (beF (by omega)), (intE (by exact wrap_i64 (by omega) (by omega))), rfl, trivial⟩
theorem iu_hit (l : List Int) (v : Int) (k : Nat) (hk : k < l.length) (hl : l.length ≤ 1000000)  (hp : isD v (nth l k) = true) : LoopT C0 iuB (iuS l v k) .ret (iuH l v k) := by
  simp only [isD, decide_eq_true_eq] at hp
  exact LoopT.fin (hs := hint [((2,0), {val := some (bl (true))}), ((4,3), {cells := some (eU (nth l k) ++ List.flatMap eU (List.drop (k + (1 : Nat)) l)), sym := true}), ((4,5), {val := some (bl (true))})]) (f := { ks := [4] }) (ps := [bl (decide ((↑k : Int) < (↑l.length : Int))) = bl (true), decide ((0 : Int) ≤ (↑k : Int) ∧ (↑k : Int) < (↑l.length : Int)) = true, ((List.drop ((↑k : Int).toNat * (1 : Nat)) (List.flatMap eU l)) : List AV) = (eU (nth l k) ++ List.flatMap eU (List.drop (k + (1 : Nat)) l)), bl (v == nth l k) = bl (true), true = true]) (by kernel_rfl) ⟨(bdT (by omega)), (by exact decide_t (by omega)), (by exact flat_nth (sz := 1) (k := k) (fun _ => rfl) (by omega)), (beT (by omega)), rfl, trivial⟩ (by decide)
theorem iu_end (l : List Int) (v : Int)  : LoopT C0 iuB (iuS l v l.length) (.exit 0) (iuS l v l.length) := by
  exact LoopT.fin (hs := hint [((2,0), {val := some (bl (false))})]) (f := { ks := [0, 1, 7, 8] }) (ps := [bl (decide ((↑l.length : Int) < (↑l.length : Int))) = bl (false), true = true]) (by kernel_rfl) ⟨(bdF (by omega)), rfl, trivial⟩ (by decide)
theorem iu_ok (l : List Int) (v : Int) (hl : l.length ≤ 1000000)  : Pu 77 [slU l, u32 v] (i64 (idxI (idxD (isD v) l))) := by
  cases h : idxD (isD v) l with
  | some m =>
    obtain ⟨h1, h2, h3⟩ := idx_some h
    have L := LoopT.count (iuS l v) m (fun k hk => iu_step l v k (by omega) hl (h3 k hk)) (iu_hit l v m h1 hl h2) 0 (by omega)
    exact pure_of (hs := hint [((2,1000), {loop := some ({ ks := [0, 1, 7, 8] }, iuS l v (0 : Nat), Ex.ret, iuH l v m)})]) (ps := [iuS l v (0 : Nat) = iuS l v (0 : Nat), _, true = true]) (by kernel_rfl) ⟨rfl, L, rfl, trivial⟩
  | none =>
    have L := LoopT.count (iuS l v) l.length (fun k hk => iu_step l v k hk hl (idx_none h k hk)) (iu_end l v) 0 (by omega)
    exact pure_of (hs := hint [((2,1000), {loop := some ({ ks := [0, 1, 7, 8] }, iuS l v (0 : Nat), Ex.exit (0 : Nat), iuS l v l.length)})]) (ps := [iuS l v (0 : Nat) = iuS l v (0 : Nat), _, true = true]) (by kernel_rfl) ⟨rfl, L, rfl, trivial⟩
theorem in_ok (l : List Int) (v : Int) (hl : l.length ≤ 1000000) : Pu 60 [slU l, u32 v] (bl (idxD (isD v) l).isSome) := by
  have hx := iu_ok l v hl
  cases h : idxD (isD v) l with
  | none =>
    rw [h] at hx
    simp only [idxI] at hx
    exact pure_of (hs := hint [((1,2), {call := some ((i64 (-1 : Int)))})]) (ps := [_]) (by kernel_rfl) ⟨(hx), trivial⟩
  | some k =>
    rw [h] at hx
    simp only [idxI] at hx
    exact pure_cast (pure_of (hs := hint [((1,2), {call := some ((i64 (↑k : Int)))})]) (r := bl (decide ((↑k : Int) ≥ (0 : Int)))) (ps := [_]) (by kernel_rfl) ⟨(hx), trivial⟩) (by (simp; done))
def linS (l : List Int) (v : Int) (k : Nat) : St := ⟨mkT 18 [(0, slU l), (1, u32 v), (5, i64 k)], []⟩
def linH (l : List Int) (v : Int) (k : Nat) : St := ⟨mkT 18 [(4, bl true)], []⟩
def rinS (l : List Int) (v : Int) (k : Nat) : St := ⟨mkT 18 [(0, slU l), (1, u32 v), (5, i64 k)], []⟩
def rinH (l : List Int) (v : Int) (k : Nat) : St := ⟨mkT 18 [(4, bl true)], []⟩
def selD (a : Int) (x : Rec) : Bool := decide (x.sel = a)
theorem find_idx (a : Int) (l : List Rec) : findM Rec.sel l a = match idxD (selD a) l with
    | some k => some (nth l k)
    | none => none := by
  unfold findM
  induction l with
  | nil => rfl
  | cons x l ih =>
    rw [List.find?_cons, idxD]
    by_cases h : x.sel = a
    · simp [selD, h, nth]
    · simp only [selD, h, decide_false, Bool.false_eq_true, if_false]
      rw [ih]
      cases hx : idxD (selD a) l with
      | none => simp [selD, hx]
      | some k => simp [selD, hx, nth]
def rec0 (a : Int) : Rec := ⟨a, 0, 0, 0⟩
def rfS (t : Tab) (a : Int) (k : Nat) : St := ⟨mkT 28 [(1, u32 a), (2, .ptr 0 0), (4, .ptr 1 0), (5, i64 k)], [.arr 2 [slE recL t.c, slE pendL t.q] 0, .arr 4 (recL (rec0 0)) 0]⟩
def rfH (t : Tab) (a : Int) (k : Nat) : St := ⟨mkT 28 [(4, .ptr 0 0)], [.arr 4 (recL (nth t.c k)) 0]⟩
def rmS (t : Tab) (client req : Int) (k : Nat) : St := ⟨mkT 33 [(1, i64 client), (2, u32 req), (3, .ptr 0 0), (7, i64 k)], [.arr 2 [slE recL t.c, slE pendL t.q] 0]⟩
def rmH (t : Tab) (client req : Int) (k : Nat) : St := ⟨mkT 33 [(6, bl true)], []⟩
theorem may_ok (t : Tab) (client req : Int) (hl : t.q.length ≤ 1000000) : Pu 27 [tabA t, i64 client, u32 req] (bl (idxD (mayD client req) t.q).isSome) := by
  exact pure_of (hs := hint [((1,2000), { frz := [1, 2] }), ((1,3), {call := some ((bl (idxD (mayD client req) t.q).isSome))})]) (ps := [true = true, true = true, _]) (by kernel_rfl) ⟨rfl, rfl, (cfm_ok (client) (req) (t.q) (by assumption)), trivial⟩
end Go.Proofs.Ytdcoomeagbjhlaa.Cl
