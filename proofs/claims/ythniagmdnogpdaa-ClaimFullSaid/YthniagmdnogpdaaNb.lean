/- Searches: closures upon a row, windows among some, a selection among claims. By the prover of this seat. -/
import Derived.Test.YthniagmdnogpdaaNa
set_option linter.unusedVariables false
set_option linter.unusedSimpArgs false
set_option maxRecDepth 100000
set_option maxHeartbeats 4000000
namespace Go.Proofs.Ythniagmdnogpdaa
open Go.RowKit Go.Pm
def fn_m (client req : Int) : AV := .fn (.func 34) [] [.fptr [i64 client], .fptr [u32 req]]
def fn_a (client req sel : Int) : AV := .fn (.func 31) [] [.fptr [i64 client], .fptr [u32 req], .fptr [u32 sel]]
noncomputable def ixmB : Code := loopOf Try.prog 30 2
def ixmS (client req : Int) (l : List Pend) (k : Nat) : St := ⟨mkT 19 [(0, slE pendL l), (1, fn_m client req), (7, i64 l.length), (8, i64 k)], []⟩
def ixmH (client req : Int) (l : List Pend) (k : Nat) : St := ⟨mkT 19 [(4, i64 k)], []⟩
theorem ixm_step (client req : Int) (l : List Pend) (k : Nat) (hk : k < l.length) (hl : l.length ≤ 1000000)  (hp : ¬ mayD client req (nth l k) = true) : Tri C0 ixmB (ixmS client req l k) .normal (ixmS client req l (k + 1)) := by
  exact runF_ok (hs := hint [((2,0), {val := some (bl (true))}), ((4,3), {cells := some (pendL (nth l k) ++ List.flatMap pendL (List.drop (k + (1 : Nat)) l)), sym := true}), ((4,5), {val := some (bl (false)), call := some ((bl (mayD client req { a := { asker := (nth l k).a.asker, req := (nth l k).a.req, sel := (nth l k).a.sel, target := (nth l k).a.target, prop := (nth l k).a.prop, time := (nth l k).a.time : Asked }, owner := (nth l k).owner, win := (nth l k).win : Pend })))}), ((6,0), {val := some (i64 ((↑k : Int) + (1 : Int)))})]) (f := { ks := [0, 1, 7, 8] }) (ps := [bl (decide ((↑k : Int) < (↑l.length : Int))) = bl (true), decide ((0 : Int) ≤ (↑k : Int) ∧ (↑k : Int) < (↑l.length : Int)) = true, ((List.drop ((↑k : Int).toNat * (8 : Nat)) (List.flatMap pendL l)) : List AV) = (pendL (nth l k) ++ List.flatMap pendL (List.drop (k + (1 : Nat)) l)), _, bl (mayD client req { a := { asker := (nth l k).a.asker, req := (nth l k).a.req, sel := (nth l k).a.sel, target := (nth l k).a.target, prop := (nth l k).a.prop, time := (nth l k).a.time : Asked }, owner := (nth l k).owner, win := (nth l k).win : Pend }) = bl (false), i64 (IntKind.i64.wrap ((↑k : Int) + (1 : Int))) = i64 ((↑k : Int) + (1 : Int)), true = true]) (by kernel_rfl) ⟨(bdT (by omega)), (by exact decide_t (by omega)), (by exact flat_nth (sz := 8) (k := k) (fun _ => rfl) (by omega)), (may1_ok (client) (req) (nth l k)), (bvF (by assumption)), (intE (by exact wrap_i64 (by omega) (by omega))), rfl, trivial⟩
theorem ixm_hit (client req : Int) (l : List Pend) (k : Nat) (hk : k < l.length) (hl : l.length ≤ 1000000)  (hp : mayD client req (nth l k) = true) : LoopT C0 ixmB (ixmS client req l k) .ret (ixmH client req l k) := by
  exact LoopT.fin (hs := hint [((2,0), {val := some (bl (true))}), ((4,3), {cells := some (pendL (nth l k) ++ List.flatMap pendL (List.drop (k + (1 : Nat)) l)), sym := true}), ((4,5), {val := some (bl (true)), call := some ((bl (mayD client req { a := { asker := (nth l k).a.asker, req := (nth l k).a.req, sel := (nth l k).a.sel, target := (nth l k).a.target, prop := (nth l k).a.prop, time := (nth l k).a.time : Asked }, owner := (nth l k).owner, win := (nth l k).win : Pend })))})]) (f := { ks := [4] }) (ps := [bl (decide ((↑k : Int) < (↑l.length : Int))) = bl (true), decide ((0 : Int) ≤ (↑k : Int) ∧ (↑k : Int) < (↑l.length : Int)) = true, ((List.drop ((↑k : Int).toNat * (8 : Nat)) (List.flatMap pendL l)) : List AV) = (pendL (nth l k) ++ List.flatMap pendL (List.drop (k + (1 : Nat)) l)), _, bl (mayD client req { a := { asker := (nth l k).a.asker, req := (nth l k).a.req, sel := (nth l k).a.sel, target := (nth l k).a.target, prop := (nth l k).a.prop, time := (nth l k).a.time : Asked }, owner := (nth l k).owner, win := (nth l k).win : Pend }) = bl (true), true = true]) (by kernel_rfl) ⟨(bdT (by omega)), (by exact decide_t (by omega)), (by exact flat_nth (sz := 8) (k := k) (fun _ => rfl) (by omega)), (may1_ok (client) (req) (nth l k)), (bvT (by assumption)), rfl, trivial⟩ (by decide)
theorem ixm_end (client req : Int) (l : List Pend)  : LoopT C0 ixmB (ixmS client req l l.length) (.exit 0) (ixmS client req l l.length) := by
  exact LoopT.fin (hs := hint [((2,0), {val := some (bl (false))})]) (f := { ks := [0, 1, 7, 8] }) (ps := [bl (decide ((↑l.length : Int) < (↑l.length : Int))) = bl (false), true = true]) (by kernel_rfl) ⟨(bdF (by omega)), rfl, trivial⟩ (by decide)
theorem ixm_ok (client req : Int) (l : List Pend) (hl : l.length ≤ 1000000)  : Pu 30 [slE pendL l, fn_m client req] (i64 (idxI (idxD (mayD client req) l))) := by
  cases h : idxD (mayD client req) l with
  | some m =>
    obtain ⟨h1, h2, h3⟩ := idx_some h
    have L := LoopT.count (ixmS client req l) m (fun k hk => ixm_step client req l k (by omega) hl (h3 k hk)) (ixm_hit client req l m h1 hl h2) 0 (by omega)
    exact pure_of (hs := hint [((2,1000), {loop := some ({ ks := [0, 1, 7, 8] }, ixmS client req l (0 : Nat), Ex.ret, ixmH client req l m)})]) (ps := [ixmS client req l (0 : Nat) = ixmS client req l (0 : Nat), _, true = true]) (by kernel_rfl) ⟨rfl, L, rfl, trivial⟩
  | none =>
    have L := LoopT.count (ixmS client req l) l.length (fun k hk => ixm_step client req l k hk hl (idx_none h k hk)) (ixm_end client req l) 0 (by omega)
    exact pure_of (hs := hint [((2,1000), {loop := some ({ ks := [0, 1, 7, 8] }, ixmS client req l (0 : Nat), Ex.exit (0 : Nat), ixmS client req l l.length)})]) (ps := [ixmS client req l (0 : Nat) = ixmS client req l (0 : Nat), _, true = true]) (by kernel_rfl) ⟨rfl, L, rfl, trivial⟩
noncomputable def ixaB : Code := loopOf Try.prog 30 2
def ixaS (client req sel : Int) (l : List Pend) (k : Nat) : St := ⟨mkT 19 [(0, slE pendL l), (1, fn_a client req sel), (7, i64 l.length), (8, i64 k)], []⟩
def ixaH (client req sel : Int) (l : List Pend) (k : Nat) : St := ⟨mkT 19 [(4, i64 k)], []⟩
theorem ixa_step (client req sel : Int) (l : List Pend) (k : Nat) (hk : k < l.length) (hl : l.length ≤ 1000000)  (hp : ¬ ansD client req sel (nth l k) = true) : Tri C0 ixaB (ixaS client req sel l k) .normal (ixaS client req sel l (k + 1)) := by
  exact runF_ok (hs := hint [((2,0), {val := some (bl (true))}), ((4,3), {cells := some (pendL (nth l k) ++ List.flatMap pendL (List.drop (k + (1 : Nat)) l)), sym := true}), ((4,5), {val := some (bl (false)), call := some ((bl (ansD client req sel { a := { asker := (nth l k).a.asker, req := (nth l k).a.req, sel := (nth l k).a.sel, target := (nth l k).a.target, prop := (nth l k).a.prop, time := (nth l k).a.time : Asked }, owner := (nth l k).owner, win := (nth l k).win : Pend })))}), ((6,0), {val := some (i64 ((↑k : Int) + (1 : Int)))})]) (f := { ks := [0, 1, 7, 8] }) (ps := [bl (decide ((↑k : Int) < (↑l.length : Int))) = bl (true), decide ((0 : Int) ≤ (↑k : Int) ∧ (↑k : Int) < (↑l.length : Int)) = true, ((List.drop ((↑k : Int).toNat * (8 : Nat)) (List.flatMap pendL l)) : List AV) = (pendL (nth l k) ++ List.flatMap pendL (List.drop (k + (1 : Nat)) l)), _, bl (ansD client req sel { a := { asker := (nth l k).a.asker, req := (nth l k).a.req, sel := (nth l k).a.sel, target := (nth l k).a.target, prop := (nth l k).a.prop, time := (nth l k).a.time : Asked }, owner := (nth l k).owner, win := (nth l k).win : Pend }) = bl (false), i64 (IntKind.i64.wrap ((↑k : Int) + (1 : Int))) = i64 ((↑k : Int) + (1 : Int)), true = true]) (by kernel_rfl) ⟨(bdT (by omega)), (by exact decide_t (by omega)), (by exact flat_nth (sz := 8) (k := k) (fun _ => rfl) (by omega)), (ans1_ok (client) (req) (sel) (nth l k)), (bvF (by assumption)), (intE (by exact wrap_i64 (by omega) (by omega))), rfl, trivial⟩
theorem ixa_hit (client req sel : Int) (l : List Pend) (k : Nat) (hk : k < l.length) (hl : l.length ≤ 1000000)  (hp : ansD client req sel (nth l k) = true) : LoopT C0 ixaB (ixaS client req sel l k) .ret (ixaH client req sel l k) := by
  exact LoopT.fin (hs := hint [((2,0), {val := some (bl (true))}), ((4,3), {cells := some (pendL (nth l k) ++ List.flatMap pendL (List.drop (k + (1 : Nat)) l)), sym := true}), ((4,5), {val := some (bl (true)), call := some ((bl (ansD client req sel { a := { asker := (nth l k).a.asker, req := (nth l k).a.req, sel := (nth l k).a.sel, target := (nth l k).a.target, prop := (nth l k).a.prop, time := (nth l k).a.time : Asked }, owner := (nth l k).owner, win := (nth l k).win : Pend })))})]) (f := { ks := [4] }) (ps := [bl (decide ((↑k : Int) < (↑l.length : Int))) = bl (true), decide ((0 : Int) ≤ (↑k : Int) ∧ (↑k : Int) < (↑l.length : Int)) = true, ((List.drop ((↑k : Int).toNat * (8 : Nat)) (List.flatMap pendL l)) : List AV) = (pendL (nth l k) ++ List.flatMap pendL (List.drop (k + (1 : Nat)) l)), _, bl (ansD client req sel { a := { asker := (nth l k).a.asker, req := (nth l k).a.req, sel := (nth l k).a.sel, target := (nth l k).a.target, prop := (nth l k).a.prop, time := (nth l k).a.time : Asked }, owner := (nth l k).owner, win := (nth l k).win : Pend }) = bl (true), true = true]) (by kernel_rfl) ⟨(bdT (by omega)), (by exact decide_t (by omega)), (by exact flat_nth (sz := 8) (k := k) (fun _ => rfl) (by omega)), (ans1_ok (client) (req) (sel) (nth l k)), (bvT (by assumption)), rfl, trivial⟩ (by decide)
theorem ixa_end (client req sel : Int) (l : List Pend)  : LoopT C0 ixaB (ixaS client req sel l l.length) (.exit 0) (ixaS client req sel l l.length) := by
  exact LoopT.fin (hs := hint [((2,0), {val := some (bl (false))})]) (f := { ks := [0, 1, 7, 8] }) (ps := [bl (decide ((↑l.length : Int) < (↑l.length : Int))) = bl (false), true = true]) (by kernel_rfl) ⟨(bdF (by omega)), rfl, trivial⟩ (by decide)
theorem ixa_ok (client req sel : Int) (l : List Pend) (hl : l.length ≤ 1000000)  : Pu 30 [slE pendL l, fn_a client req sel] (i64 (idxI (idxD (ansD client req sel) l))) := by
  cases h : idxD (ansD client req sel) l with
  | some m =>
    obtain ⟨h1, h2, h3⟩ := idx_some h
    have L := LoopT.count (ixaS client req sel l) m (fun k hk => ixa_step client req sel l k (by omega) hl (h3 k hk)) (ixa_hit client req sel l m h1 hl h2) 0 (by omega)
    exact pure_of (hs := hint [((2,1000), {loop := some ({ ks := [0, 1, 7, 8] }, ixaS client req sel l (0 : Nat), Ex.ret, ixaH client req sel l m)})]) (ps := [ixaS client req sel l (0 : Nat) = ixaS client req sel l (0 : Nat), _, true = true]) (by kernel_rfl) ⟨rfl, L, rfl, trivial⟩
  | none =>
    have L := LoopT.count (ixaS client req sel l) l.length (fun k hk => ixa_step client req sel l k hk hl (idx_none h k hk)) (ixa_end client req sel l) 0 (by omega)
    exact pure_of (hs := hint [((2,1000), {loop := some ({ ks := [0, 1, 7, 8] }, ixaS client req sel l (0 : Nat), Ex.exit (0 : Nat), ixaS client req sel l l.length)})]) (ps := [ixaS client req sel l (0 : Nat) = ixaS client req sel l (0 : Nat), _, true = true]) (by kernel_rfl) ⟨rfl, L, rfl, trivial⟩
theorem cfm_ok (client req : Int) (l : List Pend) (hl : l.length ≤ 1000000) : Pu 33 [slE pendL l, fn_m client req] (bl (idxD (mayD client req) l).isSome) := by
  have hx := ixm_ok client req l hl
  cases h : idxD (mayD client req) l with
  | none =>
    rw [h] at hx
    simp only [idxI] at hx
    exact pure_of (hs := hint [((1,2), {call := some ((i64 (-1 : Int)))})]) (ps := [_]) (by kernel_rfl) ⟨(hx), trivial⟩
  | some k =>
    rw [h] at hx
    simp only [idxI] at hx
    exact pure_cast (pure_of (hs := hint [((1,2), {call := some ((i64 (↑k : Int)))})]) (r := bl (decide ((↑k : Int) ≥ (0 : Int)))) (ps := [_]) (by kernel_rfl) ⟨(hx), trivial⟩) (by (simp; done))
def isD (v x : Int) : Bool := decide (x = v)
def inD (l : List Int) (v : Int) : Bool := (idxD (isD v) l).isSome
noncomputable def iuB : Code := loopOf Try.prog 41 2
def iuS (l : List Int) (v : Int) (k : Nat) : St := ⟨mkT 19 [(0, slU l), (1, u32 v), (7, i64 l.length), (8, i64 k)], []⟩
def iuH (l : List Int) (v : Int) (k : Nat) : St := ⟨mkT 19 [(4, i64 k)], []⟩
theorem iu_step (l : List Int) (v : Int) (k : Nat) (hk : k < l.length) (hl : l.length ≤ 1000000)  (hp : ¬ isD v (nth l k) = true) : Tri C0 iuB (iuS l v k) .normal (iuS l v (k + 1)) := by
  simp only [isD, decide_eq_true_eq] at hp
  exact runF_ok (hs := hint [((2,0), {val := some (bl (true))}), ((4,3), {cells := some (eU (nth l k) ++ List.flatMap eU (List.drop (k + (1 : Nat)) l)), sym := true}), ((4,5), {val := some (bl (false))}), ((6,0), {val := some (i64 ((↑k : Int) + (1 : Int)))})]) (f := { ks := [0, 1, 7, 8] }) (ps := [bl (decide ((↑k : Int) < (↑l.length : Int))) = bl (true), decide ((0 : Int) ≤ (↑k : Int) ∧ (↑k : Int) < (↑l.length : Int)) = true, ((List.drop ((↑k : Int).toNat * (1 : Nat)) (List.flatMap eU l)) : List AV) = (eU (nth l k) ++ List.flatMap eU (List.drop (k + (1 : Nat)) l)), bl (v == nth l k) = bl (false), i64 (IntKind.i64.wrap ((↑k : Int) + (1 : Int))) = i64 ((↑k : Int) + (1 : Int)), true = true]) (by kernel_rfl) ⟨(bdT (by omega)), (by exact decide_t (by omega)), (by exact flat_nth (sz := 1) (k := k) (fun _ => rfl) (by omega)), (beF (by omega)), (intE (by exact wrap_i64 (by omega) (by omega))), rfl, trivial⟩
theorem iu_hit (l : List Int) (v : Int) (k : Nat) (hk : k < l.length) (hl : l.length ≤ 1000000)  (hp : isD v (nth l k) = true) : LoopT C0 iuB (iuS l v k) .ret (iuH l v k) := by
  simp only [isD, decide_eq_true_eq] at hp
  exact LoopT.fin (hs := hint [((2,0), {val := some (bl (true))}), ((4,3), {cells := some (eU (nth l k) ++ List.flatMap eU (List.drop (k + (1 : Nat)) l)), sym := true}), ((4,5), {val := some (bl (true))})]) (f := { ks := [4] }) (ps := [bl (decide ((↑k : Int) < (↑l.length : Int))) = bl (true), decide ((0 : Int) ≤ (↑k : Int) ∧ (↑k : Int) < (↑l.length : Int)) = true, ((List.drop ((↑k : Int).toNat * (1 : Nat)) (List.flatMap eU l)) : List AV) = (eU (nth l k) ++ List.flatMap eU (List.drop (k + (1 : Nat)) l)), bl (v == nth l k) = bl (true), true = true]) (by kernel_rfl) ⟨(bdT (by omega)), (by exact decide_t (by omega)), (by exact flat_nth (sz := 1) (k := k) (fun _ => rfl) (by omega)), (beT (by omega)), rfl, trivial⟩ (by decide)
theorem iu_end (l : List Int) (v : Int)  : LoopT C0 iuB (iuS l v l.length) (.exit 0) (iuS l v l.length) := by
  exact LoopT.fin (hs := hint [((2,0), {val := some (bl (false))})]) (f := { ks := [0, 1, 7, 8] }) (ps := [bl (decide ((↑l.length : Int) < (↑l.length : Int))) = bl (false), true = true]) (by kernel_rfl) ⟨(bdF (by omega)), rfl, trivial⟩ (by decide)
theorem iu_ok (l : List Int) (v : Int) (hl : l.length ≤ 1000000)  : Pu 41 [slU l, u32 v] (i64 (idxI (idxD (isD v) l))) := by
  cases h : idxD (isD v) l with
  | some m =>
    obtain ⟨h1, h2, h3⟩ := idx_some h
    have L := LoopT.count (iuS l v) m (fun k hk => iu_step l v k (by omega) hl (h3 k hk)) (iu_hit l v m h1 hl h2) 0 (by omega)
    exact pure_of (hs := hint [((2,1000), {loop := some ({ ks := [0, 1, 7, 8] }, iuS l v (0 : Nat), Ex.ret, iuH l v m)})]) (ps := [iuS l v (0 : Nat) = iuS l v (0 : Nat), _, true = true]) (by kernel_rfl) ⟨rfl, L, rfl, trivial⟩
  | none =>
    have L := LoopT.count (iuS l v) l.length (fun k hk => iu_step l v k hk hl (idx_none h k hk)) (iu_end l v) 0 (by omega)
    exact pure_of (hs := hint [((2,1000), {loop := some ({ ks := [0, 1, 7, 8] }, iuS l v (0 : Nat), Ex.exit (0 : Nat), iuS l v l.length)})]) (ps := [iuS l v (0 : Nat) = iuS l v (0 : Nat), _, true = true]) (by kernel_rfl) ⟨rfl, L, rfl, trivial⟩
theorem in_ok (l : List Int) (v : Int) (hl : l.length ≤ 1000000) : Pu 32 [slU l, u32 v] (bl (idxD (isD v) l).isSome) := by
  have hx := iu_ok l v hl
  cases h : idxD (isD v) l with
  | none =>
    rw [h] at hx
    simp only [idxI] at hx
    exact pure_of (hs := hint [((1,2), {call := some ((i64 (-1 : Int)))})]) (ps := [_]) (by kernel_rfl) ⟨(hx), trivial⟩
  | some k =>
    rw [h] at hx
    simp only [idxI] at hx
    exact pure_cast (pure_of (hs := hint [((1,2), {call := some ((i64 (↑k : Int)))})]) (r := bl (decide ((↑k : Int) ≥ (0 : Int)))) (ps := [_]) (by kernel_rfl) ⟨(hx), trivial⟩) (by (simp; done))
noncomputable def linB : Code := loopOf Try.prog 18 2
def linS (l : List Int) (v : Int) (k : Nat) : St := ⟨mkT 18 [(0, slU l), (1, u32 v), (5, i64 k)], []⟩
def linH (l : List Int) (v : Int) (k : Nat) : St := ⟨mkT 18 [(4, bl true)], []⟩
theorem lin_step (l : List Int) (v : Int) (k : Nat) (hk : k < l.length) (hl : l.length ≤ 1000000)  (hp : ¬ isD v (nth l k) = true) : Tri C0 linB (linS l v k) .normal (linS l v (k + 1)) := by
  simp only [isD, decide_eq_true_eq] at hp
  exact runF_ok (hs := hint [((2,3), {val := some (bl (true))}), ((4,2), {cells := some (eU (nth l k) ++ List.flatMap eU (List.drop (k + (1 : Nat)) l)), sym := true}), ((4,5), {val := some (bl (false))}), ((3,1), {val := some (i64 ((↑k : Int) + (1 : Int)))})]) (f := { ks := [0, 1, 5] }) (ps := [bl (decide ((↑k : Int) < (↑l.length : Int))) = bl (true), decide ((0 : Int) ≤ (↑k : Int) ∧ (↑k : Int) < (↑l.length : Int)) = true, ((List.drop ((↑k : Int).toNat * (1 : Nat)) (List.flatMap eU l)) : List AV) = (eU (nth l k) ++ List.flatMap eU (List.drop (k + (1 : Nat)) l)), bl (nth l k == v) = bl (false), i64 (IntKind.i64.wrap ((↑k : Int) + (1 : Int))) = i64 ((↑k : Int) + (1 : Int)), true = true]) (by kernel_rfl) ⟨(bdT (by omega)), (by exact decide_t (by omega)), (by exact flat_nth (sz := 1) (k := k) (fun _ => rfl) (by omega)), (beF (by assumption)), (intE (by exact wrap_i64 (by omega) (by omega))), rfl, trivial⟩
theorem lin_hit (l : List Int) (v : Int) (k : Nat) (hk : k < l.length) (hl : l.length ≤ 1000000)  (hp : isD v (nth l k) = true) : LoopT C0 linB (linS l v k) .ret (linH l v k) := by
  simp only [isD, decide_eq_true_eq] at hp
  exact LoopT.fin (hs := hint [((2,3), {val := some (bl (true))}), ((4,2), {cells := some (eU (nth l k) ++ List.flatMap eU (List.drop (k + (1 : Nat)) l)), sym := true}), ((4,5), {val := some (bl (true))})]) (f := { ks := [4] }) (ps := [bl (decide ((↑k : Int) < (↑l.length : Int))) = bl (true), decide ((0 : Int) ≤ (↑k : Int) ∧ (↑k : Int) < (↑l.length : Int)) = true, ((List.drop ((↑k : Int).toNat * (1 : Nat)) (List.flatMap eU l)) : List AV) = (eU (nth l k) ++ List.flatMap eU (List.drop (k + (1 : Nat)) l)), bl (nth l k == v) = bl (true), true = true]) (by kernel_rfl) ⟨(bdT (by omega)), (by exact decide_t (by omega)), (by exact flat_nth (sz := 1) (k := k) (fun _ => rfl) (by omega)), (beT (by assumption)), rfl, trivial⟩ (by decide)
theorem lin_end (l : List Int) (v : Int)  : LoopT C0 linB (linS l v l.length) (.exit 0) (linS l v l.length) := by
  exact LoopT.fin (hs := hint [((2,3), {val := some (bl (false))})]) (f := { ks := [0, 1, 5] }) (ps := [bl (decide ((↑l.length : Int) < (↑l.length : Int))) = bl (false), true = true]) (by kernel_rfl) ⟨(bdF (by omega)), rfl, trivial⟩ (by decide)
theorem lin_ok (l : List Int) (v : Int) (hl : l.length ≤ 1000000)  : Pu 18 [slU l, u32 v] (bl (idxD (isD v) l).isSome) := by
  cases h : idxD (isD v) l with
  | some m =>
    obtain ⟨h1, h2, h3⟩ := idx_some h
    have L := LoopT.count (linS l v) m (fun k hk => lin_step l v k (by omega) hl (h3 k hk)) (lin_hit l v m h1 hl h2) 0 (by omega)
    exact pure_of (hs := hint [((2,1000), {loop := some ({ ks := [0, 1, 5] }, linS l v (0 : Nat), Ex.ret, linH l v m)})]) (ps := [linS l v (0 : Nat) = linS l v (0 : Nat), _, true = true]) (by kernel_rfl) ⟨rfl, L, rfl, trivial⟩
  | none =>
    have L := LoopT.count (linS l v) l.length (fun k hk => lin_step l v k hk hl (idx_none h k hk)) (lin_end l v) 0 (by omega)
    exact pure_of (hs := hint [((2,1000), {loop := some ({ ks := [0, 1, 5] }, linS l v (0 : Nat), Ex.exit (0 : Nat), linS l v l.length)})]) (ps := [linS l v (0 : Nat) = linS l v (0 : Nat), _, true = true]) (by kernel_rfl) ⟨rfl, L, rfl, trivial⟩
noncomputable def rinB : Code := loopOf Try.prog 40 2
def rinS (l : List Int) (v : Int) (k : Nat) : St := ⟨mkT 18 [(0, slU l), (1, u32 v), (5, i64 k)], []⟩
def rinH (l : List Int) (v : Int) (k : Nat) : St := ⟨mkT 18 [(4, bl true)], []⟩
theorem rin_step (l : List Int) (v : Int) (k : Nat) (hk : k < l.length) (hl : l.length ≤ 1000000)  (hp : ¬ isD v (nth l k) = true) : Tri C0 rinB (rinS l v k) .normal (rinS l v (k + 1)) := by
  simp only [isD, decide_eq_true_eq] at hp
  exact runF_ok (hs := hint [((2,3), {val := some (bl (true))}), ((4,2), {cells := some (eU (nth l k) ++ List.flatMap eU (List.drop (k + (1 : Nat)) l)), sym := true}), ((4,5), {val := some (bl (false))}), ((3,1), {val := some (i64 ((↑k : Int) + (1 : Int)))})]) (f := { ks := [0, 1, 5] }) (ps := [bl (decide ((↑k : Int) < (↑l.length : Int))) = bl (true), decide ((0 : Int) ≤ (↑k : Int) ∧ (↑k : Int) < (↑l.length : Int)) = true, ((List.drop ((↑k : Int).toNat * (1 : Nat)) (List.flatMap eU l)) : List AV) = (eU (nth l k) ++ List.flatMap eU (List.drop (k + (1 : Nat)) l)), bl (nth l k == v) = bl (false), i64 (IntKind.i64.wrap ((↑k : Int) + (1 : Int))) = i64 ((↑k : Int) + (1 : Int)), true = true]) (by kernel_rfl) ⟨(bdT (by omega)), (by exact decide_t (by omega)), (by exact flat_nth (sz := 1) (k := k) (fun _ => rfl) (by omega)), (beF (by assumption)), (intE (by exact wrap_i64 (by omega) (by omega))), rfl, trivial⟩
theorem rin_hit (l : List Int) (v : Int) (k : Nat) (hk : k < l.length) (hl : l.length ≤ 1000000)  (hp : isD v (nth l k) = true) : LoopT C0 rinB (rinS l v k) .ret (rinH l v k) := by
  simp only [isD, decide_eq_true_eq] at hp
  exact LoopT.fin (hs := hint [((2,3), {val := some (bl (true))}), ((4,2), {cells := some (eU (nth l k) ++ List.flatMap eU (List.drop (k + (1 : Nat)) l)), sym := true}), ((4,5), {val := some (bl (true))})]) (f := { ks := [4] }) (ps := [bl (decide ((↑k : Int) < (↑l.length : Int))) = bl (true), decide ((0 : Int) ≤ (↑k : Int) ∧ (↑k : Int) < (↑l.length : Int)) = true, ((List.drop ((↑k : Int).toNat * (1 : Nat)) (List.flatMap eU l)) : List AV) = (eU (nth l k) ++ List.flatMap eU (List.drop (k + (1 : Nat)) l)), bl (nth l k == v) = bl (true), true = true]) (by kernel_rfl) ⟨(bdT (by omega)), (by exact decide_t (by omega)), (by exact flat_nth (sz := 1) (k := k) (fun _ => rfl) (by omega)), (beT (by assumption)), rfl, trivial⟩ (by decide)
theorem rin_end (l : List Int) (v : Int)  : LoopT C0 rinB (rinS l v l.length) (.exit 0) (rinS l v l.length) := by
  exact LoopT.fin (hs := hint [((2,3), {val := some (bl (false))})]) (f := { ks := [0, 1, 5] }) (ps := [bl (decide ((↑l.length : Int) < (↑l.length : Int))) = bl (false), true = true]) (by kernel_rfl) ⟨(bdF (by omega)), rfl, trivial⟩ (by decide)
theorem rin_ok (l : List Int) (v : Int) (hl : l.length ≤ 1000000)  : Pu 40 [slU l, u32 v] (bl (idxD (isD v) l).isSome) := by
  cases h : idxD (isD v) l with
  | some m =>
    obtain ⟨h1, h2, h3⟩ := idx_some h
    have L := LoopT.count (rinS l v) m (fun k hk => rin_step l v k (by omega) hl (h3 k hk)) (rin_hit l v m h1 hl h2) 0 (by omega)
    exact pure_of (hs := hint [((2,1000), {loop := some ({ ks := [0, 1, 5] }, rinS l v (0 : Nat), Ex.ret, rinH l v m)})]) (ps := [rinS l v (0 : Nat) = rinS l v (0 : Nat), _, true = true]) (by kernel_rfl) ⟨rfl, L, rfl, trivial⟩
  | none =>
    have L := LoopT.count (rinS l v) l.length (fun k hk => rin_step l v k hk hl (idx_none h k hk)) (rin_end l v) 0 (by omega)
    exact pure_of (hs := hint [((2,1000), {loop := some ({ ks := [0, 1, 5] }, rinS l v (0 : Nat), Ex.exit (0 : Nat), rinS l v l.length)})]) (ps := [rinS l v (0 : Nat) = rinS l v (0 : Nat), _, true = true]) (by kernel_rfl) ⟨rfl, L, rfl, trivial⟩
def selD (a : Int) (x : Rec) : Bool := decide (x.sel = a)
theorem find_idx (a : Int) (l : List Rec) : findM Rec.sel l a = match idxD (selD a) l with
    | some k => some (nth l k)
    | none => none := by
  unfold findM
  induction l with
  | nil => rfl
  | cons x l ih =>
    rw [List.find?_cons, idxD]
    by_cases h : x.sel = a
    · simp [selD, h, nth]
    · simp only [selD, h, decide_false, Bool.false_eq_true, if_false]
      rw [ih]
      cases hx : idxD (selD a) l with
      | none => simp [selD, hx]
      | some k => simp [selD, hx, nth]
def rec0 (a : Int) : Rec := ⟨a, 0, 0, 0⟩
noncomputable def rfB : Code := loopOf Try.prog 36 2
def rfS (t : Tab) (a : Int) (k : Nat) : St := ⟨mkT 28 [(1, u32 a), (2, .ptr 0 0), (4, .ptr 1 0), (5, i64 k)], [.arr 2 [slE recL t.c, slE pendL t.q] 0, .arr 4 (recL (rec0 0)) 0]⟩
def rfH (t : Tab) (a : Int) (k : Nat) : St := ⟨mkT 28 [(4, .ptr 0 0)], [.arr 4 (recL (nth t.c k)) 0]⟩
theorem rf_step (t : Tab) (a : Int) (k : Nat) (hk : k < t.c.length) (hl : t.c.length ≤ 1000000)  (hp : ¬ selD a (nth t.c k) = true) : Tri C0 rfB (rfS t a k) .normal (rfS t a (k + 1)) := by
  simp only [selD, decide_eq_true_eq] at hp
  exact runF_ok (hs := hint [((2,4), {val := some (bl (true))}), ((4,3), {cells := some (recL (nth t.c k) ++ List.flatMap recL (List.drop (k + (1 : Nat)) t.c)), sym := true}), ((4,7), {val := some (bl (false))}), ((3,1), {val := some (i64 ((↑k : Int) + (1 : Int)))})]) (f := { ks := [1, 2, 4, 5], l := [0, 1] }) (ps := [bl (decide ((↑k : Int) < (↑t.c.length : Int))) = bl (true), decide ((0 : Int) ≤ (↑k : Int) ∧ (↑k : Int) < (↑t.c.length : Int)) = true, ((List.drop ((↑k : Int).toNat * (4 : Nat)) (List.flatMap recL t.c)) : List AV) = (recL (nth t.c k) ++ List.flatMap recL (List.drop (k + (1 : Nat)) t.c)), bl ((nth t.c k).sel == a) = bl (false), i64 (IntKind.i64.wrap ((↑k : Int) + (1 : Int))) = i64 ((↑k : Int) + (1 : Int)), true = true, true = true, true = true]) (by kernel_rfl) ⟨(bdT (by omega)), (by exact decide_t (by omega)), (by exact flat_nth (sz := 4) (k := k) (fun _ => rfl) (by omega)), (beF (by assumption)), (intE (by exact wrap_i64 (by omega) (by omega))), rfl, rfl, rfl, trivial⟩
theorem rf_hit (t : Tab) (a : Int) (k : Nat) (hk : k < t.c.length) (hl : t.c.length ≤ 1000000)  (hp : selD a (nth t.c k) = true) : LoopT C0 rfB (rfS t a k) .ret (rfH t a k) := by
  simp only [selD, decide_eq_true_eq] at hp
  exact LoopT.fin (hs := hint [((2,4), {val := some (bl (true))}), ((4,3), {cells := some (recL (nth t.c k) ++ List.flatMap recL (List.drop (k + (1 : Nat)) t.c)), sym := true}), ((4,7), {val := some (bl (true))}), ((5,3), {cells := some (recL (nth t.c k) ++ List.flatMap recL (List.drop (k + (1 : Nat)) t.c)), sym := true})]) (f := { ks := [4], l := [1] }) (ps := [bl (decide ((↑k : Int) < (↑t.c.length : Int))) = bl (true), decide ((0 : Int) ≤ (↑k : Int) ∧ (↑k : Int) < (↑t.c.length : Int)) = true, ((List.drop ((↑k : Int).toNat * (4 : Nat)) (List.flatMap recL t.c)) : List AV) = (recL (nth t.c k) ++ List.flatMap recL (List.drop (k + (1 : Nat)) t.c)), bl ((nth t.c k).sel == a) = bl (true), decide ((0 : Int) ≤ (↑k : Int) ∧ (↑k : Int) < (↑t.c.length : Int)) = true, ((List.drop ((↑k : Int).toNat * (4 : Nat)) (List.flatMap recL t.c)) : List AV) = (recL (nth t.c k) ++ List.flatMap recL (List.drop (k + (1 : Nat)) t.c)), true = true, true = true]) (by kernel_rfl) ⟨(bdT (by omega)), (by exact decide_t (by omega)), (by exact flat_nth (sz := 4) (k := k) (fun _ => rfl) (by omega)), (beT (by assumption)), (by exact decide_t (by omega)), (by exact flat_nth (sz := 4) (k := k) (fun _ => rfl) (by omega)), rfl, rfl, trivial⟩ (by decide)
theorem rf_end (t : Tab) (a : Int)  : LoopT C0 rfB (rfS t a t.c.length) (.exit 0) (rfS t a t.c.length) := by
  exact LoopT.fin (hs := hint [((2,4), {val := some (bl (false))})]) (f := { ks := [1, 2, 4, 5], l := [0, 1] }) (ps := [bl (decide ((↑t.c.length : Int) < (↑t.c.length : Int))) = bl (false), true = true, true = true, true = true]) (by kernel_rfl) ⟨(bdF (by omega)), rfl, rfl, rfl, trivial⟩ (by decide)
theorem rfind_ok (t : Tab) (a : Int) (hl : t.c.length ≤ 1000000) : Pu 36 [tabR t, u32 a] (A (recL (findT t a))) := by
  unfold findT
  rw [find_idx]
  cases h : idxD (selD a) t.c with
  | some m =>
    obtain ⟨h1, h2, h3⟩ := idx_some h
    have L := LoopT.count (rfS t a) m (fun k hk => rf_step t a k (by omega) hl (h3 k hk)) (rf_hit t a m h1 hl h2) 0 (by omega)
    exact pure_of (hs := hint [((2,1000), {loop := some ({ ks := [1, 2, 4, 5], l := [0, 1] }, rfS t a (0 : Nat), Ex.ret, rfH t a m)})]) (ps := [rfS t a (0 : Nat) = rfS t a (0 : Nat), _, true = true, true = true, true = true]) (by kernel_rfl) ⟨rfl, L, rfl, rfl, rfl, trivial⟩
  | none =>
    have L := LoopT.count (rfS t a) t.c.length (fun k hk => rf_step t a k hk hl (idx_none h k hk)) (rf_end t a) 0 (by omega)
    exact pure_of (hs := hint [((2,1000), {loop := some ({ ks := [1, 2, 4, 5], l := [0, 1] }, rfS t a (0 : Nat), Ex.exit (0 : Nat), rfS t a t.c.length)})]) (ps := [rfS t a (0 : Nat) = rfS t a (0 : Nat), _, true = true, true = true, true = true]) (by kernel_rfl) ⟨rfl, L, rfl, rfl, rfl, trivial⟩
theorem rowner_ok (t : Tab) (a : Int) (hl : t.c.length ≤ 1000000) : Pu 27 [tabR t, u32 a] (.tup [A (recL (findT t a)), bl (findT t a).has]) := by
  exact pure_of (hs := hint [((1,2), {call := some ((A (recL (findT { c := t.c, q := t.q : Tab } a))))})]) (ps := [_]) (by kernel_rfl) ⟨(rfind_ok (t) (a) (by assumption)), trivial⟩
noncomputable def rmB : Code := loopOf Try.prog 28 2
def rmS (t : Tab) (client req : Int) (k : Nat) : St := ⟨mkT 33 [(1, i64 client), (2, u32 req), (3, .ptr 0 0), (7, i64 k)], [.arr 2 [slE recL t.c, slE pendL t.q] 0]⟩
def rmH (t : Tab) (client req : Int) (k : Nat) : St := ⟨mkT 33 [(6, bl true)], []⟩
theorem rm_step (t : Tab) (client req : Int) (k : Nat) (hk : k < t.q.length) (hl : t.q.length ≤ 1000000)  (hp : ¬ mayD client req (nth t.q k) = true) : Tri C0 rmB (rmS t client req k) .normal (rmS t client req (k + 1)) := by
  simp only [mayD, decide_eq_true_eq] at hp
  by_cases h1 : (nth t.q k).owner = client
  · exact runF_ok (hs := hint [((2,4), {val := some (bl (true))}), ((4,3), {cells := some (pendL (nth t.q k) ++ List.flatMap pendL (List.drop (k + (1 : Nat)) t.q)), sym := true}), ((4,8), {val := some (bl (true))}), ((4,12), {cells := some (pendL (nth t.q k) ++ List.flatMap pendL (List.drop (k + (1 : Nat)) t.q)), sym := true}), ((4,17), {val := some (bl (false))}), ((3,1), {val := some (i64 ((↑k : Int) + (1 : Int)))})]) (f := { ks := [1, 2, 3, 7], l := [0] }) (ps := [bl (decide ((↑k : Int) < (↑t.q.length : Int))) = bl (true), decide ((0 : Int) ≤ (↑k : Int) ∧ (↑k : Int) < (↑t.q.length : Int)) = true, ((List.drop ((↑k : Int).toNat * (8 : Nat)) (List.flatMap pendL t.q)) : List AV) = (pendL (nth t.q k) ++ List.flatMap pendL (List.drop (k + (1 : Nat)) t.q)), bl ((nth t.q k).owner == client) = bl (true), decide ((0 : Int) ≤ (↑k : Int) ∧ (↑k : Int) < (↑t.q.length : Int)) = true, ((List.drop ((↑k : Int).toNat * (8 : Nat)) (List.flatMap pendL t.q)) : List AV) = (pendL (nth t.q k) ++ List.flatMap pendL (List.drop (k + (1 : Nat)) t.q)), bl ((nth t.q k).a.req == req) = bl (false), i64 (IntKind.i64.wrap ((↑k : Int) + (1 : Int))) = i64 ((↑k : Int) + (1 : Int)), true = true, true = true]) (by kernel_rfl) ⟨(bdT (by omega)), (by exact decide_t (by omega)), (by exact flat_nth (sz := 8) (k := k) (fun _ => rfl) (by omega)), (beT h1), (by exact decide_t (by omega)), (by exact flat_nth (sz := 8) (k := k) (fun _ => rfl) (by omega)), (beF (by omega)), (intE (by exact wrap_i64 (by omega) (by omega))), rfl, rfl, trivial⟩
  · exact runF_ok (hs := hint [((2,4), {val := some (bl (true))}), ((4,3), {cells := some (pendL (nth t.q k) ++ List.flatMap pendL (List.drop (k + (1 : Nat)) t.q)), sym := true}), ((4,8), {val := some (bl (false))}), ((3,1), {val := some (i64 ((↑k : Int) + (1 : Int)))})]) (f := { ks := [1, 2, 3, 7], l := [0] }) (ps := [bl (decide ((↑k : Int) < (↑t.q.length : Int))) = bl (true), decide ((0 : Int) ≤ (↑k : Int) ∧ (↑k : Int) < (↑t.q.length : Int)) = true, ((List.drop ((↑k : Int).toNat * (8 : Nat)) (List.flatMap pendL t.q)) : List AV) = (pendL (nth t.q k) ++ List.flatMap pendL (List.drop (k + (1 : Nat)) t.q)), bl ((nth t.q k).owner == client) = bl (false), i64 (IntKind.i64.wrap ((↑k : Int) + (1 : Int))) = i64 ((↑k : Int) + (1 : Int)), true = true, true = true]) (by kernel_rfl) ⟨(bdT (by omega)), (by exact decide_t (by omega)), (by exact flat_nth (sz := 8) (k := k) (fun _ => rfl) (by omega)), (beF h1), (intE (by exact wrap_i64 (by omega) (by omega))), rfl, rfl, trivial⟩
theorem rm_hit (t : Tab) (client req : Int) (k : Nat) (hk : k < t.q.length) (hl : t.q.length ≤ 1000000)  (hp : mayD client req (nth t.q k) = true) : LoopT C0 rmB (rmS t client req k) .ret (rmH t client req k) := by
  simp only [mayD, decide_eq_true_eq] at hp
  exact LoopT.fin (hs := hint [((2,4), {val := some (bl (true))}), ((4,3), {cells := some (pendL (nth t.q k) ++ List.flatMap pendL (List.drop (k + (1 : Nat)) t.q)), sym := true}), ((4,8), {val := some (bl (true))}), ((4,12), {cells := some (pendL (nth t.q k) ++ List.flatMap pendL (List.drop (k + (1 : Nat)) t.q)), sym := true}), ((4,17), {val := some (bl (true))})]) (f := { ks := [6] }) (ps := [bl (decide ((↑k : Int) < (↑t.q.length : Int))) = bl (true), decide ((0 : Int) ≤ (↑k : Int) ∧ (↑k : Int) < (↑t.q.length : Int)) = true, ((List.drop ((↑k : Int).toNat * (8 : Nat)) (List.flatMap pendL t.q)) : List AV) = (pendL (nth t.q k) ++ List.flatMap pendL (List.drop (k + (1 : Nat)) t.q)), bl ((nth t.q k).owner == client) = bl (true), decide ((0 : Int) ≤ (↑k : Int) ∧ (↑k : Int) < (↑t.q.length : Int)) = true, ((List.drop ((↑k : Int).toNat * (8 : Nat)) (List.flatMap pendL t.q)) : List AV) = (pendL (nth t.q k) ++ List.flatMap pendL (List.drop (k + (1 : Nat)) t.q)), bl ((nth t.q k).a.req == req) = bl (true), true = true]) (by kernel_rfl) ⟨(bdT (by omega)), (by exact decide_t (by omega)), (by exact flat_nth (sz := 8) (k := k) (fun _ => rfl) (by omega)), (beT (by omega)), (by exact decide_t (by omega)), (by exact flat_nth (sz := 8) (k := k) (fun _ => rfl) (by omega)), (beT (by omega)), rfl, trivial⟩ (by decide)
theorem rm_end (t : Tab) (client req : Int)  : LoopT C0 rmB (rmS t client req t.q.length) (.exit 0) (rmS t client req t.q.length) := by
  exact LoopT.fin (hs := hint [((2,4), {val := some (bl (false))})]) (f := { ks := [1, 2, 3, 7], l := [0] }) (ps := [bl (decide ((↑t.q.length : Int) < (↑t.q.length : Int))) = bl (false), true = true, true = true]) (by kernel_rfl) ⟨(bdF (by omega)), rfl, rfl, trivial⟩ (by decide)
theorem rm_ok (t : Tab) (client req : Int) (hl : t.q.length ≤ 1000000)  : Pu 28 [tabR t, i64 client, u32 req] (bl (idxD (mayD client req) t.q).isSome) := by
  cases h : idxD (mayD client req) t.q with
  | some m =>
    obtain ⟨h1, h2, h3⟩ := idx_some h
    have L := LoopT.count (rmS t client req) m (fun k hk => rm_step t client req k (by omega) hl (h3 k hk)) (rm_hit t client req m h1 hl h2) 0 (by omega)
    exact pure_of (hs := hint [((2,1000), {loop := some ({ ks := [1, 2, 3, 7], l := [0] }, rmS t client req (0 : Nat), Ex.ret, rmH t client req m)})]) (ps := [rmS t client req (0 : Nat) = rmS t client req (0 : Nat), _, true = true, true = true]) (by kernel_rfl) ⟨rfl, L, rfl, rfl, trivial⟩
  | none =>
    have L := LoopT.count (rmS t client req) t.q.length (fun k hk => rm_step t client req k hk hl (idx_none h k hk)) (rm_end t client req) 0 (by omega)
    exact pure_of (hs := hint [((2,1000), {loop := some ({ ks := [1, 2, 3, 7], l := [0] }, rmS t client req (0 : Nat), Ex.exit (0 : Nat), rmS t client req t.q.length)})]) (ps := [rmS t client req (0 : Nat) = rmS t client req (0 : Nat), _, true = true, true = true]) (by kernel_rfl) ⟨rfl, L, rfl, rfl, trivial⟩
theorem may_ok (t : Tab) (client req : Int) (hl : t.q.length ≤ 1000000) : Pu 19 [tabA t, i64 client, u32 req] (bl (idxD (mayD client req) t.q).isSome) := by
  exact pure_of (hs := hint [((1,2000), { frz := [1, 2] }), ((1,3), {call := some ((bl (idxD (mayD client req) t.q).isSome))})]) (ps := [true = true, true = true, _]) (by kernel_rfl) ⟨rfl, rfl, (cfm_ok (client) (req) (t.q) (by assumption)), trivial⟩
end Go.Proofs.Ythniagmdnogpdaa
