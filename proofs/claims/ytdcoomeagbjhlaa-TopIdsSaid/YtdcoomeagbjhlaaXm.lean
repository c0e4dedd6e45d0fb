/- Numbers of their own: those of a client, the law. By the prover of this seat. -/
import Derived.Test.YtdcoomeagbjhlaaXl
set_option linter.unusedVariables false
set_option linter.unusedSimpArgs false
set_option maxRecDepth 100000
set_option maxHeartbeats 4000000
namespace Go.Proofs.Ytdcoomeagbjhlaa
open Go.RowKit Go.Pm
theorem trix_block {C : Cx} {id : Nat} {x : Code} {st : St} {Q Q' : Ex → St → Prop} (h : TriX C x st Q) (hq : ∀ e s, Q e s → Q' (match e with | .exit j => if j = id then .normal else .exit j | e => e) s) : TriX C (.block id x) st Q' := by
  intro w0 ρ M a W hR
  refine wp_block (Code.wp_mono (fun e' a' W' h => ?_) (h w0 ρ M a W hR))
  obtain ⟨e, s, h1, rfl, hh⟩ := h
  have h2 := hq e s h1
  cases e with
  | normal => exact ⟨_, _, h2, rfl, hh⟩
  | ret => exact ⟨_, _, h2, rfl, hh⟩
  | exit j =>
    show (if j = id then _ else _)
    simp only at h2
    split
    · rename_i hj
      subst hj
      rw [if_pos rfl] at h2
      exact ⟨_, _, h2, rfl, hh⟩
    · rename_i hj
      rw [if_neg hj] at h2
      exact ⟨_, _, h2, rfl, hh⟩
/-- a slot seen more weakly -/
theorem mk1_get {n k : Nat} {a b c c' : AV} {i : Nat} (h : (mkT n [(k, a)])[i]? = some c) (h' : (mkT n [(k, b)])[i]? = some c') : (c = a ∧ c' = b) ∨ c = c' := by
  simp only [mkT, List.getElem?_map, Option.map_eq_some_iff] at h h'
  obtain ⟨x, h1, h2⟩ := h
  obtain ⟨y, h3, h4⟩ := h'
  obtain rfl : x = y := by rw [h1] at h3; exact Option.some.inj h3
  by_cases e : k = x
  · subst e
    simp at h2 h4
    exact .inl ⟨h2.symm, h4.symm⟩
  · simp [e] at h2 h4
    exact .inr (by rw [← h2, ← h4])
theorem tri_slot {C : Cx} {c : Code} {st : St} {e : Ex} {n k : Nat} {a b : AV} {H : List Bk} (h : Tri C c st e ⟨mkT n [(k, a)], H⟩) (hv : ∀ M ρ v, VR M ρ a v → VR M ρ b v) : Tri C c st e ⟨mkT n [(k, b)], H⟩ := by
  intro w0 ρ M x W hR
  refine Code.wp_mono (fun x a' W' hx => ?_) (h w0 ρ M x W hR)
  obtain ⟨q0, ρ', M', q1, q2, q3, q4⟩ := hx
  refine ⟨q0, ρ', M', q1, q2, q3, ⟨⟨?_, fun i c v hc hv' => ?_⟩, q4.wr, q4.glob, q4.keep, q4.defers⟩⟩
  · have := q4.slots.len; simpa [mkT] using this
  · have hl : i < n := by have := (List.getElem?_eq_some_iff.1 hc).1; simpa [mkT] using this
    obtain ⟨c0, hc0⟩ : ∃ c0, (mkT n [(k, a)])[i]? = some c0 := ⟨_, List.getElem?_eq_getElem (by simpa [mkT] using hl)⟩
    have h1 := q4.slots.at_ i c0 v hc0 hv'
    rcases mk1_get hc0 hc with ⟨rfl, rfl⟩ | rfl
    · exact hv _ _ _ h1
    · exact h1
theorem sl_any {M : Mem} {ρ : Nm} {n : Nat} {cs : List AV} {v : Value} (h : VR M ρ (.sl n cs) v) : VR M ρ (.sl n []) v := by
  cases h with
  | sl_e a b => exact .sl_e a b
  | sl f a b c => exact .sl_e a (fun e => by cases e)
def ofM (c j : Int) (x : Idr) : Bool := decide (x.c = c) && decide (x.kd = j)
def rw_ (c j : Int) (D : List Idr) : List Int := (D.filter (ofM c j)).map idR
theorem rw_len_perm {c j : Int} {D D' : List Idr} (h : D.Perm D') : (rw_ c j D).length = (rw_ c j D').length := by
  unfold rw_
  rw [List.length_map, List.length_map]
  exact (h.filter _).length_eq
theorem rw_le (c j : Int) (D : List Idr) : (rw_ c j D).length ≤ D.length := by
  unfold rw_
  rw [List.length_map]
  exact List.length_filter_le _ _
theorem rw_yes {c j : Int} {D : List Idr} {x : Idr} (h : ofM c j x = true) : rw_ c j (D ++ [x]) = rw_ c j D ++ [idR x] := by simp [rw_, h]
theorem rw_not {c j : Int} {D : List Idr} {x : Idr} (h : ofM c j x = false) : rw_ c j (D ++ [x]) = rw_ c j D := by simp [rw_, h]
def ownC (c : Int) (l : List Idr) : Nat := (l.filter fun x => decide (x.c = c)).length
theorem own_sum (c : Int) (l : List Idr) (hs : ∀ x ∈ l, IOk x) : (rw_ c 2 l).length + (rw_ c 3 l).length + (rw_ c 4 l).length = ownC c l := by
  unfold rw_ ownC
  simp only [List.length_map]
  induction l with
  | nil => rfl
  | cons x l ih =>
    have hx := hs x (by simp)
    have := ih fun y hy => hs y (by simp [hy])
    have h0 := hx.d0
    have h1 := hx.d1
    have hk : x.kd = 2 ∨ x.kd = 3 ∨ x.kd = 4 := by omega
    by_cases hc : x.c = c
    · rcases hk with hk | hk | hk <;> simp [ofM, hc, hk] <;> omega
    · simp [ofM, hc]; omega
noncomputable def ofA (c : Int) (D : List Idr) : List Bk := ofH (rw_ c 2 D).length (rw_ c 3 D).length (rw_ c 4 D).length (rw_ c 2 D) (rw_ c 3 D) (rw_ c 4 D)
theorem ofA_yes2 {c : Int} {D : List Idr} {x : Idr} (hc : x.c = c) (hk : x.kd = 2) : ofA c (D ++ [x]) = ofH ((rw_ c 2 D).length + 1) (rw_ c 3 D).length (rw_ c 4 D).length (rw_ c 2 D ++ [idR x]) (rw_ c 3 D) (rw_ c 4 D) := by
  unfold ofA
  rw [rw_yes (by simp [ofM, hc, hk]), rw_not (by simp [ofM, hc, hk]), rw_not (by simp [ofM, hc, hk])]
  simp
theorem ofA_yes3 {c : Int} {D : List Idr} {x : Idr} (hc : x.c = c) (hk : x.kd = 3) : ofA c (D ++ [x]) = ofH (rw_ c 2 D).length ((rw_ c 3 D).length + 1) (rw_ c 4 D).length (rw_ c 2 D) (rw_ c 3 D ++ [idR x]) (rw_ c 4 D) := by
  unfold ofA
  rw [rw_not (by simp [ofM, hc, hk]), rw_yes (by simp [ofM, hc, hk]), rw_not (by simp [ofM, hc, hk])]
  simp
theorem ofA_yes4 {c : Int} {D : List Idr} {x : Idr} (hc : x.c = c) (hk : x.kd = 4) : ofA c (D ++ [x]) = ofH (rw_ c 2 D).length (rw_ c 3 D).length ((rw_ c 4 D).length + 1) (rw_ c 2 D) (rw_ c 3 D) (rw_ c 4 D ++ [idR x]) := by
  unfold ofA
  rw [rw_not (by simp [ofM, hc, hk]), rw_not (by simp [ofM, hc, hk]), rw_yes (by simp [ofM, hc, hk])]
  simp
theorem ofA_not {c : Int} {D : List Idr} {x : Idr} (hc : ¬ x.c = c) : ofA c (D ++ [x]) = ofA c D := by
  unfold ofA
  rw [rw_not (by simp [ofM, hc]), rw_not (by simp [ofM, hc]), rw_not (by simp [ofM, hc])]
theorem of_all (l : List Idr) (c : Int) (hs : ∀ x ∈ l, IOk x) (hn : l.length ≤ 40) : LoopX C0 ofB ⟨ofT c, putB (ofA c []) (1, .iter [] (l.map rowI))⟩ (fun e s => e = .exit 0 ∧ ∃ D, D.Perm l ∧ s = ofE (rw_ c 2 D).length (rw_ c 3 D).length (rw_ c 4 D).length (rw_ c 2 D) (rw_ c 3 D) (rw_ c 4 D)) := by
  obtain ⟨n, hn', hop⟩ : ∃ n : Oper, headN ofB = some n ∧ n.op = .next (.tmp 13) false ∧ n.dst = some 14 := ⟨_, rfl, rfl, rfl⟩
  have hd := hop.2
  refine LoopX.range (b := 1) rowI hn' hop.1 l (fun D => ofT c) (fun D => ofA c D) (by intro q; cases q) (fun D => ofE (rw_ c 2 D).length (rw_ c 3 D).length (rw_ c 4 D).length (rw_ c 2 D) (rw_ c 3 D) (rw_ c 4 D)) (fun D => rfl) (fun D => by simp [ofA, ofH]) (fun D x R hp => ?_) (fun D cur hp => ?_) l.length [] l [] rfl (List.Perm.refl _)
  · rw [hd]
    have hx := hs x (hp.mem_iff.1 (by simp))
    have hD : D.length ≤ 40 := by have := hp.length_eq; simp at this; omega
    have b2 := rw_le c 2 D
    have b3 := rw_le c 3 D
    have b4 := rw_le c 4 D
    have h0 := hx.d0
    have h1 := hx.d1
    by_cases hc : x.c = c
    · have q : Pu 17 [i64 c, u32 (idR x)] (bl true) := by subst hc; exact mine_yes x.c x.k hx.c0 hx.c1 hx.k0 hx.k1
      have hk : x.kd = 2 ∨ x.kd = 3 ∨ x.kd = 4 := by omega
      rcases hk with hk | hk | hk
      · rw [ofA_yes2 hc hk]
        have := of_2 c (idR x) (rw_ c 2 D) (rw_ c 3 D) (rw_ c 4 D) _ _ _ rfl rfl rfl (by omega) (by omega) (by omega) (R.map rowI) q
        rw [show (rowI x).2 = i64 2 by show i64 x.kd = _; rw [hk]]
        exact this
      · rw [ofA_yes3 hc hk]
        have := of_3 c (idR x) (rw_ c 2 D) (rw_ c 3 D) (rw_ c 4 D) _ _ _ rfl rfl rfl (by omega) (by omega) (by omega) (R.map rowI) q
        rw [show (rowI x).2 = i64 3 by show i64 x.kd = _; rw [hk]]
        exact this
      · rw [ofA_yes4 hc hk]
        have := of_4 c (idR x) (rw_ c 2 D) (rw_ c 3 D) (rw_ c 4 D) _ _ _ rfl rfl rfl (by omega) (by omega) (by omega) (R.map rowI) q
        rw [show (rowI x).2 = i64 4 by show i64 x.kd = _; rw [hk]]
        exact this
    · rw [ofA_not hc]
      exact of_no c (idR x) (rw_ c 2 D) (rw_ c 3 D) (rw_ c 4 D) _ _ _ rfl rfl rfl (by omega) (by omega) (by omega) (R.map rowI) x.kd (mine_no c x.c x.k hx.c0 hx.c1 hx.k0 hx.k1 hc)
  · rw [hd]
    exact of_end c _ _ _ _ _ _ cur
theorem sort_row (l : List Int) (hn : l.length ≤ 40) : ∃ m : List Int, m.length = l.length ∧ CallH Try.prog G0 42 [.osl 0 0 l.length 1] [rwB l.length l] (.tup []) [rwB l.length m] := by
  obtain ⟨m, h1, h2⟩ := sort_ok l hn
  refine ⟨m, h1, ?_⟩
  unfold rwB
  rw [Nat.mul_one]
  exact h2
theorem sort_none : CallH Try.prog G0 42 [.osl 0 0 0 1] [.arr 0 [] 0] (.tup []) [.arr 0 [] 0] := by
  obtain ⟨m, h1, h2⟩ := sort_ok [] (by decide)
  obtain rfl := List.length_eq_zero_iff.1 h1
  exact h2
theorem ofY_eq : ofY = .seq y0 (.seq y1 (.seq (.seq y2 (.block 0 (.loop ofB))) yR)) := by kernel_rfl
theorem of_tri (l : List Idr) (c : Int) (hs : ∀ x ∈ l, IOk x) (hn : l.length ≤ 40) : Tri C0 ofY ⟨mkT 41 [(0, hldA l), (1, i64 c)], []⟩ .ret ⟨mkT 41 [(4, .sl (ownC c l) [])], []⟩ := by
  rw [ofY_eq]
  refine Tri.seq (of_r0 l c) (Tri.seq (of_r1 l c) (TriX.tri ?_))
  refine TriX.seq (Q := fun e s => e = .normal ∧ ∃ D : List Idr, D.Perm l ∧ s = ofE (rw_ c 2 D).length (rw_ c 3 D).length (rw_ c 4 D).length (rw_ c 2 D) (rw_ c 3 D) (rw_ c 4 D)) ?_ ?_
  · refine TriX.seq (of_r2 l c).x ?_
    rintro e st1 ⟨rfl, rfl⟩
    refine .inl ⟨rfl, trix_block (of_all l c hs hn).tri ?_⟩
    rintro e s ⟨rfl, D, hp, rfl⟩
    exact ⟨rfl, D, hp, rfl⟩
  · rintro e st1 ⟨rfl, D, hp, rfl⟩
    refine .inl ⟨rfl, Tri.x ?_⟩
    have hD := hp.length_eq
    have b2 := rw_le c 2 D
    have b3 := rw_le c 3 D
    have b4 := rw_le c 4 D
    obtain ⟨m2, g2, q2⟩ := sort_row (rw_ c 2 D) (by omega)
    obtain ⟨m3, g3, q3⟩ := sort_row (rw_ c 3 D) (by omega)
    obtain ⟨m4, g4, q4⟩ := sort_row (rw_ c 4 D) (by omega)
    have h := of_rest (rw_ c 2 D) (rw_ c 3 D) (rw_ c 4 D) m2 m3 m4 _ _ _ rfl rfl rfl g2 g3 g4 (by omega) (by omega) (by omega) sort_none q2 q3 q4
    refine tri_slot h fun M ρ v hv => ?_
    have hlen : (m2 ++ m3 ++ m4).length = ownC c l := by
      rw [← own_sum c l hs, List.length_append, List.length_append, g2, g3, g4, rw_len_perm hp, rw_len_perm (j := 3) hp, rw_len_perm (j := 4) hp]
    unfold slE at hv
    rw [hlen] at hv
    exact sl_any hv
theorem of_ok (l : List Idr) (c : Int) (hs : ∀ x ∈ l, IOk x) (hn : l.length ≤ 40) : Pu 19 [hldA l, i64 c] (.sl (ownC c l) []) := by
  obtain ⟨fn, hfn, hb, hnm, hr, hk⟩ : ∃ fn : Func, Try.prog.funcs[19]? = some fn ∧ fn.body = some ofY ∧ (fn.name == "runtime.NumGoroutine") = false ∧ fn.results.toList = [.tmp 4] ∧ fn.ntmps = 41 := ⟨_, rfl, rfl, rfl, rfl, rfl⟩
  refine callH_tri (e := .ret) (vs := [.sl (ownC c l) []]) (st := ⟨mkT 41 [(4, .sl (ownC c l) [])], []⟩) hfn hb hnm (by intro j q; cases q) (by rw [hr]; rfl) ?_
  rw [hk]
  have h := of_tri l c hs hn
  refine Tri.before (f := { ks := [0, 1] }) ?_ (by simp [fgAsk, allP]; rfl)
  exact h
end Go.Proofs.Ytdcoomeagbjhlaa
