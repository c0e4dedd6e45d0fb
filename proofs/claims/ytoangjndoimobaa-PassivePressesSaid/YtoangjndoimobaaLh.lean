/- Acts: great, done, all, played; the laws Plays and Finds. By the prover of this seat. -/
import Derived.Test.YtoangjndoimobaaLf
import Derived.Test.YtoangjndoimobaaLg
set_option linter.unusedVariables false
set_option linter.unusedSimpArgs false
set_option maxRecDepth 100000
set_option maxHeartbeats 4000000
namespace Go.Proofs.Ytoangjndoimobaa
open Go.RowKit Go.Pm
structure Act where
  kind : Int
  g : Grab
  ids : List Int
  deriving Inhabited
def actL (a : Act) : List AV := [i64 a.kind, i64 a.g.client, u32 a.g.window, bl a.g.button, i64 a.g.code, i64 a.g.mods, bl a.g.owner, i64 a.g.mask, i64 a.g.pointer, i64 a.g.keyboard, slU a.ids]
def slA (l : List Act) : AV := .sl l.length (l.flatMap actL)
def shAct : Sh := .seq (.int .i64) (.seq shGrab (.seq (.sl (.int .u32)) .unit))
theorem fits_act {cs : List AV} (h : Fits shAct cs) : ∃ a : Act, cs = actL a := by
  obtain ⟨_, _, rfl, ⟨k, rfl, _⟩, _, _, rfl, h2, _, _, rfl, h3, rfl⟩ := h
  obtain ⟨g, rfl⟩ := fits_grab h2
  obtain ⟨l, rfl⟩ := fits_ids h3
  exact ⟨⟨k, g, l⟩, rfl⟩
theorem fits_acts {cs : List AV} (h : Fits (.sl shAct) cs) : ∃ l : List Act, cs = [slA l] := by
  obtain ⟨l, h1, _, _⟩ := fits_list (enc := actL) (Q := fun _ => True) (fun cs hc => by obtain ⟨a, rfl⟩ := fits_act hc; exact ⟨a, rfl, trivial⟩) h
  exact ⟨l, h1⟩
/-! the same -/
theorem alike_refl (a : Grab) : alikeD a a = true := by simp [alikeD]
theorem alike_symm {a b : Grab} (h : alikeD a b = true) : alikeD b a = true := by
  simp only [alikeD, decide_eq_true_eq] at h ⊢
  obtain ⟨h1, h2, h3, h4, h5⟩ := h
  exact ⟨h1.symm, h2.symm, h3.symm, h4.symm, h5.symm⟩
theorem alike_trans {a b c : Grab} (h : alikeD a b = true) (k : alikeD b c = true) : alikeD a c = true := by
  simp only [alikeD, decide_eq_true_eq] at h k ⊢
  obtain ⟨h1, h2, h3, h4, h5⟩ := h
  obtain ⟨k1, k2, k3, k4, k5⟩ := k
  exact ⟨h1.trans k1, h2.trans k2, h3.trans k3, h4.trans k4, h5.trans k5⟩
def Apart (l : List Grab) : Prop := l.Pairwise fun a b => ¬ alikeD a b = true
structure Inv (l : List Grab) : Prop where
  len : l.length ≤ 256
  ap : Apart l
theorem raddP_eq {l : List Grab} (h : Apart l) (g : Grab) : raddP l g = addP l g := by
  unfold raddP addP
  by_cases h1 : checkD g = 0
  · simp only [h1, not_true_eq_false, if_false]
    by_cases h2 : (idxD (otherD g) l).isSome = true
    · simp only [h2, if_true]
    · simp only [h2, Bool.false_eq_true, if_false]
      have e := idx_isSome (fun x => alikeD x g) l
      cases hk : idxD (fun x => alikeD x g) l with
      | none =>
        rw [hk] at e
        rw [← e, if_neg (by simp)]
        have hm : l.map (repD g) = l := by
          conv => rhs; rw [← List.map_id l]
          refine List.map_congr_left fun x hx => ?_
          have : alikeD x g = false := by
            have := e.symm
            rw [Option.isSome_none, List.any_eq_false] at this
            simpa using this x hx
          simp [repD, this]
        rw [hm]
      | some k =>
        rw [hk] at e
        rw [← e, if_pos (by simp)]
        obtain ⟨q1, q2, q3⟩ := idx_some hk
        congr 1
        refine List.ext_getElem (by simp) fun i h3 h4 => ?_
        rw [List.length_map] at h3
        rw [List.getElem_map, List.getElem_set]
        rw [nth_eq q1] at q2
        by_cases hik : k = i
        · subst hik; rw [if_pos rfl, repD, if_pos q2]
        · rw [if_neg hik, repD, if_neg]
          intro hc
          have hp := List.pairwise_iff_getElem.1 h
          rcases Nat.lt_or_gt_of_ne hik with hlt | hlt
          · exact hp k i q1 h3 hlt (alike_trans q2 (alike_symm hc))
          · exact hp i k h3 q1 hlt (alike_trans hc (alike_symm q2))
  · simp only [h1, not_false_eq_true, if_true]
theorem inv_add {l : List Grab} (h : Inv l) (g : Grab) : Inv (addP l g).1 := by
  unfold addP
  split
  · exact h
  · split
    · exact h
    · split
      · rename_i hk
        split
        · exact h
        · rename_i hf
          refine ⟨by rw [List.length_append, List.length_singleton]; omega, List.pairwise_append.2 ⟨h.ap, List.pairwise_singleton .., fun a ha b hb => ?_⟩⟩
          obtain rfl := List.mem_singleton.1 hb
          obtain ⟨i, hi, rfl⟩ := List.getElem_of_mem ha
          have := idx_none hk i hi
          rwa [nth_eq hi] at this
      · rename_i k hk
        refine ⟨by rw [List.length_set]; exact h.len, List.pairwise_iff_getElem.2 fun i j hi hj hij => ?_⟩
        obtain ⟨q1, q2, q3⟩ := idx_some hk
        rw [nth_eq q1] at q2
        rw [List.length_set] at hi hj
        have hp := List.pairwise_iff_getElem.1 h.ap
        rw [List.getElem_set, List.getElem_set]
        intro hc
        by_cases e1 : k = i
        · subst e1
          rw [if_pos rfl, if_neg (by omega)] at hc
          exact hp k j q1 hj hij (alike_trans q2 hc)
        · rw [if_neg e1] at hc
          by_cases e2 : k = j
          · subst e2
            rw [if_pos rfl] at hc
            exact hp i k hi q1 hij (alike_trans hc (alike_symm q2))
          · rw [if_neg e2] at hc
            exact hp i j hi hj hij hc
theorem inv_kept {l : List Grab} (h : Inv l) (p : Grab → Bool) : Inv (keptD p l) := ⟨Nat.le_trans (List.length_filter_le _ _) h.len, List.Pairwise.sublist List.filter_sublist h.ap⟩
theorem inv_nil : Inv [] := ⟨by simp, List.Pairwise.nil⟩
def stepD (l : List Grab) (a : Act) : List Grab := if a.kind = 0 then (addP l a.g).1 else if a.kind = 1 then keptD (dropD a.g.client a.g.window a.g.button a.g.code a.g.mods) l else if a.kind = 2 then keptD (leaveD a.g.client a.ids) l else l
theorem inv_step {l : List Grab} (h : Inv l) (a : Act) : Inv (stepD l a) := by
  unfold stepD
  split
  · exact inv_add h a.g
  · split
    · exact inv_kept h _
    · split
      · exact inv_kept h _
      · exact h
theorem done_ok (l : List Grab) (a : Act) (h : Inv l) (hi : a.ids.length ≤ 1000000) : Pu 33 [tab l, slG l, A (actL a)] (.tup [tab (stepD l a), slG (stepD l a), bl true]) := by
  have hl := h.len
  unfold stepD
  by_cases k0 : a.kind = 0
  · rw [if_pos k0]
    have h1 := add_ok l a.g hl
    have h2 := radd_ok l a.g (by omega)
    rw [raddP_eq h.ap] at h2
    generalize addP l a.g = r at h1 h2 ⊢
    exact pure_cast (pure_of (hs := hint [((2,1), {val := some (bl (true))}), ((3,3), {call := some (tabR r)}), ((4,3), {call := some (A (grabL { client := a.g.client, window := a.g.window, button := a.g.button, code := a.g.code, mods := a.g.mods, owner := a.g.owner, mask := a.g.mask, pointer := a.g.pointer, keyboard := a.g.keyboard : Grab }))}), ((4,4), {call := some (slR r)})]) (r := AV.tup [A [AV.sl (r.fst.length) (List.flatMap grabL r.fst)], AV.sl (r.fst.length) (List.flatMap grabL r.fst), bl (r.snd == r.snd)]) (ps := [bl (a.kind == (0 : Int)) = bl (true), _, _, _]) (by kernel_rfl) ⟨(beT (by assumption)), (h1), (of_ok (a.g)), (h2), trivial⟩) (by (simp [tab, slG]; done))
  · rw [if_neg k0]
    by_cases k1 : a.kind = 1
    · rw [if_pos k1]
      exact pure_of (hs := hint [((2,1), {val := some (bl (false))}), ((6,1), {val := some (bl (true))}), ((7,16), {call := some (tab (keptD (dropD a.g.client a.g.window a.g.button a.g.code a.g.mods) l))}), ((7,33), {call := some (slG (keptD (dropD a.g.client a.g.window a.g.button a.g.code a.g.mods) l))})]) (ps := [bl (a.kind == (0 : Int)) = bl (false), bl (a.kind == (1 : Int)) = bl (true), _, _]) (by kernel_rfl) ⟨(beF (by assumption)), (beT (by assumption)), (drop_ok (l) (a.g.client) (a.g.window) (a.g.button) (a.g.code) (a.g.mods) (by omega)), (rdrop_ok (l) (a.g.client) (a.g.window) (a.g.button) (a.g.code) (a.g.mods) (by omega)), trivial⟩
    · rw [if_neg k1]
      by_cases k2 : a.kind = 2
      · rw [if_pos k2]
        exact pure_of (hs := hint [((2,1), {val := some (bl (false))}), ((6,1), {val := some (bl (false))}), ((8,1), {val := some (bl (true))}), ((9,6), {call := some (tab (keptD (leaveD a.g.client a.ids) l))}), ((9,13), {call := some (slU a.ids)}), ((9,14), {call := some (slG (keptD (leaveD a.g.client a.ids) l))})]) (ps := [bl (a.kind == (0 : Int)) = bl (false), bl (a.kind == (1 : Int)) = bl (false), bl (a.kind == (2 : Int)) = bl (true), _, _, _]) (by kernel_rfl) ⟨(beF (by assumption)), (beF (by assumption)), (beT (by assumption)), (leave_ok (l) (a.g.client) (a.ids) (by omega) (by omega)), (ids_ok (a.ids) (by assumption)), (rleave_ok (l) (a.g.client) (a.ids) (by omega) (by assumption)), trivial⟩
      · rw [if_neg k2]
        exact pure_of (hs := hint [((2,1), {val := some (bl (false))}), ((6,1), {val := some (bl (false))}), ((8,1), {val := some (bl (false))})]) (ps := [bl (a.kind == (0 : Int)) = bl (false), bl (a.kind == (1 : Int)) = bl (false), bl (a.kind == (2 : Int)) = bl (false)]) (by kernel_rfl) ⟨(beF (by assumption)), (beF (by assumption)), (beF (by assumption)), trivial⟩
noncomputable def saBody : Code := loopOf Try.prog 34 5
def saSt (l : List Grab) (k : Nat) : St := ⟨mkT 30 [(1, slG l), (5, slG l), (6, i64 k)], []⟩
theorem sa_step (l : List Grab) (k : Nat) (hk : k < l.length) (hl : l.length ≤ 1000000) : Tri C0 saBody (saSt l k) .normal (saSt l (k + 1)) := by
  exact runF_ok (hs := hint [((5,3), {val := some (bl (true))}), ((7,2), {cells := some (grabL (nth l k) ++ List.flatMap grabL (List.drop (k + (1 : Nat)) l)), sym := true}), ((7,4), {call := some (A (grabL { client := (nth l k).client, window := (nth l k).window, button := (nth l k).button, code := (nth l k).code, mods := (nth l k).mods, owner := (nth l k).owner, mask := (nth l k).mask, pointer := (nth l k).pointer, keyboard := (nth l k).keyboard : Grab }))}), ((7,7), {cells := some (grabL (nth l k) ++ List.flatMap grabL (List.drop (k + (1 : Nat)) l)), sym := true}), ((7,9), {val := some (bl (false))}), ((6,1), {val := some (i64 ((↑k : Int) + (1 : Int)))})]) (f := { ks := [1, 5, 6] }) (ps := [bl (decide ((↑k : Int) < (↑l.length : Int))) = bl (true), decide ((0 : Int) ≤ (↑k : Int) ∧ (↑k : Int) < (↑l.length : Int)) = true, ((List.drop ((↑k : Int).toNat * (9 : Nat)) (List.flatMap grabL l)) : List AV) = (grabL (nth l k) ++ List.flatMap grabL (List.drop (k + (1 : Nat)) l)), _, decide ((0 : Int) ≤ (↑k : Int) ∧ (↑k : Int) < (↑l.length : Int)) = true, ((List.drop ((↑k : Int).toNat * (9 : Nat)) (List.flatMap grabL l)) : List AV) = (grabL (nth l k) ++ List.flatMap grabL (List.drop (k + (1 : Nat)) l)), bl (!((nth l k).client == (nth l k).client && ((nth l k).window == (nth l k).window && ((nth l k).button == (nth l k).button && ((nth l k).code == (nth l k).code && ((nth l k).mods == (nth l k).mods && ((nth l k).owner == (nth l k).owner && ((nth l k).mask == (nth l k).mask && ((nth l k).pointer == (nth l k).pointer && ((nth l k).keyboard == (nth l k).keyboard && true)))))))))) = bl (false), i64 (IntKind.i64.wrap ((↑k : Int) + (1 : Int))) = i64 ((↑k : Int) + (1 : Int)), true = true]) (by kernel_rfl) ⟨(bdT (by omega)), (by exact decide_t (by omega)), (by exact flat_nth (sz := 9) (k := k) (fun _ => rfl) (by omega)), (of_ok (nth l k)), (by exact decide_t (by omega)), (by exact flat_nth (sz := 9) (k := k) (fun _ => rfl) (by omega)), (bnT (bvT (by (simp; done)))), (intE (by exact wrap_i64 (by omega) (by omega))), rfl, trivial⟩
theorem sa_end (l : List Grab) : LoopT C0 saBody (saSt l l.length) (.exit 0) (saSt l l.length) := by
  exact LoopT.fin (hs := hint [((5,3), {val := some (bl (false))})]) (f := { ks := [1, 5, 6] }) (ps := [bl (decide ((↑l.length : Int) < (↑l.length : Int))) = bl (false), true = true]) (by kernel_rfl) ⟨(bdF (by omega)), rfl, trivial⟩ (by decide)
theorem same_ok (l : List Grab) (hl : l.length ≤ 1000000) : Pu 34 [tab l, slG l] (bl true) := by
  have L := LoopT.count (saSt l) l.length (fun k hk => sa_step l k hk hl) (sa_end l) 0 (by omega)
  exact pure_of (hs := hint [((1,1), {call := some (slG l)}), ((2,4), {val := some (bl (false))}), ((5,1000), {loop := some ({ ks := [1, 5, 6] }, saSt l (0 : Nat), Ex.exit (0 : Nat), saSt l l.length)})]) (ps := [_, bl ((↑l.length : Int) != (↑l.length : Int)) = bl (false), saSt l (0 : Nat) = saSt l (0 : Nat), _, true = true]) (by kernel_rfl) ⟨(all_ok (l) (by assumption)), (neT (by omega)), rfl, L, rfl, trivial⟩
noncomputable def plBody : Code := loopOf Try.prog 20 4
def plSt (acts : List Act) (r : List Grab) (k : Nat) : St := ⟨mkT 48 [(0, slA acts), (2, .ptr 0 0), (5, .ptr 1 0), (6, slG r), (7, i64 k)], [.arr 1 [.sl 0 []] 0, .arr 1 [slG r] 0]⟩
theorem pl_step (acts : List Act) (r r' : List Grab) (k : Nat) (hk : k < acts.length) (hl : acts.length ≤ 1000000) (hr : r.length ≤ 1000000) (hr' : r'.length ≤ 1000000) (hd : Pu 33 [tab r, slG r, A (actL (nth acts k))] (.tup [tab r', slG r', bl true])) : Tri C0 plBody (plSt acts r k) .normal (plSt acts r' (k + 1)) := by
  exact runF_ok (hs := hint [((4,3), {val := some (bl (true))}), ((6,4), {cells := some (actL (nth acts k) ++ List.flatMap actL (List.drop (k + (1 : Nat)) acts)), sym := true}), ((6,6), {call := some (AV.tup [tab r', slG r', bl true])}), ((7,5), {call := some (bl true)}), ((7,11), {call := some (bl true)}), ((5,1), {val := some (i64 ((↑k : Int) + (1 : Int)))})]) (f := { ks := [0, 2, 5, 6, 7], l := [0, 1] }) (ps := [bl (decide ((↑k : Int) < (↑acts.length : Int))) = bl (true), decide ((0 : Int) ≤ (↑k : Int) ∧ (↑k : Int) < (↑acts.length : Int)) = true, ((List.drop ((↑k : Int).toNat * (11 : Nat)) (List.flatMap actL acts)) : List AV) = (actL (nth acts k) ++ List.flatMap actL (List.drop (k + (1 : Nat)) acts)), _, _, _, i64 (IntKind.i64.wrap ((↑k : Int) + (1 : Int))) = i64 ((↑k : Int) + (1 : Int)), true = true, true = true, true = true]) (by kernel_rfl) ⟨(bdT (by omega)), (by exact decide_t (by omega)), (by exact flat_nth (sz := 11) (k := k) (fun _ => rfl) (by omega)), (hd), (same_ok (r') (by assumption)), (same_ok (r) (by assumption)), (intE (by exact wrap_i64 (by omega) (by omega))), rfl, rfl, rfl, trivial⟩
theorem pl_end (acts : List Act) (r : List Grab) : LoopT C0 plBody (plSt acts r acts.length) (.exit 0) (plSt acts r acts.length) := by
  exact LoopT.fin (hs := hint [((4,3), {val := some (bl (false))})]) (f := { ks := [0, 2, 5, 6, 7], l := [0, 1] }) (ps := [bl (decide ((↑acts.length : Int) < (↑acts.length : Int))) = bl (false), true = true, true = true, true = true]) (by kernel_rfl) ⟨(bdF (by omega)), rfl, rfl, rfl, trivial⟩ (by decide)
def runD (acts : List Act) : List Grab := acts.foldl stepD []
theorem run_inv (acts : List Act) : Inv (runD acts) := by
  unfold runD
  suffices ∀ (l : List Grab), Inv l → Inv (acts.foldl stepD l) from this [] inv_nil
  induction acts with
  | nil => intro l h; exact h
  | cons a r ih => intro l h; exact ih _ (inv_step h a)
theorem run_snoc (acts : List Act) (k : Nat) (hk : k < acts.length) : runD (acts.take (k + 1)) = stepD (runD (acts.take k)) (nth acts k) := by
  rw [take_nth hk, runD, List.foldl_append]; rfl
def Small (acts : List Act) : Prop := acts.length ≤ 60 ∧ ∀ k, k < acts.length → (nth acts k).ids.length ≤ 20
theorem played_ok (acts : List Act) (h : Small acts) : Pu 20 [slA acts] (.tup [tab (runD acts), slG (runD acts), bl true]) := by
  have hl := h.1
  have L := LoopT.count (fun k => plSt acts (runD (acts.take k)) k) acts.length (fun k hk => by
    have i1 := run_inv (acts.take k)
    have i2 := run_inv (acts.take (k + 1))
    have hd := done_ok _ (nth acts k) i1 (Nat.le_trans (h.2 k hk) (by omega))
    rw [← run_snoc acts k hk] at hd
    exact pl_step acts _ _ k hk (by omega) (Nat.le_trans i1.len (by omega)) (Nat.le_trans i2.len (by omega)) hd) (pl_end acts _) 0 (by omega)
  rw [List.take_length] at L
  exact pure_of (hs := hint [((4,1000), {loop := some ({ ks := [0, 2, 5, 6, 7], l := [0, 1], mx := [0, 1] }, plSt acts (runD (List.take (0 : Nat) acts)) (0 : Nat), Ex.exit (0 : Nat), plSt acts (runD acts) acts.length)})]) (ps := [plSt acts (runD (List.take (0 : Nat) acts)) (0 : Nat) = plSt acts (runD (List.take (0 : Nat) acts)) (0 : Nat), _, true = true]) (by kernel_rfl) ⟨rfl, L, rfl, trivial⟩
/-! great -/
theorem nth_take {α : Type} [Inhabited α] (l : List α) (n k : Nat) (h : k < n) : nth (l.take n) k = nth l k := by
  simp only [nth, List.getD_eq_getElem?_getD, List.getElem?_take, if_pos h]
def greatD (l : List Act) : Bool := ((l.take 60).any fun a => decide (20 < a.ids.length)) || decide (60 < l.length)
noncomputable def grBody : Code := loopOf Try.prog 16 2
def grSt (l : List Act) (k : Nat) : St := ⟨mkT 24 [(0, slA l), (3, i64 k)], []⟩
def grHit : St := ⟨mkT 24 [(2, bl true)], []⟩
theorem gr_step (l : List Act) (k : Nat) (hk : k < l.length) (h60 : k < 60) (hp : (nth l k).ids.length ≤ 20) : Tri C0 grBody (grSt l k) .normal (grSt l (k + 1)) := by
  exact runF_ok (hs := hint [((2,4), {val := some (bl (true))}), ((2,7), {val := some (bl (true))}), ((4,2), {cells := some (actL (nth l k) ++ List.flatMap actL (List.drop (k + (1 : Nat)) l)), sym := true}), ((4,6), {val := some (bl (false))}), ((3,1), {val := some (i64 ((↑k : Int) + (1 : Int)))})]) (f := { ks := [0, 3] }) (ps := [bl (decide ((↑k : Int) < (↑l.length : Int))) = bl (true), bl (decide ((↑k : Int) < (60 : Int))) = bl (true), decide ((0 : Int) ≤ (↑k : Int) ∧ (↑k : Int) < (↑l.length : Int)) = true, ((List.drop ((↑k : Int).toNat * (11 : Nat)) (List.flatMap actL l)) : List AV) = (actL (nth l k) ++ List.flatMap actL (List.drop (k + (1 : Nat)) l)), bl (decide ((↑(nth l k).ids.length : Int) > (20 : Int))) = bl (false), i64 (IntKind.i64.wrap ((↑k : Int) + (1 : Int))) = i64 ((↑k : Int) + (1 : Int)), true = true]) (by kernel_rfl) ⟨(bdT (by omega)), (bdT (by omega)), (by exact decide_t (by omega)), (by exact flat_nth (sz := 11) (k := k) (fun _ => rfl) (by omega)), (bdF (by omega)), (intE (by exact wrap_i64 (by omega) (by omega))), rfl, trivial⟩
theorem gr_hit (l : List Act) (k : Nat) (hk : k < l.length) (h60 : k < 60) (hp : 20 < (nth l k).ids.length) : LoopT C0 grBody (grSt l k) .ret grHit := by
  exact LoopT.fin (hs := hint [((2,4), {val := some (bl (true))}), ((2,7), {val := some (bl (true))}), ((4,2), {cells := some (actL (nth l k) ++ List.flatMap actL (List.drop (k + (1 : Nat)) l)), sym := true}), ((4,6), {val := some (bl (true))})]) (f := { ks := [2] }) (ps := [bl (decide ((↑k : Int) < (↑l.length : Int))) = bl (true), bl (decide ((↑k : Int) < (60 : Int))) = bl (true), decide ((0 : Int) ≤ (↑k : Int) ∧ (↑k : Int) < (↑l.length : Int)) = true, ((List.drop ((↑k : Int).toNat * (11 : Nat)) (List.flatMap actL l)) : List AV) = (actL (nth l k) ++ List.flatMap actL (List.drop (k + (1 : Nat)) l)), bl (decide ((↑(nth l k).ids.length : Int) > (20 : Int))) = bl (true), true = true]) (by kernel_rfl) ⟨(bdT (by omega)), (bdT (by omega)), (by exact decide_t (by omega)), (by exact flat_nth (sz := 11) (k := k) (fun _ => rfl) (by omega)), (bdT (by omega)), rfl, trivial⟩ (by decide)
theorem gr_end (l : List Act) (k : Nat) (h : ¬ (k < l.length ∧ k < 60)) : LoopT C0 grBody (grSt l k) (.exit 0) (grSt l k) := by
  by_cases h1 : (↑k : Int) < (↑l.length : Int)
  · exact LoopT.fin (hs := hint [((2,4), {val := some (bl (true))}), ((2,7), {val := some (bl (false))})]) (f := { ks := [0, 3] }) (ps := [bl (decide ((↑k : Int) < (↑l.length : Int))) = bl (true), bl (decide ((↑k : Int) < (60 : Int))) = bl (false), true = true]) (by kernel_rfl) ⟨(bdT h1), (bdF (by omega)), rfl, trivial⟩ (by decide)
  · exact LoopT.fin (hs := hint [((2,4), {val := some (bl (false))})]) (f := { ks := [0, 3] }) (ps := [bl (decide ((↑k : Int) < (↑l.length : Int))) = bl (false), true = true]) (by kernel_rfl) ⟨(bdF h1), rfl, trivial⟩ (by decide)
theorem great_ok (l : List Act) : Pu 16 [slA l] (bl (greatD l)) := by
  have e := idx_isSome (fun a : Act => decide (20 < a.ids.length)) (l.take 60)
  cases hx : idxD (fun a : Act => decide (20 < a.ids.length)) (l.take 60) with
  | some k =>
    obtain ⟨h1, h2, h3⟩ := idx_some hx
    rw [List.length_take] at h1
    rw [nth_take _ _ _ (by omega), decide_eq_true_eq] at h2
    have L := LoopT.count (grSt l) k (fun i hi => gr_step l i (by omega) (by omega) (by
      have := h3 i hi
      rw [nth_take _ _ _ (by omega), decide_eq_true_eq] at this
      omega)) (gr_hit l k (by omega) (by omega) h2) 0 (by omega)
    rw [hx] at e
    rw [greatD, ← e, Option.isSome_some, Bool.true_or]
    exact pure_of (hs := hint [((2,1000), {loop := some ({ ks := [0, 3] }, grSt l (0 : Nat), Ex.ret, grHit)})]) (ps := [grSt l (0 : Nat) = grSt l (0 : Nat), _, true = true]) (by kernel_rfl) ⟨rfl, L, rfl, trivial⟩
  | none =>
    have h3 := idx_none hx
    have L := LoopT.count (grSt l) (min 60 l.length) (fun i hi => gr_step l i (by omega) (by omega) (by
      have := h3 i (by rw [List.length_take]; omega)
      rw [nth_take _ _ _ (by omega), decide_eq_true_eq] at this
      omega)) (gr_end l _ (by omega)) 0 (by omega)
    rw [hx] at e
    rw [greatD, ← e, Option.isSome_none, Bool.false_or]
    exact pure_cast (pure_of (hs := hint [((2,1000), {loop := some ({ ks := [0, 3] }, grSt l (0 : Nat), Ex.exit (0 : Nat), grSt l (min (60 : Nat) l.length))})]) (r := bl (decide ((↑l.length : Int) > (60 : Int)))) (ps := [grSt l (0 : Nat) = grSt l (0 : Nat), _, true = true]) (by kernel_rfl) ⟨rfl, L, rfl, trivial⟩) (by exact dec_dec (by omega))
theorem great_small {l : List Act} (h : ¬ greatD l = true) : Small l := by
  simp only [greatD, Bool.or_eq_true, decide_eq_true_eq, not_or] at h
  obtain ⟨h1, h2⟩ := h
  refine ⟨by omega, fun k hk => ?_⟩
  rw [Bool.not_eq_true, List.any_eq_false] at h1
  have := h1 (nth l k) (by rw [List.take_of_length_le (by omega), nth_eq hk]; exact List.getElem_mem hk)
  rw [decide_eq_true_eq] at this
  omega
theorem plays_ok (acts : List Act) : Pu 7 [slA acts] (bl true) := by
  have hg := great_ok acts
  by_cases h : greatD acts = true
  · exact pure_of (hs := hint [((1,1), {val := some (bl (true)), call := some (bl (greatD acts))}), ((2,0), {call := some (bl true)})]) (ps := [_, bl (greatD acts) = bl (true), _]) (by kernel_rfl) ⟨(hg), (bvT (by assumption)), (awake_ok), trivial⟩
  · have hp := played_ok acts (great_small h)
    exact pure_of (hs := hint [((1,1), {val := some (bl (false)), call := some (bl (greatD acts))}), ((3,1), {call := some (AV.tup [tab (runD acts), slG (runD acts), bl true])}), ((4,2), {call := some (bl true)})]) (ps := [_, bl (greatD acts) = bl (false), _, _]) (by kernel_rfl) ⟨(hg), (bvF (by assumption)), (hp), (awake_ok), trivial⟩
theorem finds_ok (acts : List Act) (path : List Int) (g : Grab) : Pu 8 [slA acts, slU path, A (grabL g)] (bl true) := by
  have hg := great_ok acts
  by_cases h : greatD acts = true
  · exact pure_of (hs := hint [((1,1), {call := some (bl (greatD acts))}), ((1,2), {val := some (bl (true))}), ((2,0), {call := some (bl true)})]) (ps := [_, bl (greatD acts) = bl (true), _]) (by kernel_rfl) ⟨(hg), (bvT (by assumption)), (awake_ok), trivial⟩
  · have hp := played_ok acts (great_small h)
    have hi := run_inv acts
    by_cases h30 : 30 < path.length
    · exact pure_of (hs := hint [((1,1), {call := some (bl (greatD acts))}), ((1,2), {val := some (bl (false))}), ((1,6), {val := some (bl (true))}), ((2,0), {call := some (bl true)})]) (ps := [_, bl (greatD acts) = bl (false), bl (decide ((↑path.length : Int) > (30 : Int))) = bl (true), _]) (by kernel_rfl) ⟨(hg), (bvF (by assumption)), (bdT (by omega)), (awake_ok), trivial⟩
    · have h1 := find_ok (runD acts) path g.button g.code g.mods (by omega) (Nat.le_trans hi.len (by omega))
      have h2 := rfind_ok (runD acts) path g.button g.code g.mods (by omega) (Nat.le_trans hi.len (by omega))
      have h3 := ids_ok path (by omega)
      generalize findP (runD acts) path g.button g.code g.mods = r at h1 h2
      exact pure_of (hs := hint [((1,1), {call := some (bl (greatD acts))}), ((1,2), {val := some (bl (false))}), ((1,6), {val := some (bl (false))}), ((3,1), {call := some (AV.tup [tab (runD acts), slG (runD acts), bl true])}), ((6,8), {call := some (foundR r)}), ((7,2), {call := some (slU path)}), ((7,9), {call := some (foundR r)}), ((8,3), {val := some (bl (true))}), ((8,5), {call := some (A (grabL { client := r.fst.client, window := r.fst.window, button := r.fst.button, code := r.fst.code, mods := r.fst.mods, owner := r.fst.owner, mask := r.fst.mask, pointer := r.fst.pointer, keyboard := r.fst.keyboard : Grab }))}), ((8,9), {val := some (bl (true))}), ((8,10), {call := some (bl true)})]) (ps := [_, bl (greatD acts) = bl (false), bl (decide ((↑path.length : Int) > (30 : Int))) = bl (false), _, _, _, _, bl (r.snd == r.snd) = bl (true), _, bl (r.fst.client == r.fst.client && (r.fst.window == r.fst.window && (r.fst.button == r.fst.button && (r.fst.code == r.fst.code && (r.fst.mods == r.fst.mods && (r.fst.owner == r.fst.owner && (r.fst.mask == r.fst.mask && (r.fst.pointer == r.fst.pointer && (r.fst.keyboard == r.fst.keyboard && true))))))))) = bl (true), _]) (by kernel_rfl) ⟨(hg), (bvF (by assumption)), (bdF (by omega)), (hp), (h1), (h3), (h2), (beT (by (simp; done))), (of_ok (r.fst)), (bvT (by (simp; done))), (awake_ok), trivial⟩
end Go.Proofs.Ytoangjndoimobaa
