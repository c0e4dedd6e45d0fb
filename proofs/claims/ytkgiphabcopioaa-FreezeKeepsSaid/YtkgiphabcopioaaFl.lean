/- Two devices alike; an act played. By the prover of this seat. -/
import Derived.Test.YtkgiphabcopioaaFk
set_option linter.unusedVariables false
set_option maxRecDepth 100000
namespace Go.Proofs.Ytkgiphabcopioaa
open Go.RowKit Go.Pm
noncomputable def mBody : Code := loopOf Try.prog 21 6
def mFg : Fg := { ks := [2, 3, 7, 48, 49, 50], l := [0, 1] }
def mSt (d : Dev) (k : Int) : St := ⟨mkT 64 [(2, .ptr 0 0), (3, .ptr 1 0), (7, slI d.waits), (48, slI d.waits), (49, i64 d.waits.length), (50, i64 k)], [.arr 19 (devL d) 0, .arr 19 (devL d) 0]⟩
theorem mLoop (d : Dev) (hw : d.waits.length ≤ 2000000) : ∀ (rest pre : List Inp), pre ++ rest = d.waits → LoopT C0 mBody (mSt d (pre.length : Nat)) (.exit 0) (mSt d (d.waits.length : Nat)) := by
  intro rest
  induction rest with
  | nil =>
    intro pre h
    simp at h
    subst h
    exact LoopT.fin (hs := hint [((6,0), {val := some (bl false)})]) (f := mFg) (ps := [bl (decide ((d.waits.length : Int) < (d.waits.length : Int))) = bl false, true = true, true = true, true = true]) (by kernel_rfl) ⟨by rw [decide_eq_false (by omega)], rfl, rfl, rfl, trivial⟩ (by decide)
  | cons j rest ih =>
    intro pre h
    have hl : pre.length < d.waits.length := by rw [← h]; simp
    have h2 := ih (pre ++ [j]) (by simpa using h)
    rw [List.length_append, List.length_singleton] at h2
    exact LoopT.go (hs := hint [((6,0), {val := some (bl true)}), ((8,2), {sym := true, cells := some (inpsL (j :: rest))}), ((8,7), {sym := true, cells := some (inpsL (j :: rest))}), ((8,9), {val := some (bl false)}), ((10,0), {val := some (i64 ((pre.length + 1 : Nat) : Int))})]) (f := mFg)
      (ps := [bl (decide ((pre.length : Int) < (d.waits.length : Int))) = bl true, decide ((0 : Int) ≤ (pre.length : Int) ∧ (pre.length : Int) < (d.waits.length : Int)) = true, (inpsL d.waits).drop (pre.length * 6) = inpsL (j :: rest), decide ((0 : Int) ≤ (pre.length : Int) ∧ (pre.length : Int) < (d.waits.length : Int)) = true, (inpsL d.waits).drop (pre.length * 6) = inpsL (j :: rest),
        bl (!(j.kind == j.kind && (j.code == j.code && (j.x == j.x && (j.y == j.y && (j.time == j.time && (j.count == j.count && true))))))) = bl false, i64 (IntKind.i64.wrap ((pre.length : Int) + 1)) = i64 ((pre.length + 1 : Nat) : Int), true = true, true = true, true = true])
      (by kernel_rfl) ⟨by rw [decide_t (by omega)], decide_t (by omega), drop_at h, decide_t (by omega), drop_at h, by rw [inp_same]; rfl, i64_wrap (by omega) (by omega), rfl, rfl, rfl, trivial⟩ h2
theorem same_ok (d : Dev) (hw : d.waits.length ≤ 2000000) : Pu 21 [A (devL d), A (devL d)] (bl true) :=
  pure_of (hs := hint [((1,1), {call := some (.tup [A (actL d.act), bl d.grabbed])}), ((2,1), {call := some (slI d.waits)}), ((3,3), {val := some (bl false)}), ((3,8), {val := some (bl false)}), ((3,12), {call := some (bl d.frozen)}), ((3,15), {val := some (bl false)}), ((3,19), {call := some (bl d.steps)}), ((3,22), {val := some (bl false)}), ((3,30), {val := some (bl false)}),
      ((6,1000), {loop := some (mFg, mSt d 0, .exit 0, mSt d (d.waits.length : Nat))})])
    (ps := [Pu 19 [A (devL d)] (.tup [A (actL d.act), bl d.grabbed]), Pu 14 [A (devL d)] (slI d.waits),
      bl (!(d.act.client == d.act.client && (d.act.window == d.act.window && (d.act.owner == d.act.owner && (d.act.mask == d.act.mask && (d.act.auto == d.act.auto && (d.act.passive == d.act.passive && (d.act.code == d.act.code && (d.act.time == d.act.time && true))))))))) = bl false,
      bl (!(d.grabbed == d.grabbed)) = bl false, Pu 13 [A (devL d)] (bl d.frozen), bl (!(d.frozen == d.frozen)) = bl false, Pu 32 [A (devL d)] (bl d.steps), bl (!(d.steps == d.steps)) = bl false, bl (!((d.waits.length : Int) == (d.waits.length : Int))) = bl false,
      mSt d 0 = mSt d 0, LoopT C0 mBody (mSt d 0) (.exit 0) (mSt d (d.waits.length : Nat)), true = true, true = true, true = true])
    (by kernel_rfl) ⟨active_ok d, waiting_ok d hw, by rw [act_same]; rfl, by rw [beq_self_eq_true]; rfl, frozen_ok d, by rw [beq_self_eq_true]; rfl, stepping_ok d, by rw [beq_self_eq_true]; rfl, by rw [beq_self_eq_true]; rfl, rfl, mLoop d hw d.waits [] rfl, rfl, rfl, rfl, trivial⟩
structure Act where
  what : Nat
  a : Grab
  fr : Bool
  i : Inp
  mode : Int
def acL (x : Act) : List AV := u8 (x.what : Int) :: (actL x.a ++ (bl x.fr :: (inpL x.i ++ [i64 x.mode])))
def acsL (l : List Act) : List AV := l.flatMap acL
def slA (l : List Act) : AV := .sl l.length (acsL l)
theorem u8_mod {n r : Nat} (h : n % 8 = r) : u8 (((n : Nat) : Int).tmod 8) = u8 (r : Int) := by
  have : ((n : Int).tmod 8) = ((n % 8 : Nat) : Int) := by
    rw [Int.tmod_eq_emod_of_nonneg (by omega)]
    omega
  rw [this, h]
def both (d : Dev) : AV := .tup [A (devL d), A (devL d), bl true]
theorem play_ok (x : Act) (d : Dev) (hw : d.waits.length < 256) : ∃ d', Pu 20 [A (acL x), A (devL d), A (devL d)] (both d') ∧ d'.waits.length ≤ d.waits.length + 1 := by
  have hlt : x.what % 8 < 8 := Nat.mod_lt _ (by decide)
  have hr : x.what % 8 = 0 ∨ x.what % 8 = 1 ∨ x.what % 8 = 2 ∨ x.what % 8 = 3 ∨ x.what % 8 = 4 ∨ x.what % 8 = 5 ∨ x.what % 8 = 6 ∨ x.what % 8 = 7 := by omega
  rcases hr with h | h | h | h | h | h | h | h
  · exact ⟨d.beginD x.a x.fr, pure_of (hs := hint [((1,2), {val := some (u8 0)}), ((3,5), {call := some (A (devL (d.beginD x.a x.fr)))}), ((3,11), {call := some (A (devL (d.beginD x.a x.fr)))})])
      (ps := [u8 ((x.what : Int).tmod 8) = u8 0, Pu 9 [A (devL d), A (actL x.a), bl x.fr] (A (devL (d.beginD x.a x.fr))), Pu 27 [A (devL d), A (actL x.a), bl x.fr] (A (devL (d.beginD x.a x.fr)))])
      (by kernel_rfl) ⟨u8_mod h, begin_ok _ _ _, rbegin_ok _ _ _, trivial⟩, Nat.le_succ _⟩
  · exact ⟨d.endD, pure_of (hs := hint [((1,2), {val := some (u8 1)}), ((5,1), {call := some (A (devL d.endD))}), ((5,3), {call := some (A (devL d.endD))})])
      (ps := [u8 ((x.what : Int).tmod 8) = u8 1, Pu 17 [A (devL d)] (A (devL d.endD)), Pu 28 [A (devL d)] (A (devL d.endD))])
      (by kernel_rfl) ⟨u8_mod h, end_ok _, rend_ok _, trivial⟩, Nat.le_succ _⟩
  · exact ⟨{ d with held := x.i, holds := true }, pure_of (hs := hint [((1,2), {val := some (u8 2)}), ((8,3), {call := some (A (devL { d with held := x.i, holds := true }))})])
      (ps := [u8 ((x.what : Int).tmod 8) = u8 2, Pu 18 [A (devL d), A (inpL x.i)] (A (devL { d with held := x.i, holds := true }))])
      (by kernel_rfl) ⟨u8_mod h, hold_ok _ _, trivial⟩, Nat.le_succ _⟩
  · exact ⟨{ d with frozen := true, steps := false }, pure_of (hs := hint [((1,2), {val := some (u8 3)}), ((11,1), {call := some (A (devL { d with frozen := true, steps := false }))})])
      (ps := [u8 ((x.what : Int).tmod 8) = u8 3, Pu 15 [A (devL d)] (A (devL { d with frozen := true, steps := false }))])
      (by kernel_rfl) ⟨u8_mod h, freeze_ok _, trivial⟩, Nat.le_succ _⟩
  · exact ⟨d.feedD x.i, pure_of (hs := hint [((1,2), {val := some (u8 4)}), ((20,3), {call := some (.tup [A (devL (d.feedD x.i)), i64 0])}), ((21,3), {call := some (.tup [A (devL (d.feedD x.i)), i64 0])})])
      (ps := [u8 ((x.what : Int).tmod 8) = u8 4, Pu 10 [A (devL d), A (inpL x.i)] (.tup [A (devL (d.feedD x.i)), i64 0]), Pu 31 [A (devL d), A (inpL x.i)] (.tup [A (devL (d.feedD x.i)), i64 0])])
      (by kernel_rfl) ⟨u8_mod h, feed_ok _ _ hw, rfeed_ok _ _ hw, trivial⟩, by simp [Dev.feedD]⟩
  · exact ⟨d.feedD x.i, pure_of (hs := hint [((1,2), {val := some (u8 5)}), ((20,3), {call := some (.tup [A (devL (d.feedD x.i)), i64 0])}), ((21,3), {call := some (.tup [A (devL (d.feedD x.i)), i64 0])})])
      (ps := [u8 ((x.what : Int).tmod 8) = u8 5, Pu 10 [A (devL d), A (inpL x.i)] (.tup [A (devL (d.feedD x.i)), i64 0]), Pu 31 [A (devL d), A (inpL x.i)] (.tup [A (devL (d.feedD x.i)), i64 0])])
      (by kernel_rfl) ⟨u8_mod h, feed_ok _ _ hw, rfeed_ok _ _ hw, trivial⟩, by simp [Dev.feedD]⟩
  · refine ⟨d.nextD.1, pure_of (hs := hint [((1,2), {val := some (u8 6)}), ((13,1), {call := some (res3 d.nextD)}), ((14,1), {call := some (res3 d.nextD)}), ((15,4), {val := some (bl true)}), ((15,8), {val := some (bl true)})])
      (ps := [u8 ((x.what : Int).tmod 8) = u8 6, Pu 12 [A (devL d)] (res3 d.nextD), Pu 29 [A (devL d)] (res3 d.nextD),
        bl (d.nextD.2.1.kind == d.nextD.2.1.kind && (d.nextD.2.1.code == d.nextD.2.1.code && (d.nextD.2.1.x == d.nextD.2.1.x && (d.nextD.2.1.y == d.nextD.2.1.y && (d.nextD.2.1.time == d.nextD.2.1.time && (d.nextD.2.1.count == d.nextD.2.1.count && true)))))) = bl true, bl (d.nextD.2.2 == d.nextD.2.2) = bl true])
      (by kernel_rfl) ⟨u8_mod h, next_ok _ (by omega), rnext_ok _, by rw [inp_same], by rw [beq_self_eq_true], trivial⟩, ?_⟩
    unfold Dev.nextD
    split
    · rename_i hh; split <;> (simp [hh]; omega)
    · exact Nat.le_succ _
  · refine ⟨(d.allowD x.mode).1, pure_of (hs := hint [((1,2), {val := some (u8 7)}), ((17,3), {call := some (res3 (d.allowD x.mode))}), ((18,3), {call := some (res3 (d.allowD x.mode))}), ((19,4), {val := some (bl true)}), ((19,8), {val := some (bl true)})])
      (ps := [u8 ((x.what : Int).tmod 8) = u8 7, Pu 11 [A (devL d), i64 x.mode] (res3 (d.allowD x.mode)), Pu 30 [A (devL d), i64 x.mode] (res3 (d.allowD x.mode)),
        bl ((d.allowD x.mode).2.1.kind == (d.allowD x.mode).2.1.kind && ((d.allowD x.mode).2.1.code == (d.allowD x.mode).2.1.code && ((d.allowD x.mode).2.1.x == (d.allowD x.mode).2.1.x && ((d.allowD x.mode).2.1.y == (d.allowD x.mode).2.1.y && ((d.allowD x.mode).2.1.time == (d.allowD x.mode).2.1.time && ((d.allowD x.mode).2.1.count == (d.allowD x.mode).2.1.count && true)))))) = bl true, bl ((d.allowD x.mode).2.2 == (d.allowD x.mode).2.2) = bl true])
      (by kernel_rfl) ⟨u8_mod h, allow_ok _ _, rallow_ok _ _, by rw [inp_same], by rw [beq_self_eq_true], trivial⟩, ?_⟩
    have : (d.allowD x.mode).1.waits = d.waits := by
      unfold Dev.allowD
      split
      · rfl
      · split
        · rfl
        · split
          · rfl
          · split
            · unfold Dev.replayD; split <;> rfl
            · rfl
    rw [this]
    exact Nat.le_succ _
end Go.Proofs.Ytkgiphabcopioaa
