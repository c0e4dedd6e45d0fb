/- Who lies shifts nothing: the law. By the prover of this seat. Who lies shifts nothing: the law, whole. By the prover of this seat. What the row's list gives: the cells of the tables; what comes in. By the prover of this seat. -/
import Derived.Test.YtcnlgdbmcdlknaaDoorZl
import Derived.Test.YtcnlgdbmcdlknaaDoorRows
set_option linter.unusedVariables false
set_option linter.unusedSimpArgs false
set_option maxRecDepth 100000
set_option maxHeartbeats 4000000
namespace Go.Proofs.YtcnlgdbmcdlknaaDoor.Fo
open Go.RowKit Go.Pm
def awX : List ByteArray := [⟨#[58, 0, 0, 1]⟩]
theorem aw_frms : Frms 1 awX (fun _ => 1) := by
  refine ⟨by decide, fun k hk => ?_⟩
  have : k = 0 := by have : awX.length = 1 := rfl; omega
  subst this
  exact ⟨.inr rfl, by decide, by decide, by decide, by decide +kernel⟩
theorem aw_it : (itmD 1 ⟨#[58, 0, 0, 1]⟩).fl = 0 ∧ (itmD 1 ⟨#[58, 0, 0, 1]⟩).c = 58 := by decide +kernel
theorem aw_go (r : Rq) (R : ByteArray) (F : Pure Tryd.prog G1 15 [smA false false 0 ⟨#[]⟩, st ⟨#[66, 1, 0, 0, 58, 0, 0, 1]⟩] (.tup [smA true false 1 R, .osl 0 0 1 6]) [.arr 6 (itC r 0 58) 0]) : Pu 12 [] (bl true) := by
  exact pure_of (hs := hint [((1,1), {call := some (AV.tup [(smA true false (1 : Int) R), (AV.osl (0 : Nat) (0 : Nat) (1 : Nat) (6 : Nat))]), news := some ([Bk.arr (6 : Nat) (itC r (0 : Int) (58 : Int)) (0 : Fz)])})]) (ps := [_]) (by kernel_rfl) ⟨(F), trivial⟩
theorem aw_ok : Pu 12 [] (bl true) := by
  have hB := begin_1 0 false ⟨#[66, 1, 0, 0, 58, 0, 0, 1]⟩ (by decide) (by decide) (by decide)
  have h := feed_ok aw_frms (.inr rfl) (c := 4) (by decide) false 0 ⟨#[]⟩ ⟨#[66, 1, 0, 0, 58, 0, 0, 1]⟩ (by decide) hB
  obtain ⟨e1, e2⟩ := aw_it
  have hw : whole awX 4 = 1 := by decide
  rw [hw] at h
  generalize hi : itmD 1 ⟨#[58, 0, 0, 1]⟩ = it at e1 e2
  have ht : (awX.take 1).map (itmD 1) = [it] := by show [itmD 1 ⟨#[58, 0, 0, 1]⟩] = _; rw [hi]
  rw [ht] at h
  rcases it with ⟨r, fl, c⟩
  simp only at e1 e2
  subst e1 e2
  exact aw_go r _ h
end Go.Proofs.YtcnlgdbmcdlknaaDoor.Fo
set_option linter.unusedVariables false
set_option linter.unusedSimpArgs false
set_option maxRecDepth 100000
set_option maxHeartbeats 4000000
namespace Go.Proofs.YtcnlgdbmcdlknaaDoor.Fo
open Go.RowKit Go.Pm
theorem beg_len (o : Int) : (begB o).size = 4 := by unfold begB; split <;> rfl
theorem beg_ext0 (o : Int) (Z : ByteArray) : (begB o ++ Z).extract 0 4 = begB o := by
  rw [ByteArray.extract_append, beg_len]
  have e : Z.extract (0 - 4) (4 - 4) = ByteArray.empty := by rw [ByteArray.extract_eq_empty_iff]; omega
  rw [e, ByteArray.append_empty]
  have := ByteArray.extract_zero_size (b := begB o)
  rw [beg_len] at this
  exact this
theorem beg_ext4 (o : Int) (Z : ByteArray) (i j : Nat) : (begB o ++ Z).extract (4 + i) (4 + j) = Z.extract i j := by
  have := ByteArray.extract_append_size_add (a := begB o) (b := Z) (i := i) (j := j)
  rw [beg_len] at this
  exact this
theorem beg_head (o : Int) (Z : ByteArray) (c : Nat) : (begB o ++ Z).extract 0 (4 + c) = begB o ++ Z.extract 0 c := by
  rw [ByteArray.extract_append, beg_len]
  have e : (begB o).extract 0 (4 + c) = begB o := by
    have h1 := ByteArray.extract_zero_max_size (a := begB o) (i := 4 + c)
    rw [beg_len] at h1
    have h2 := ByteArray.extract_zero_size (b := begB o)
    rw [beg_len] at h2
    rw [show max (4 + c) 4 = 4 + c by omega] at h1
    exact h1
  rw [e, show 0 - 4 = 0 by omega, show 4 + c - 4 = c by omega]
theorem beg_at (o : Int) (ho : o = 0 ∨ o = 1) (o0 : Int) (Z r : ByteArray) (hr : r = begB o ++ Z) (hs : Z.size ≤ 100000) : Pu 32 [smA false false o0 r] (smA true false o Z) := by
  subst hr
  have hz : (begB o ++ Z).size = 4 + Z.size := by rw [ByteArray.size_append, beg_len]
  have e0 := beg_ext0 o Z
  have e4 := beg_ext4 o Z 0 Z.size
  rw [ByteArray.extract_zero_size, Nat.add_zero, ← hz] at e4
  rcases ho with rfl | rfl
  · have := begin_0 o0 false (begB 0 ++ Z) (by omega) (by omega) e0
    rw [e4] at this
    exact this
  · have := begin_1 o0 false (begB 1 ++ Z) (by omega) (by omega) e0
    rw [e4] at this
    exact this
theorem first_big (ls : List Li) : (∀ k, k < ls.length → ¬ (nth ls k).b.size > 40) ∨ ∃ k, k < ls.length ∧ (nth ls k).b.size > 40 ∧ ∀ j, j < k → ¬ (nth ls j).b.size > 40 := by
  by_cases h : ∃ k, k < ls.length ∧ (nth ls k).b.size > 40
  · right
    have key : ∀ n k, k ≤ n → k < ls.length → (nth ls k).b.size > 40 → ∃ k, k < ls.length ∧ (nth ls k).b.size > 40 ∧ ∀ j, j < k → ¬ (nth ls j).b.size > 40 := by
      intro n
      induction n with
      | zero => intro k h0 h1 h2; exact ⟨k, h1, h2, fun j hj => by omega⟩
      | succ n ih =>
        intro k h0 h1 h2
        by_cases q : ∃ j, j < k ∧ (nth ls j).b.size > 40
        · obtain ⟨j, j1, j2⟩ := q
          exact ih j (by omega) (by omega) j2
        · exact ⟨k, h1, h2, fun j hj h3 => q ⟨j, hj, h3⟩⟩
    obtain ⟨k, h1, h2⟩ := h
    exact key k k (Nat.le_refl _) h1 h2
  · left
    exact fun k hk h2 => h ⟨k, hk, h2⟩
theorem lies_ok (ls : List Li) (hls : ∀ x ∈ ls, x.Ok) (q cut : Int) (q0 : 0 ≤ q) (q1 : q ≤ 255) (c0 : 0 ≤ cut) (c1 : cut ≤ 65535) : Pu 4 [slL ls, u8 q, u16 cut] (bl true) := by
  have a := aw_ok
  by_cases h20 : ls.length > 20
  · exact top_long ls q cut a h20
  obtain ⟨o, ho⟩ : ∃ o, q.tmod 2 = o := ⟨_, rfl⟩
  have ho1 : o = q % 2 := by rw [← ho, Int.tmod_eq_emod_of_nonneg q0]
  have hoo : o = 0 ∨ o = 1 := by omega
  have hb := begins_ok o hoo
  have hX := liB_frms o hoo ls (by omega)
  have hXl : (liB o ls).length = ls.length := by unfold liB; rw [List.length_map]
  have hXn : ∀ k, k < ls.length → nth (liB o ls) k = jbF o (nth ls k) := fun k hk => nth_map (jbF o) ls k hk
  obtain ⟨X, eX⟩ : ∃ X, liB o ls = X := ⟨_, rfl⟩
  rw [eX] at hX hXl hXn
  have hbd := hX.bd
  have hstep : ∀ k, k < ls.length → ¬ (nth ls k).b.size > 40 → Tri C1 lbB (lbS ls q cut o (begB o ++ catB (X.take k)) k) .normal (lbS ls q cut o (begB o ++ catB (X.take (k + 1))) (k + 1)) := by
    intro k hk h40
    have hx := hls _ (nth_mem hk)
    have hJ := jbF_ok o hoo (nth ls k) hx (by omega)
    have hle := offs_le X k
    have hz := hX.size (k := k) (by omega)
    have := lb_step ls q cut o (begB o ++ catB (X.take k)) k (by omega) hk h40 _ hJ (by
      rw [← hXn k hk, ByteArray.size_append, beg_len]
      have e : (catB (X.take k)).size = offs X k := rfl
      omega)
    rw [take_nth (show k < X.length by omega), cat_app]
    show Tri C1 lbB _ .normal (lbS ls q cut o (begB o ++ (catB (X.take k) ++ (nth X k ++ ByteArray.empty))) (k + 1))
    rw [ByteArray.append_empty, ← ByteArray.append_assoc, hXn k hk]
    exact this
  rcases first_big ls with hsm | ⟨k, hk, hbig, hlt⟩
  case inr =>
    have L := LoopT.count (fun i => lbS ls q cut o (begB o ++ catB (X.take i)) i) k (fun i hi => hstep i (by omega) (hlt i hi)) (lb_stop ls q cut o _ k (by omega) hk hbig) 0 (by omega)
    have e : begB o ++ catB (X.take 0) = begB o := ByteArray.append_empty
    simp only [e] at L
    exact top_40 ls q cut o a h20 ho (by omega) (by omega) hb L
  have L1 := LoopT.count (fun i => lbS ls q cut o (begB o ++ catB (X.take i)) i) ls.length (fun i hi => hstep i hi (hsm i hi)) (lb_end ls q cut o _) 0 (by omega)
  have e : begB o ++ catB (X.take 0) = begB o := ByteArray.append_empty
  have eA : X.take ls.length = X := by rw [← hXl, List.take_length]
  simp only [e, eA] at L1
  obtain ⟨B, hB⟩ : ∃ B, B = begB o ++ catB X := ⟨_, rfl⟩
  rw [← hB] at L1
  have hBs : B.size = 4 + (catB X).size := by rw [hB, ByteArray.size_append, beg_len]
  obtain ⟨k, hk⟩ : ∃ k : Nat, cut.tmod (B.size + 1) = k := by
    refine ⟨(cut.tmod (B.size + 1)).toNat, ?_⟩
    have := Int.tmod_nonneg (a := cut) (B.size + 1 : Int) c0
    omega
  have hk2 : k ≤ B.size := by
    have h1 := Int.tmod_lt_of_pos cut (b := (B.size + 1 : Int)) (by omega)
    omega
  -- the items
  obtain ⟨its, eI⟩ : ∃ its, its = X.map (itmD o) := ⟨_, rfl⟩
  have hil : its.length = ls.length := by rw [eI, List.length_map, hXl]
  have L2 := LoopT.count (fun i => ltS ls o its ls.length i) ls.length (fun i hi => by
    have hx := hls _ (nth_mem hi)
    have hJ := jbF_ok o hoo (nth ls i) hx (by have := hsm i hi; omega)
    have hF := jbF_frm o hoo (nth ls i)
    have hP := pack_ok hF
    have hS := psame_ok o (jbF o (nth ls i))
    have hat := jbF_at o (nth ls i) hx
    have hn : nth its i = itmD o (jbF o (nth ls i)) := by
      rw [eI, nth_map _ _ _ (by omega), hXn i hi]
    exact lt_step ls o its ls.length i (by omega) hil.symm hil hi hx.c.1 hx.c.2 _ hJ _ (by rw [hn]; exact hP) (by rw [hn]; exact hS) (by rw [hn]; exact hat) (by rw [hn]; rfl)) (lt_end ls o its ls.length (by omega)) 0 (by omega)
  -- the first part, the second part
  obtain ⟨B1, e1⟩ : ∃ B1, B.extract 0 k = B1 := ⟨_, rfl⟩
  obtain ⟨B2, e2⟩ : ∃ B2, B.extract k B.size = B2 := ⟨_, rfl⟩
  have eB : B1 ++ B2 = B := by
    rw [← e1, ← e2, ByteArray.extract_append_extract]
    rw [show min 0 k = 0 by omega, show max k B.size = B.size by omega, ByteArray.extract_zero_size]
  have s1 : B1.size = k := by rw [← e1, ByteArray.size_extract]; omega
  have s2 : B2.size = B.size - k := by rw [← e2, ByteArray.size_extract]; omega
  have eE : ∀ Z : ByteArray, (⟨#[]⟩ : ByteArray) ++ Z = Z := fun Z => ByteArray.empty_append
  have eM : ∀ Z : ByteArray, Z.extract Z.size Z.size = ⟨#[]⟩ := fun Z => by
    have : Z.extract Z.size Z.size = ByteArray.empty := by rw [ByteArray.extract_eq_empty_iff]; omega
    exact this
  by_cases h4 : k < 4
  · have F1 : Pure Tryd.prog G1 15 [smA false false 0 ⟨#[]⟩, st B1] (.tup [smA false false 0 B1, .nsl]) [] := by
      have := (feed_none 0 ⟨#[]⟩ B1 (by rw [s1]; show 0 + k ≤ _; omega) (by rw [eE]; exact begin_s 0 false B1 (by omega))).lay [] [] (by kernel_rfl) (by kernel_rfl) trivial
      rw [eE] at this
      exact this
    have F2 := feed_ok hX hoo (c := (catB X).size) (Nat.le_refl _) false 0 B1 B2 (by rw [s1, s2]; omega) (by
      rw [ByteArray.extract_zero_size]
      exact beg_at o hoo 0 _ _ (by rw [eB, hB]) (by omega))
    rw [whole_all, offs_all, eM, List.take_length, ← eI] at F2
    unfold itsA itsB at F2
    rw [hXl, hil] at F2
    by_cases hz : ls.length = 0
    · rw [if_pos hz, if_pos hz] at F2
      exact top_00 ls q cut o k B B1 B2 B1 false 0 hz a h20 ho (by omega) (by omega) hb L1 c0 c1 hk hk2 (by omega) e1 e2 F1 F2 (lt0_end ls o hz)
    · rw [if_neg hz, if_neg hz] at F2
      exact top_0n ls q cut o k B B1 B2 B1 false 0 its ls.length hil.symm rfl (by omega) a h20 ho (by omega) (by omega) hb L1 c0 c1 hk hk2 (by omega) e1 e2 F1 F2 L2
  · obtain ⟨c, rfl⟩ : ∃ c, k = 4 + c := ⟨k - 4, by omega⟩
    have hc : c ≤ (catB X).size := by omega
    have b1 : B1 = begB o ++ (catB X).extract 0 c := by rw [← e1, hB, beg_head]
    have b2 : B2 = (catB X).extract c (catB X).size := by rw [← e2, hBs, hB, beg_ext4]
    have F1 := feed_ok hX hoo hc false 0 ⟨#[]⟩ B1 (by rw [s1]; show 0 + (4 + c) ≤ _; omega) (by
      rw [eE]
      exact beg_at o hoo 0 _ _ b1 (by rw [beg_size hc]; omega))
    obtain ⟨w1, w2, w3⟩ := whole_le X c
    obtain ⟨w, hw⟩ : ∃ w, whole X c = w := ⟨_, rfl⟩
    rw [hw] at F1 w1 w2 w3
    have hD := hX.drop w
    have eT : (catB X).extract (offs X w) c ++ B2 = catB (X.drop w) := by
      rw [b2, ByteArray.extract_append_extract, show min (offs X w) c = offs X w by omega, show max c (catB X).size = (catB X).size by omega, cat_tail]
    have hDb := hD.bd
    have F2 := feed_ok hD hoo (c := (catB (X.drop w)).size) (Nat.le_refl _) true o ((catB X).extract (offs X w) c) B2 (by rw [s2, ByteArray.size_extract]; omega) (by
      rw [ByteArray.extract_zero_size, eT]
      exact begin_b o false _)
    rw [whole_all, offs_all, eM, List.take_length] at F2
    unfold itsA itsB at F1 F2
    have l1 : ((X.take w).map (itmD o)).length = w := by rw [List.length_map, List.length_take]; omega
    have l2 : ((X.drop w).map (itmD o)).length = ls.length - w := by rw [List.length_map, List.length_drop]; omega
    rw [l1] at F1
    rw [l2, List.length_drop, hXl] at F2
    have hap : (X.take w).map (itmD o) ++ (X.drop w).map (itmD o) = its := by rw [← List.map_append, List.take_append_drop, eI]
    by_cases z1 : w = 0
    · subst z1
      rw [if_pos rfl, if_pos rfl] at F1
      rw [Nat.sub_zero, List.drop_zero, ← eI] at F2
      by_cases z2 : ls.length = 0
      · rw [if_pos z2, if_pos z2] at F2
        exact top_00 ls q cut o _ B B1 B2 _ true o z2 a h20 ho (by omega) (by omega) hb L1 c0 c1 hk hk2 (by omega) e1 e2 F1 F2 (lt0_end ls o z2)
      · rw [if_neg z2, if_neg z2] at F2
        exact top_0n ls q cut o _ B B1 B2 _ true o its ls.length hil.symm rfl (by omega) a h20 ho (by omega) (by omega) hb L1 c0 c1 hk hk2 (by omega) e1 e2 F1 F2 L2
    · rw [if_neg z1, if_neg z1] at F1
      by_cases z2 : ls.length - w = 0
      · have : w = ls.length := by omega
        subst this
        rw [if_pos z2, if_pos z2] at F2
        have eX2 : X.take ls.length = X := eA
        rw [eX2, ← eI] at F1
        exact top_m0 ls q cut o _ B B1 B2 _ true o its ls.length hil.symm rfl (by omega) a h20 ho (by omega) (by omega) hb L1 c0 c1 hk hk2 (by omega) e1 e2 F1 F2 L2
      · rw [if_neg z2, if_neg z2] at F2
        have hsum : w + (ls.length - w) = ls.length := by omega
        refine top_mn ls q cut o _ B B1 B2 _ true o _ _ w (ls.length - w) l1.symm l2.symm hsum (by omega) (by omega) a h20 ho (by omega) (by omega) hb L1 c0 c1 hk hk2 (by omega) e1 e2 F1 F2 ?_
        rw [hap, hsum]
        exact L2
end Go.Proofs.YtcnlgdbmcdlknaaDoor.Fo
set_option linter.unusedVariables false
set_option maxRecDepth 100000
namespace Go.Proofs.YtcnlgdbmcdlknaaDoor.Fo
open Go.RowKit Go.Pm
section
variable {P : Program} {W : World} {H : Type} {enc : TypeId × Value → H} {spare : Nat → Bool} {held : Bool}
/-- an array of whole numbers -/
theorem ints_open {fuel base : Nat} {t e : TypeId} {k : IntKind} {cs : List Value} {ns : List Int} {p : List MemPlace} (ht : P.underlying t = some (.array ns.length e)) (he : P.underlying e = some (.int k)) (hce : P.cellsOf e = 1) (hct : P.cellsOf t = ns.length)
    (h : DataW.trod enc P W base spare held fuel t cs = some (.agg (ns.map fun n => .lit (.int k n)), p)) : cs = ns.map (Value.int k) := by
  obtain ⟨xs, n, _, hx, hl, hxl, hall⟩ := DataW.trod_array ht h
  have hd : xs.map (·.1) = ns.map fun n => DataW.lit (.int k n) := by
    have := congrArg Prod.fst hx
    simpa using this.symm
  rw [hct] at hl
  apply List.ext_getElem?
  intro i
  by_cases hi : i < ns.length
  · have hg := hall i hi
    rw [hce, List.getElem?_eq_getElem (by omega)] at hg
    obtain ⟨z, hz, hzx, _⟩ := DataW.trod_int he hg
    have hdi := congrArg (fun l => l[i]?) hd
    simp only [List.getElem?_map, List.getElem?_eq_getElem (show i < xs.length by omega), List.getElem?_eq_getElem hi, Option.map_some, Option.some.injEq] at hdi
    rw [hzx] at hdi
    simp only [DataW.lit.injEq, Lit.int.injEq] at hdi
    have hci : (cs.drop (i * 1)).take 1 = [cs[i]'(by omega)] := by rw [Nat.mul_one, List.drop_eq_getElem_cons (by omega)]; rfl
    rw [hci] at hz
    simp only [List.cons.injEq, and_true] at hz
    rw [List.getElem?_eq_getElem (by omega), List.getElem?_map, List.getElem?_eq_getElem hi, hz]
    simp [hdi.2]
  · rw [List.getElem?_eq_none (by omega), List.getElem?_eq_none (by simp; omega)]
end
def spansRows : List (List (IntKind × Int)) := table.map fun s => [(.i64, s.size), (.i64, s.low), (.i64, s.high)]
def vsC : List Value := spansRows.flatMap fun r => r.map fun p => Value.int p.1 p.2
def sizesN : List Int := [1, 2, 4, -1, -2, -4]
def szC : List Value := sizesN.map (Value.int .i64)
def spaceN : List Int := (List.range 256).map fun i => if Lib.isSp (UInt8.ofNat i) then 1 else 0
def spC : List Value := spaceN.map (Value.int .u8)
theorem spans_vs : spansC = vsC.map AV.s := rfl
theorem sizes_vs : sizesC = szC.map AV.s := rfl
theorem space_vs : spaceC = spC.map AV.s := by
  unfold spaceC spC spaceN
  rw [List.map_map, List.map_map]
  rfl
theorem cells_ptr {W : World} {nm : String} {g : Nat} {cs : Array Value} {vs : List Value} (hn : Tryd.prog.globalNamed nm = some g) (hvar : W.var? Tryd.prog nm = some cs) (hc : cs.toList = vs) (hone : ∀ u ∈ vs, u.oneCell' = true) {cl : List AV} (he : cl = vs.map AV.s) :
    VR (memOf W) Nm.none (.fptr cl) (.pointer (some ⟨g, 0, none⟩)) := by
  have hcell : ∀ (i : Nat) c, cl[i]? = some c → ∃ v, vs[i]? = some v ∧ c = .s v := by
    intro i c hi
    rw [he, List.getElem?_map, Option.map_eq_some_iff] at hi
    obtain ⟨v, h1, rfl⟩ := hi
    exact ⟨v, h1, rfl⟩
  refine .fptr (fun i => vs.getD i undef) (fun i c hi => ?_) (fun i c hi => ?_)
  · obtain ⟨v, h1, rfl⟩ := hcell i c hi
    have hw := World.var?_cell hn hvar i
    rw [← Array.getElem?_toList, hc, h1] at hw
    rw [Nat.zero_add, List.getD_eq_getElem?_getD, h1]
    exact memOf_cell hw (hone v (List.mem_of_getElem? h1))
  · obtain ⟨v, h1, rfl⟩ := hcell i c hi
    rw [List.getD_eq_getElem?_getD, h1]
    exact .s _ _
theorem one_ints (k : IntKind) (l : List Int) : ∀ u ∈ l.map (Value.int k), u.oneCell' = true := by
  intro u hu
  obtain ⟨n, _, rfl⟩ := List.mem_map.1 hu
  rfl
theorem glob_ok {W : World} (h : laidMet Tryd.prog Rows.topLiesRow.laid W) : GlobR G1 (memOf W) := by
  obtain ⟨ps, hv, _⟩ := h
  obtain ⟨g1, t1, cs1, f1, p1, q1, hg1, ht1, hvar1, hd1, hrest1, _⟩ := hv
  obtain ⟨g2, t2, cs2, f2, p2, q2, hg2, ht2, hvar2, hd2, hrest2, _⟩ := hrest1
  obtain ⟨g3, t3, cs3, f3, p3, q3, hg3, ht3, hvar3, hd3, hrest3, _⟩ := hrest2
  obtain ⟨g4, t4, cs4, f4, p4, q4, hg4, ht4, hvar4, hd4, _, _⟩ := hrest3
  obtain rfl : g1 = 3 := (Option.some.inj ((show Tryd.prog.globalNamed "glazier/order.spans" = some 3 by kernel_rfl).symm.trans hg1)).symm
  obtain rfl : g3 = 1 := (Option.some.inj ((show Tryd.prog.globalNamed "strings.asciiSpace" = some 1 by kernel_rfl).symm.trans hg3)).symm
  obtain rfl : g4 = 4 := (Option.some.inj ((show Tryd.prog.globalNamed "glazier/format.sizes" = some 4 by kernel_rfl).symm.trans hg4)).symm
  obtain rfl : t1 = 165 := (Option.some.inj ((show (Tryd.prog.globals[3]?).map (·.type) = some 165 by kernel_rfl).symm.trans ht1)).symm
  obtain rfl : t3 = 143 := (Option.some.inj ((show (Tryd.prog.globals[1]?).map (·.type) = some 143 by kernel_rfl).symm.trans ht3)).symm
  obtain rfl : t4 = 179 := (Option.some.inj ((show (Tryd.prog.globals[4]?).map (·.type) = some 179 by kernel_rfl).symm.trans ht4)).symm
  obtain ⟨fs, hfs, hsz⟩ : ∃ fs, Tryd.prog.underlying 149 = some (.struct fs) ∧ (fs.size = 3 ∧ ∀ (i : Nat) f, fs[i]? = some f → f.offset = i ∧ Tryd.prog.cellsOf f.type = 1 ∧ ∃ k, Tryd.prog.underlying f.type = some (.int k)) := by
    refine ⟨_, Tryd.underlying149, rfl, fun i f hi => ?_⟩
    have hlt := (Array.getElem?_eq_some_iff.1 hi).1
    match i, hlt, hi with
    | 0, _, hi => cases hi; exact ⟨rfl, by kernel_rfl, _, Tryd.underlying3⟩
    | 1, _, hi => cases hi; exact ⟨rfl, by kernel_rfl, _, Tryd.underlying2⟩
    | 2, _, hi => cases hi; exact ⟨rfl, by kernel_rfl, _, Tryd.underlying2⟩
  have c1 : cs1.toList = vsC := rows_open (rows := spansRows) (sz := 3) Tryd.underlying165 hfs (by kernel_rfl) (by kernel_rfl) (by decide) hsz.1 hsz.2 hd1
  have c3 : cs3.toList = spC := ints_open (ns := spaceN) Tryd.underlying143 Tryd.underlying5 (by kernel_rfl) (by kernel_rfl) hd3
  have c4 : cs4.toList = szC := ints_open (ns := sizesN) Tryd.underlying179 Tryd.underlying3 (by kernel_rfl) (by kernel_rfl) hd4
  intro g cs' hG
  unfold G1 at hG
  split at hG
  · rename_i e
    subst e
    cases hG
    exact cells_ptr (by kernel_rfl) hvar3 c3 (one_ints _ _) space_vs
  · split at hG
    · rename_i e
      subst e
      cases hG
      exact cells_ptr (by kernel_rfl) hvar1 c1 (by decide) spans_vs
    · split at hG
      · rename_i e
        subst e
        cases hG
        exact cells_ptr (by kernel_rfl) hvar4 c4 (one_ints _ _) sizes_vs
      · cases hG
theorem bds16 {n : Int} (hw : (Lit.int .u16 n).wf = true) : 0 ≤ n ∧ n ≤ 65535 := by
  simp [Lit.wf, IntKind.min, IntKind.max, IntKind.signed, IntKind.bits] at hw; omega
theorem bds8 {n : Int} (hw : (Lit.int .u8 n).wf = true) : 0 ≤ n ∧ n ≤ 255 := by
  simp [Lit.wf, IntKind.min, IntKind.max, IntKind.signed, IntKind.bits] at hw; omega
theorem fits_lies {cs : List AV} (h : Fits (.sl (.seq (.int .u8) (.seq (.int .u8) (.seq (.int .u8) (.seq .str .unit))))) cs) : ∃ l : List Li, cs = [slL l] ∧ ∀ x ∈ l, x.Ok := by
  obtain ⟨l, h1, _, h2⟩ := fits_list (enc := liE) (Q := Li.Ok) (fun cs hc => by
    obtain ⟨x1, y1, rfl, ⟨a, rfl, ha⟩, x2, y2, rfl, ⟨b, rfl, hb⟩, x3, y3, rfl, ⟨c, rfl, hc⟩, x4, y4, rfl, ⟨s, rfl, _⟩, rfl⟩ := hc
    exact ⟨⟨a, b, c, s⟩, rfl, ⟨bds8 ha, bds8 hb, bds8 hc⟩⟩) h
  exact ⟨l, h1, h2⟩
/-- the ranges of unicode.White_Space -/
def whiteN : List Int := [9, 13, 1, 32, 133, 101, 160, 5760, 5600, 8192, 8202, 1, 8232, 8233, 1, 8239, 8287, 48, 12288, 12288, 1]
end Go.Proofs.YtcnlgdbmcdlknaaDoor.Fo
