/- The machine of plain values: the law of a region that draws its order. By the prover of this seat. -/
import Derived.Test.YtjjmidhpilmnbaaDoorPm24
set_option linter.unusedVariables false
namespace Go.Pm
open Go Go.RowKit
section
variable {w0 : World}
theorem putsAll_step (a0 : Act) (x : Nat → Value) (o : Oper) (l : List Oper) (k : Nat) : putsAll a0 x (o :: l) k = putsAll (a0.put o.dst (x k)) x l (k + 1) := by
  simp [putsAll, List.zipIdx_cons]
theorem draw_ok {C : Cx} {hs : Nat → Hint} {id : Nat} {ops : Array Oper} {Q : Exit → Act → World → Prop} {t t' : List AV} {A A' : List Bk} {es : List En} {ps : List Prop} (h : tr C hs ops.toList 0 ops.toList t A = some (t', A', es, ps)) (hp : allP ps) (hd : drawOk C.P hs ops.toList es = true)
    {ρ0 : Nm} {M0 : Mem} {a : Act} {W : World} (hR : Rel C w0 ρ0 M0 ⟨t, A⟩ a W) (hQ : ∀ ρ' M' a' W', M0.le M' → ρ0.le ρ' → Fresh M0 M' w0.heap.size → Rel C w0 ρ' M' ⟨t', A'⟩ a' W' → Q .normal a' W') :
    (Code.region id ops true).wp C.P Q a W := by
  obtain ⟨T, B, T0, B0, Tn, Bn, hlen, hst⟩ := tr_steps _ _ _ _ _ _ _ _ h hp
  unfold drawOk at hd
  simp only [Bool.and_eq_true] at hd
  obtain ⟨⟨⟨⟨⟨hm, hheap⟩, hac⟩, hnd⟩, hslots⟩, hclash⟩ := hd
  have hn : ops.toList.length = ops.size := by simp
  have hac' : ∀ (m : Nat) o, ops.toList[m]? = some o → ∀ e ∈ o.after.toList, Region.binds .any e = true → e.on < m := by
    intro m o ho e he hb
    have h1 := List.all_eq_true.1 hac (o, m) (by rw [List.mem_zipIdx_iff_getElem?]; exact ho)
    have h2 := List.all_eq_true.1 h1 e he
    simpa [hb] using h2
  -- the entries
  let E : Nat → En := fun k => es.getD k default
  have hE : ∀ (k : Nat) o, ops.toList[k]? = some o → es[k]? = some (E k) ∧ StepOk C (hs k) ops.toList (T k) (T (k + 1)) (B k) (B (k + 1)) (E k) o := by
    intro k o ho
    obtain ⟨en, h1, h2⟩ := hst k o ho
    have : E k = en := by simp [E, List.getD, h1]
    rw [this]
    rw [Nat.zero_add] at h2
    exact ⟨h1, h2⟩
  have hop : ∀ k, k < ops.size → ∃ o, ops.toList[k]? = some o := fun k hk => ⟨ops.toList[k]'(by omega), by simp⟩
  have hB : ∀ k, k < ops.size → B (k + 1) = putW (B k) (E k).w := fun k hk => by
    obtain ⟨o, ho⟩ := hop k hk
    exact (hE k o ho).2.2.1
  have hT : ∀ (k : Nat) o, ops.toList[k]? = some o → T (k + 1) = putT (T k) o.dst (E k).v := fun k o ho => (hE k o ho).2.1
  have hBlen : ∀ k, k ≤ ops.size → A.length ≤ (B k).length := by
    intro k
    induction k with
    | zero => intro _; rw [B0]; exact Nat.le_refl _
    | succ k ih => intro hk; rw [hB k (by omega)]; exact Nat.le_trans (ih (by omega)) (len_putW _ _)
  have hBmono : ∀ d k, k + d ≤ ops.size → (B k).length ≤ (B (k + d)).length := by
    intro d
    induction d with
    | zero => intro k _; exact Nat.le_refl _
    | succ d ih => intro k hk; show _ ≤ (B (k + d + 1)).length; rw [hB (k + d) (by omega)]; exact Nat.le_trans (ih k (by omega)) (len_putW _ _)
  -- who writes a slot
  have uniq : ∀ (i j : Nat) (oi oj : Oper) (d : Tmp), ops.toList[i]? = some oi → ops.toList[j]? = some oj → oi.dst = some d → oj.dst = some d → i = j := by
    have hnn := of_decide_eq_true hnd
    have key : ∀ (l : List Oper), (l.filterMap (·.dst)).Nodup → ∀ (i j : Nat) (oi oj : Oper) (d : Tmp), l[i]? = some oi → l[j]? = some oj → oi.dst = some d → oj.dst = some d → i = j := by
      intro l
      induction l with
      | nil => intro _ i j oi oj d h; simp at h
      | cons o r ih =>
        intro hn i j oi oj d hi hj hdi hdj
        have hr : (r.filterMap (·.dst)).Nodup := by
          rw [List.filterMap_cons] at hn
          split at hn
          · exact hn
          · exact (List.nodup_cons.1 hn).2
        have hno : ∀ (k : Nat) (ok : Oper), o.dst = some d → r[k]? = some ok → ok.dst = some d → False := by
          intro k ok h1 h2 h3
          rw [List.filterMap_cons, h1] at hn
          exact (List.nodup_cons.1 hn).1 (List.mem_filterMap.2 ⟨ok, List.mem_of_getElem? h2, h3⟩)
        cases i with
        | zero =>
          cases j with
          | zero => rfl
          | succ j => simp at hi hj; subst hi; exact (hno j oj hdi hj hdj).elim
        | succ i =>
          cases j with
          | zero => simp at hi hj; subst hj; exact (hno i oi hdj hi hdi).elim
          | succ j => simp at hi hj; rw [ih hr i j oi oj d hi hj hdi hdj]
    exact key _ hnn
  -- a slot in the text's order
  have Tkeep : ∀ (d : Tmp) (n k : Nat), k + n ≤ ops.size → (∀ (m : Nat) o, k ≤ m → m < k + n → ops.toList[m]? = some o → o.dst ≠ some d) → (T (k + n))[d]? = (T k)[d]? := by
    intro d n
    induction n with
    | zero => intro k _ _; rfl
    | succ n ih =>
      intro k hk hno
      obtain ⟨o, ho⟩ := hop (k + n) (by omega)
      show (T (k + n + 1))[d]? = _
      rw [hT (k + n) o ho, ← ih k (by omega) fun m o' h1 h2 h3 => hno m o' h1 (by omega) h3]
      have hne := hno (k + n) o (by omega) (by omega) ho
      cases hdst : o.dst with
      | none => rfl
      | some q =>
        have : q ≠ d := fun e => hne (by rw [hdst, e])
        simp [putT, List.getElem?_set, this]
  -- closed sets
  let pr := preds ops.toList
  refine wp_region_og hm (fun s x W' => (∀ j, j < ops.size → s j = true → ∀ k ∈ pr.getD j [], s k = true) ∧ ∃ ρ M, M0.le M ∧ ρ0.le ρ ∧ Fresh M0 M w0.heap.size ∧ WR w0 ρ M (AS A E s ops.size) W' ∧ (∀ j, j < ops.size → s j = true → VR M ρ (E j).v (x j)) ∧
      (∀ i y, ρ i = some y → i < A.length ∨ ∃ j, j < ops.size ∧ s j = true ∧ i ∈ ids (E j).w)) hac hnd ?_ ?_ ?_
  · intro x
    refine ⟨fun j hj hsj => by simp [hj] at hsj, ρ0, M0, Mem.le.refl _, Nm.le.refl _, Fresh.refl _ _, ?_, fun j hj hsj => by simp [hj] at hsj, fun i y hi => .inl (hR.wr.dom i y hi)⟩
    rw [AS_none _ fun m hm => by simp [hm]]
    exact hR.wr.drew
  · rintro i o ho s x a1 W1 hsi hdep hP ⟨hcl, ρ, M, hM, hr, hfr, hwr, hvals, hdom⟩
    have ho' : ops.toList[i]? = some o := by simpa using ho
    have hi : i < ops.size := by
      rcases Nat.lt_or_ge i ops.size with h | h
      · exact h
      · simp [Array.getElem?_eq_none h] at ho
    obtain ⟨hei, hT1, hB1, hcase⟩ := hE i o ho'
    -- what stands ahead has run; what stands behind has not
    have ahead : ∀ k ∈ pr.getD i [], s k = true := by
      intro k hk
      obtain ⟨e, he, hb, h⟩ := preds_spec hac' ho' hk
      have hlt := hac' i o ho' e he hb
      have hse := hdep e he hb
      rcases h with rfl | h
      · exact hse
      · exact hcl e.on (by omega) hse k h
    have behind : ∀ k, k < ops.size → i ∈ pr.getD k [] → s k = false := by
      intro k hk hin
      cases hsk : s k with
      | false => rfl
      | true => rw [hcl k hk hsk i hin] at hsi; cases hsi
    -- two operations that touch one block
    have touch : ∀ k, k < ops.size → k ≠ i → ∀ b, b ∈ ids (E k).w → (b ∈ (E i).r ∨ b ∈ ids (E i).w) → (k < i ∧ s k = true) ∨ (i < k ∧ s k = false) := by
      intro k hk hne b hb hb'
      obtain ⟨ok, hok⟩ := hop k hk
      have hek := (hE k ok hok).1
      rcases Nat.lt_or_ge k i with hlt | hge
      · left
        refine ⟨hlt, ?_⟩
        have := noClash_spec es 0 hclash k i _ _ hlt hek hei
        simp only [pairOk, Nat.zero_add, Bool.or_eq_true, Bool.and_eq_true, Bool.not_eq_true', List.contains_eq_mem, decide_eq_true_eq] at this
        rcases this with h | ⟨h1, h2⟩
        · exact ahead k h
        · exact (meets_no h1 b hb (by rcases hb' with h | h; exact List.mem_append_left _ h; exact List.mem_append_right _ h)).elim
      · right
        refine ⟨by omega, ?_⟩
        have := noClash_spec es 0 hclash i k _ _ (by omega) hei hek
        simp only [pairOk, Nat.zero_add, Bool.or_eq_true, Bool.and_eq_true, Bool.not_eq_true', List.contains_eq_mem, decide_eq_true_eq] at this
        rcases this with h | ⟨h1, h2⟩
        · exact behind k hk h
        · rcases hb' with h | h
          · exact (meets_no h2 b hb h).elim
          · exact (meets_no h1 b h (List.mem_append_right _ hb)).elim
    -- the slots that it names
    have slot : ∀ d ∈ named ops.toList o, ∀ c, (T i)[d]? = some c → ∃ u, a1.tmps[d]? = some u ∧ VR M ρ c u := by
      intro d hdn c hc
      have base : (T i)[d]? = (T 0)[d]? → a1.tmps[d]? = a.tmps[d]? → ∃ u, a1.tmps[d]? = some u ∧ VR M ρ c u := by
        intro e1 e2
        rw [e1, T0] at hc
        obtain ⟨u, hu, hrel⟩ := hR.slots.get hc
        exact ⟨u, by rw [e2]; simpa using hu, hrel.mono hM hr⟩
      by_cases hex : ∃ (m : Nat) (om : Oper), ops.toList[m]? = some om ∧ om.dst = some d
      · obtain ⟨m, om, hom, hdm⟩ := hex
        have hom' : ops[m]? = some om := by simpa using hom
        have hms : m < ops.size := by have := (List.getElem?_eq_some_iff.1 hom).1; omega
        have late : i ≤ m → s m = false → ∃ u, a1.tmps[d]? = some u ∧ VR M ρ c u := by
          intro him hsm
          refine base ?_ (hP.rest d fun j oj hj hjd => ?_)
          · have := Tkeep d i 0 (by omega) (fun m' o' h1 h2 h3 h4 => by have := uniq m' m o' om d h3 hom h4 hdm; omega)
            rwa [Nat.zero_add] at this
          · have := uniq j m oj om d (by simpa using hj) hom hjd hdm
            rw [this]; exact hsm
        by_cases hmi : m = i
        · subst hmi; exact late (Nat.le_refl _) hsi
        · rcases slotsOk_spec hslots ho' hom (Ne.symm hmi) hdm hdn with h | h
          · have hlt := preds_lt hac' i ho' h
            have hsm := ahead m h
            have e1 := Tkeep d (i - (m + 1)) (m + 1) (by omega) (fun m' o' h1 h2 h3 h4 => by have := uniq m' m o' om d h3 hom h4 hdm; omega)
            rw [show m + 1 + (i - (m + 1)) = i by omega, hT m om hom] at e1
            rw [e1] at hc
            simp only [putT, hdm, List.getElem?_set, if_true] at hc
            split at hc
            · rename_i hdl
              cases hc
              have hTl : (T m).length = a.tmps.size := by
                have key : ∀ k, k ≤ ops.size → (T k).length = t.length := by
                  intro k
                  induction k with
                  | zero => intro _; rw [T0]
                  | succ k ih =>
                    intro hk
                    obtain ⟨ok, hok⟩ := hop k (by omega)
                    rw [hT k ok hok]
                    have : ∀ (l : List AV) d v, (putT l d v).length = l.length := by intro l d v; cases d <;> simp [putT]
                    rw [this, ih (by omega)]
                rw [key m (by omega)]
                have := hR.slots.len
                simpa using this
              have hda : d < a.tmps.size := by
                rw [← hTl]
                exact hdl
              exact ⟨x m, hP.got m om d hom' hdm hsm hda, hvals m hms hsm⟩
            · cases hc
          · have hlt := preds_lt hac' m hom h
            exact late (by omega) (behind m hms h)
      · refine base ?_ (hP.rest d fun j oj hj hjd => absurd ⟨j, oj, by simpa using hj, hjd⟩ hex)
        have := Tkeep d i 0 (by omega) (fun m' o' h1 h2 h3 h4 => absurd ⟨m', o', h3, h4⟩ hex)
        rwa [Nat.zero_add] at this
    have hcl' : ∀ j, j < ops.size → mark s i j = true → ∀ k ∈ pr.getD j [], mark s i k = true := by
      intro j hj hmj k hk
      by_cases hji : j = i
      · subst hji
        have := ahead k hk
        by_cases hki : k = j
        · rw [hki]; exact mark_self _ _
        · rw [mark_other hki]; exact this
      · rw [mark_other hji] at hmj
        have := hcl j hj hmj k hk
        by_cases hki : k = i
        · rw [hki]; exact mark_self _ _
        · rw [mark_other hki]; exact this
    have hmark : AS A E (mark s i) ops.size = putW (AS A E s ops.size) (E i).w := by
      refine AS_mark hi hsi fun k h1 h2 hsk b hb1 hb2 => ?_
      rcases touch k h2 (by omega) b hb2 (.inr hb1) with ⟨h, _⟩ | ⟨_, h⟩
      · omega
      · rw [h] at hsk; cases hsk
    have fin : ∀ u W' ρ' M', M.le M' → ρ.le ρ' → WR w0 ρ' M' (putW (AS A E s ops.size) (E i).w) W' → VR M' ρ' (E i).v u → Fresh M M' w0.heap.size → (∀ k y, ρ' k = some y → ρ k = some y ∨ k ∈ (E i).w.map (·.1)) →
        (∀ j, j < ops.size → mark s i j = true → ∀ k ∈ pr.getD j [], mark s i k = true) ∧ ∃ ρ M, M0.le M ∧ ρ0.le ρ ∧ Fresh M0 M w0.heap.size ∧ WR w0 ρ M (AS A E (mark s i) ops.size) W' ∧ (∀ j, j < ops.size → mark s i j = true → VR M ρ (E j).v (setv x i u j)) ∧
          (∀ k y, ρ k = some y → k < A.length ∨ ∃ j, j < ops.size ∧ mark s i j = true ∧ k ∈ ids (E j).w) := by
      intro u W' ρ' M' q1 q2 q3 q4 q5 q6
      refine ⟨hcl', ρ', M', hM.trans q1, hr.trans q2, hfr.trans q5, by rw [hmark]; exact q3, fun j hj hmj => ?_, fun k y hk => ?_⟩
      · by_cases hji : j = i
        · subst hji; rw [setv_self]; exact q4
        · rw [mark_other hji] at hmj
          rw [setv_other hji]
          exact (hvals j hj hmj).mono q1 q2
      · rcases q6 k y hk with h | h
        · rcases hdom k y h with h | ⟨j, h1, h2, h3⟩
          · exact .inl h
          · refine .inr ⟨j, h1, ?_, h3⟩
            by_cases hji : j = i
            · rw [hji]; exact mark_self _ _
            · rw [mark_other hji]; exact h2
        · exact .inr ⟨i, hi, mark_self _ _, h⟩
    have hgl : GlobR C.G M := fun g cs hg => (hR.glob g cs hg).mono hM (Nm.le.refl _)
    unfold wpList
    rcases hcase with ⟨hw, hen⟩ | ⟨hw, ps1, hp1, hev, hrid⟩
    · have hwn := want_at hw slot
      simp only [Array.toArray_toList] at hwn
      rw [if_neg (by rw [hwn]; simp)]
      unfold wpList
      refine ⟨undef, rfl, fin undef W1 ρ M (Mem.le.refl _) (Nm.le.refl _) (by rw [hen]; exact hwr) (by rw [hen]; exact .mkTup (vs := []) L2.nil) (Fresh.refl _ _) fun k y h => .inl h⟩
    · have hwn := want_at hw slot
      simp only [Array.toArray_toList] at hwn
      rw [if_pos hwn]
      have hh : (hs i).heap = none := by
        have := List.all_eq_true.1 hheap i (List.mem_range.2 (by omega))
        simpa using this
      have hal : ∀ b ∈ rIds (evalA C (T i)) o.op, Alike (fun j => (B i)[j]?) (fun j => (AS A E s ops.size)[j]?) b := by
        intro b hb
        rw [← hrid] at hb
        unfold Alike
        have e1 := AS_beyond (A0 := A) (E := E) (s := s) (id := b) (i := i) (ops.size - i) (fun m h1 h2 hid => by
          by_cases hmi : m = i
          · rw [hmi]; exact hsi
          · rcases touch m (by omega) hmi b hid (.inl hb) with ⟨h, _⟩ | ⟨_, h⟩
            · omega
            · exact h)
        rw [show i + (ops.size - i) = ops.size by omega] at e1
        have upto : ∀ k, k ≤ i → ((AS A E s k)[b]?).getD .dead = ((B k)[b]?).getD .dead := by
          intro k
          induction k with
          | zero => intro _; rw [B0]; rfl
          | succ k ih =>
            intro hk
            have ih' := ih (by omega)
            rw [hB k (by omega), getD_putW]
            conv => lhs; unfold AS
            split
            · rw [getD_putW, ih']
            · rename_i hsk
              have hn : lastW (E k).w b = none := lastW_none fun hid => by
                rcases touch k (by omega) (by omega) b hid (.inl hb) with ⟨_, h⟩ | ⟨h, _⟩
                · exact hsk h
                · omega
              rw [hn, ih']; rfl
        show ((B i)[b]?).getD .dead = ((AS A E s ops.size)[b]?).getD .dead
        rw [e1, upto i (Nat.le_refl _)]
      rw [opEval_congr (H' := AS A E s ops.size) hh hal] at hev
      refine .inl (op_ok hwr hgl (fun j hj hle => ?_) (fun y hy => eval_at slot hgl y hy) hev hp1 ?_)
      · cases hrj : ρ j with
        | none => rfl
        | some y =>
          exfalso
          rcases hdom j y hrj with h | ⟨k, h1, h2, h3⟩
          · have := hBlen i (by omega); omega
          · have hki : k ≠ i := fun e => by rw [e, hsi] at h2; cases h2
            rcases touch k h1 hki j h3 (.inr hj) with ⟨h, _⟩ | ⟨_, h⟩
            · have l1 := hBmono (i - (k + 1)) (k + 1) (by omega)
              rw [show k + 1 + (i - (k + 1)) = i by omega] at l1
              have l2 : j < (B (k + 1)).length := by
                rw [hB k h1, len_putW_eq]
                have := mem_lt_maxW h3
                omega
              omega
            · rw [h] at h2; cases h2
      · intro u W' ρ' M' q1 q2 q3 q4 q5 q6
        unfold wpList
        exact ⟨u, rfl, fin u W' ρ' M' q1 q2 q3 q4 q5 q6⟩
  · rintro s x W1 hall ⟨hcl, ρ, M, hM, hr, hfr, hwr, hvals, hdom⟩
    rw [AS_all B0 ops.size hB hall ops.size (Nat.le_refl _)] at hwr
    have hBn : B ops.size = A' := by rw [← hn]; exact Bn
    rw [hBn] at hwr
    have key : ∀ (l : List Oper) (k : Nat) (a2 : Act), l = ops.toList.drop k → k + l.length = ops.size → L2 (VR M ρ) (T k) a2.tmps.toList → a2.defers = [] → L2 (VR M ρ) (T ops.size) (putsAll a2 x l k).tmps.toList ∧ (putsAll a2 x l k).defers = [] := by
      intro l
      induction l with
      | nil =>
        intro k a2 _ hk h1 h2
        simp at hk
        subst hk
        exact ⟨h1, h2⟩
      | cons o l ih =>
        intro k a2 hl hk h1 h2
        have hko : ops.toList[k]? = some o := by
          have : (ops.toList.drop k)[0]? = some o := by rw [← hl]; rfl
          simpa using this
        rw [putsAll_step]
        refine ih (k + 1) _ ?_ (by simp at hk; omega) ?_ (by rw [put_defers]; exact h2)
        · have : ops.toList.drop (k + 1) = (ops.toList.drop k).drop 1 := by rw [List.drop_drop]
          rw [this, ← hl]; rfl
        · rw [hT k o hko]
          have hks : k < ops.size := by simp at hk; omega
          exact put_slots h1 o.dst (hvals k hks (hall k hks))
    obtain ⟨k1, k2⟩ := key ops.toList 0 a rfl (by omega) (by rw [T0]; exact hR.slots.mono hM hr) hR.defers
    have hTn : T ops.size = t' := by rw [← hn]; exact Tn
    rw [hTn] at k1
    refine hQ ρ M _ W1 hM hr hfr ⟨k1, hwr, hR.glob' hM, ?_, k2⟩
    have := hBlen ops.size (Nat.le_refl _)
    rw [hBn] at this
    exact Nat.le_trans hR.keep this
end
end Go.Pm
