/- What the rows keep; Drop's rows. By the prover of this seat. -/
import Derived.Test.YtfalaahbacdbjaaPu
set_option linter.unusedVariables false
set_option linter.unusedSimpArgs false
set_option maxRecDepth 100000
set_option maxHeartbeats 4000000
namespace Go.Proofs.Ytfalaahbacdbjaa
open Go.RowKit Go.Pm
theorem lok_nil : LOk [] := ⟨List.Pairwise.nil, fun r hr => absurd hr (by simp), by simp⟩
theorem lok_filter {l : List Row} (h : LOk l) (p : Row → Bool) : LOk (l.filter p) := ⟨h.apart.sublist List.filter_sublist, fun r hr => h.row r (List.mem_filter.1 hr).1, Nat.le_trans (List.length_filter_le _ _) h.len⟩
theorem len_put (l : List Row) (x : Row) : (putM keyR l x).length ≤ l.length + 1 := by
  unfold putM
  rw [List.length_append]
  exact Nat.add_le_add_right (List.length_filter_le _ _) 1
theorem lok_put {l : List Row} (h : LOk l) (x : Row) (hx : 0 ≤ x.c ∧ x.c ≤ 8 ∧ 1 ≤ x.id ∧ x.id ≤ 4294967295 ∧ x.m ≤ 8191) (hl : l.length < 1000) : LOk (putM keyR l x) := by
  refine ⟨apart_put h.apart x, fun r hr => ?_, by have := len_put l x; omega⟩
  unfold putM at hr
  rcases List.mem_append.1 hr with q | q
  · exact h.row r (mem_dropM.1 q).1
  · rw [List.mem_singleton.1 q]; exact hx
theorem set_len (l : List Row) (c id m : Int) : (setD l c id m).1.length ≤ l.length + 1 := by
  unfold setD
  split
  · exact Nat.le_succ _
  split
  · exact Nat.le_succ _
  split
  · exact Nat.le_succ _
  split
  · exact Nat.le_succ _
  · exact len_put _ _
theorem stop_len (l : List Row) (id m : Int) : (stopD l id m).1.length ≤ l.length + 1 := by
  unfold stopD
  split
  · exact Nat.le_succ _
  split
  · exact Nat.le_succ _
  · exact len_put _ _
theorem lok_set {l : List Row} (h : LOk l) (c id m : Int) (h2 : 0 ≤ id) (h3 : id ≤ 4294967295) (hl : l.length < 1000) : LOk (setD l c id m).1 := by
  unfold setD
  split
  · exact h
  split
  · exact h
  split
  · exact h
  split
  · exact h
  · rename_i q1 q2 q3 q4
    exact lok_put h _ ⟨by show 0 ≤ c; omega, by show c ≤ 8; omega, by show 1 ≤ id; omega, h3, by show m.toNat ≤ 8191; omega⟩ hl
theorem lok_stop {l : List Row} (h : LOk l) (id m : Int) (h2 : 0 ≤ id) (h3 : id ≤ 4294967295) (hl : l.length < 1000) : LOk (stopD l id m).1 := by
  unfold stopD
  split
  · exact h
  split
  · exact h
  · rename_i q1 q2
    exact lok_put h _ ⟨by show (0:Int) ≤ 0; omega, by show (0:Int) ≤ 8; omega, by show 1 ≤ id; omega, h3, by show m.toNat ≤ 8191; omega⟩ hl
/-- what Drop of a client and of windows keeps -/
def keepG (c : Int) (ids : List Int) (r : Row) : Bool := (decide (r.c ≠ c) || decide (c < 1)) && !decide (r.id ∈ ids)
theorem keep_one {l : List Row} (h : LOk l) (c id : Int) : l.filter (keepG c [id]) = l.filter (keepD c id) := by
  refine List.filter_congr fun r hr => ?_
  have := h.row r hr
  have e : decide (r.id ∈ [id]) = decide (r.id = id) := by simp
  unfold keepG keepD
  rw [e]
  by_cases h0 : id = 0
  · have : ¬ r.id = id := by omega
    have h9 : ¬ r.id = 0 := by omega
    simp [h0, h9]
  · by_cases h1 : r.id = id <;> simp [h1, h0]
theorem keep_nil {l : List Row} (h : LOk l) (c : Int) : l.filter (keepG c []) = l.filter (keepD c 0) := by
  refine List.filter_congr fun r hr => ?_
  unfold keepG keepD
  simp
theorem keep_snoc {l : List Row} (h : LOk l) (c : Int) (ids : List Int) (id : Int) : (l.filter (keepG c ids)).filter (keepD 0 id) = l.filter (keepG c (ids ++ [id])) := by
  rw [List.filter_filter]
  refine List.filter_congr fun r hr => ?_
  have := h.row r hr
  unfold keepG keepD
  by_cases h0 : id = 0
  · have : ¬ r.id = id := by omega
    simp [this, h0]
    have : ¬ r.id = 0 := by omega
    simp [this]
  · by_cases h1 : r.id = id
    · simp [h1, h0]
    · simp [h1]
/-- the masks' and the stops' rows as pairs -/
def prK (r : Row) : (Int × Int) × Int := ((r.c, r.id), (r.m : Int))
def prT (r : Row) : Int × Int := (r.id, (r.m : Int))
theorem rowsK_pr (l : List Row) : rowsK l = ((l.filter mskB).map prK).map (rowA ka67) := by unfold rowsK; rw [List.map_map]; rfl
theorem rowsT_pr (l : List Row) : rowsT l = ((l.filter stpB).map prT).map (rowA ka33) := by unfold rowsT; rw [List.map_map]; rfl
def delK (c : Int) (g : List Int) (x : Int × Int) (v : Int) : Bool := decide (x.1 = c) || decide (x.2 ∈ g)
def delT (g : List Int) (x : Int) (v : Int) : Bool := decide (x ∈ g)
theorem drop_k {l : List Row} (h : LOk l) (c : Int) (ids g : List Int) (hg : ∀ x, x ∈ g ↔ x ∈ ids) : ((((l.filter mskB).map prK).filter fun p => !delK c g p.1 p.2).map (rowA ka67)) = rowsK (l.filter (keepG c ids)) := by
  rw [rowsK_pr, List.filter_map]
  congr 2
  rw [List.filter_filter, List.filter_filter]
  refine List.filter_congr fun r hr => ?_
  have := h.row r hr
  by_cases hm : mskB r = true
  · have hc : r.c ≠ 0 := by simp only [mskB, Bool.and_eq_true, decide_eq_true_eq] at hm; exact hm.1
    have hgi := hg r.id
    rw [hm, Bool.and_true, Bool.true_and]
    show (!delK c g (r.c, r.id) _) = keepG c ids r
    unfold delK keepG
    rw [show decide (r.id ∈ g) = decide (r.id ∈ ids) from decide_eq_decide.2 hgi]
    by_cases h1 : r.c = c
    · have : ¬ c < 1 := by omega
      simp [h1, this]
    · simp [h1]
  · have hm : mskB r = false := by simpa using hm
    rw [hm, Bool.and_false, Bool.false_and]
theorem drop_t {l : List Row} (h : LOk l) (c : Int) (ids g : List Int) (hg : ∀ x, x ∈ g ↔ x ∈ ids) : ((((l.filter stpB).map prT).filter fun p => !delT g p.1 p.2).map (rowA ka33)) = rowsT (l.filter (keepG c ids)) := by
  rw [rowsT_pr, List.filter_map]
  congr 2
  rw [List.filter_filter, List.filter_filter]
  refine List.filter_congr fun r hr => ?_
  by_cases hm : stpB r = true
  · have hc : r.c = 0 := by simp only [stpB, Bool.and_eq_true, decide_eq_true_eq] at hm; exact hm.1
    have hgi := hg r.id
    rw [hm, Bool.and_true, Bool.true_and]
    show (!delT g r.id _) = keepG c ids r
    unfold delT keepG
    rw [show decide (r.id ∈ g) = decide (r.id ∈ ids) from decide_eq_decide.2 hgi]
    by_cases h1 : c = 0
    · simp [h1]
    · have : r.c ≠ c := by omega
      simp [this]
  · have hm : stpB r = false := by simpa using hm
    rw [hm, Bool.and_false, Bool.false_and]
/-- the windows of a row, each once -/
def goneL (ids : List Int) (k : Nat) : List Int := (ids.take k).foldl (putM (fun y : Int => y)) []
theorem gone_succ (ids : List Int) (k : Nat) (hk : k < ids.length) : goneL ids (k + 1) = putM (fun y : Int => y) (goneL ids k) (nth ids k) := by
  unfold goneL
  rw [List.take_add_one, List.foldl_append, List.getElem?_eq_getElem hk, nth_eq hk]
  rfl
theorem gone_mem (ids : List Int) (x : Int) : x ∈ goneL ids ids.length ↔ x ∈ ids := by
  unfold goneL
  rw [List.take_length]
  have : ∀ (l g : List Int), x ∈ l.foldl (putM (fun y : Int => y)) g ↔ x ∈ g ∨ x ∈ l := by
    intro l
    induction l with
    | nil => intro g; simp
    | cons y l ih =>
      intro g
      rw [List.foldl_cons, ih]
      unfold putM
      rw [List.mem_append, mem_dropM, List.mem_singleton, List.mem_cons]
      by_cases q : x = y
      · simp [q]
      · simp [q]
  rw [this]; simp
theorem gone_apart (ids : List Int) : ∀ k, keysApart (fun y : Int => y) (goneL ids k) := by
  intro k
  unfold goneL
  have : ∀ (l g : List Int), keysApart (fun y : Int => y) g → keysApart (fun y : Int => y) (l.foldl (putM (fun y : Int => y)) g) := by
    intro l
    induction l with
    | nil => intro g hg; exact hg
    | cons y l ih => intro g hg; exact ih _ (apart_put hg y)
  exact this _ _ List.Pairwise.nil
theorem gone_sub (ids : List Int) (k : Nat) (x : Int) (h : x ∈ goneL ids k) : x ∈ ids := by
  have := (gone_mem (ids.take k) x).1 (by unfold goneL at h ⊢; rw [List.take_length]; exact h)
  exact List.mem_of_mem_take this
theorem gn_all (l : List Row) (c : Int) (ids : List Int) (hi : ∀ x ∈ ids, 0 ≤ x ∧ x ≤ 4294967295) (hl : ids.length ≤ 1000000) : LoopT C0 gnB (gnS l c ids [] 0) (.exit 0) (gnS l c ids (goneL ids ids.length) ids.length) :=
  LoopT.count (fun k => gnS l c ids (goneL ids k) k) ids.length (fun k hk => by
    have hn := hi _ (nth_mem hk)
    refine gn_step l c ids _ _ k hk hl hn.1 hn.2 (allK_row fun x hx => kwfS (hi x (gone_sub ids k x hx)).1 (hi x (gone_sub ids k x hx)).2) ?_
    rw [gone_succ ids k hk]
    exact mput_row ke_s (gone_apart ids k) _) (gn_end l c ids _) 0 (by omega)
end Go.Proofs.Ytfalaahbacdbjaa
