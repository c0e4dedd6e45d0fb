/- What is done: by the program and by the document; is it the same? By the prover of this seat. -/
import Derived.Test.YthniagmdnogpdaaNi
set_option linter.unusedVariables false
set_option linter.unusedSimpArgs false
set_option maxRecDepth 100000
set_option maxHeartbeats 4000000
namespace Go.Proofs.Ythniagmdnogpdaa
open Go.RowKit Go.Pm
/-! Same -/
structure SOk (l : List Send) : Prop where
  len : l.length ≤ 256
  small : ∀ s ∈ l, s.n.length ≤ 6
def outL (s : Send) : List AV := [i64 2, i64 s.code, i64 0, slI s.n, st ⟨#[]⟩, .sl 0 []]
noncomputable def sm2B : Code := loopOf Try.prog 26 10
def sm2S (l : List Send) (s : Send) (k j : Nat) : St := ⟨mkT 105 [(0, slS l), (1, slS l), (5, i64 k), (6, .ptr 0 0), (7, .ptr 1 0), (8, i64 j)], [.arr 6 (outL s) 0, .arr 6 (outL s) 0]⟩
theorem sm2_step (l : List Send) (s : Send) (k j : Nat) (hj : j < s.n.length) (hs : s.n.length ≤ 1000) : Tri C0 sm2B (sm2S l s k j) .normal (sm2S l s k (j + 1)) := by
  exact runF_ok (hs := hint [((10,4), {val := some (bl (true))}), ((12,3), {cells := some (eI (nth s.n j) ++ List.flatMap eI (List.drop (j + (1 : Nat)) s.n)), sym := true}), ((12,8), {cells := some (eI (nth s.n j) ++ List.flatMap eI (List.drop (j + (1 : Nat)) s.n)), sym := true}), ((12,10), {val := some (bl (false))}), ((11,1), {val := some (i64 ((↑j : Int) + (1 : Int)))})]) (f := { ks := [0, 1, 5, 6, 7, 8], l := [0, 1] }) (ps := [bl (decide ((↑j : Int) < (↑s.n.length : Int))) = bl (true), decide ((0 : Int) ≤ (↑j : Int) ∧ (↑j : Int) < (↑s.n.length : Int)) = true, ((List.drop ((↑j : Int).toNat * (1 : Nat)) (List.flatMap eI s.n)) : List AV) = (eI (nth s.n j) ++ List.flatMap eI (List.drop (j + (1 : Nat)) s.n)), decide ((0 : Int) ≤ (↑j : Int) ∧ (↑j : Int) < (↑s.n.length : Int)) = true, ((List.drop ((↑j : Int).toNat * (1 : Nat)) (List.flatMap eI s.n)) : List AV) = (eI (nth s.n j) ++ List.flatMap eI (List.drop (j + (1 : Nat)) s.n)), bl (nth s.n j != nth s.n j) = bl (false), i64 (IntKind.i64.wrap ((↑j : Int) + (1 : Int))) = i64 ((↑j : Int) + (1 : Int)), true = true, true = true, true = true]) (by kernel_rfl) ⟨(bdT (by omega)), (by exact decide_t (by omega)), (by exact flat_nth (sz := 1) (k := j) (fun _ => rfl) (by omega)), (by exact decide_t (by omega)), (by exact flat_nth (sz := 1) (k := j) (fun _ => rfl) (by omega)), (neT (by omega)), (intE (by exact wrap_i64 (by omega) (by omega))), rfl, rfl, rfl, trivial⟩
theorem sm2_end (l : List Send) (s : Send) (k : Nat) (hs : s.n.length ≤ 1000) : LoopT C0 sm2B (sm2S l s k s.n.length) (.exit 2) (sm2S l s k s.n.length) := by
  exact LoopT.fin (hs := hint [((10,4), {val := some (bl (false))})]) (f := { ks := [0, 1, 5, 6, 7, 8], l := [0, 1] }) (ps := [bl (decide ((↑s.n.length : Int) < (↑s.n.length : Int))) = bl (false), true = true, true = true, true = true]) (by kernel_rfl) ⟨(bdF (by omega)), rfl, rfl, rfl, trivial⟩ (by decide)
noncomputable def smB : Code := loopOf Try.prog 26 4
def smS (l : List Send) (k : Nat) : St := ⟨mkT 105 [(0, slS l), (1, slS l), (5, i64 k)], []⟩
theorem sm_step (l : List Send) (k : Nat) (hk : k < l.length) (hl : l.length ≤ 1000) (hs : (nth l k).n.length ≤ 1000) : Tri C0 smB (smS l k) .normal (smS l (k + 1)) := by
  have L := LoopT.count (sm2S l (nth l k) k) (nth l k).n.length (fun j hj => sm2_step l (nth l k) k j hj hs) (sm2_end l (nth l k) k hs) 0 (by omega)
  exact runF_ok (hs := hint [((4,3), {val := some (bl (true))}), ((6,2), {cells := some (sendL (nth l k) ++ List.flatMap sendL (List.drop (k + (1 : Nat)) l)), sym := true}), ((6,7), {cells := some (sendL (nth l k) ++ List.flatMap sendL (List.drop (k + (1 : Nat)) l)), sym := true}), ((7,2), {cells := some (sendL (nth l k) ++ List.flatMap sendL (List.drop (k + (1 : Nat)) l)), sym := true}), ((7,7), {cells := some (sendL (nth l k) ++ List.flatMap sendL (List.drop (k + (1 : Nat)) l)), sym := true}), ((7,11), {val := some (bl (false))}), ((7,25), {val := some (bl (false))}), ((7,56), {val := some (bl (false))}), ((10,1000), {loop := some ({ ks := [0, 1, 5, 6, 7, 8], l := [0, 1] }, sm2S l (nth l k) k (0 : Nat), Ex.exit (2 : Nat), sm2S l (nth l k) k (nth l k).n.length)}), ((5,1), {val := some (i64 ((↑k : Int) + (1 : Int)))})]) (f := { ks := [0, 1, 5] }) (ps := [bl (decide ((↑k : Int) < (↑l.length : Int))) = bl (true), decide ((0 : Int) ≤ (↑k : Int) ∧ (↑k : Int) < (↑l.length : Int)) = true, ((List.drop ((↑k : Int).toNat * (7 : Nat)) (List.flatMap sendL l)) : List AV) = (sendL (nth l k) ++ List.flatMap sendL (List.drop (k + (1 : Nat)) l)), decide ((0 : Int) ≤ (↑k : Int) ∧ (↑k : Int) < (↑l.length : Int)) = true, ((List.drop ((↑k : Int).toNat * (7 : Nat)) (List.flatMap sendL l)) : List AV) = (sendL (nth l k) ++ List.flatMap sendL (List.drop (k + (1 : Nat)) l)), decide ((0 : Int) ≤ (↑k : Int) ∧ (↑k : Int) < (↑l.length : Int)) = true, ((List.drop ((↑k : Int).toNat * (7 : Nat)) (List.flatMap sendL l)) : List AV) = (sendL (nth l k) ++ List.flatMap sendL (List.drop (k + (1 : Nat)) l)), decide ((0 : Int) ≤ (↑k : Int) ∧ (↑k : Int) < (↑l.length : Int)) = true, ((List.drop ((↑k : Int).toNat * (7 : Nat)) (List.flatMap sendL l)) : List AV) = (sendL (nth l k) ++ List.flatMap sendL (List.drop (k + (1 : Nat)) l)), bl ((nth l k).client != (nth l k).client) = bl (false), bl ((nth l k).code != (nth l k).code) = bl (false), bl ((↑(nth l k).n.length : Int) != (↑(nth l k).n.length : Int)) = bl (false), sm2S l (nth l k) k (0 : Nat) = sm2S l (nth l k) k (0 : Nat), _, true = true, true = true, true = true, i64 (IntKind.i64.wrap ((↑k : Int) + (1 : Int))) = i64 ((↑k : Int) + (1 : Int)), true = true]) (by kernel_rfl) ⟨(bdT (by omega)), (by exact decide_t (by omega)), (by exact flat_nth (sz := 7) (k := k) (fun _ => rfl) (by omega)), (by exact decide_t (by omega)), (by exact flat_nth (sz := 7) (k := k) (fun _ => rfl) (by omega)), (by exact decide_t (by omega)), (by exact flat_nth (sz := 7) (k := k) (fun _ => rfl) (by omega)), (by exact decide_t (by omega)), (by exact flat_nth (sz := 7) (k := k) (fun _ => rfl) (by omega)), (neT (by omega)), (neT (by omega)), (neT (by omega)), rfl, L, rfl, rfl, rfl, (intE (by exact wrap_i64 (by omega) (by omega))), rfl, trivial⟩
theorem sm_end (l : List Send) (hl : l.length ≤ 1000) : LoopT C0 smB (smS l l.length) (.exit 0) (smS l l.length) := by
  exact LoopT.fin (hs := hint [((4,3), {val := some (bl (false))})]) (f := { ks := [0, 1, 5] }) (ps := [bl (decide ((↑l.length : Int) < (↑l.length : Int))) = bl (false), true = true]) (by kernel_rfl) ⟨(bdF (by omega)), rfl, trivial⟩ (by decide)
theorem same_ok (l : List Send) (h : SOk l) : Pu 26 [slS l, slS l] (bl true) := by
  have hl := h.len
  have L := LoopT.count (smS l) l.length (fun k hk => sm_step l k hk (by omega) (by have := h.small (nth l k) (nth_mem hk); omega)) (sm_end l (by omega)) 0 (by omega)
  exact pure_of (hs := hint [((1,4), {val := some (bl (false))}), ((4,1000), {loop := some ({ ks := [0, 1, 5] }, smS l (0 : Nat), Ex.exit (0 : Nat), smS l l.length)})]) (ps := [bl ((↑l.length : Int) != (↑l.length : Int)) = bl (false), smS l (0 : Nat) = smS l (0 : Nat), _, true = true]) (by kernel_rfl) ⟨(neT (by omega)), rfl, L, rfl, trivial⟩
/-! acts -/
structure Act where
  op : Int
  client : Int
  win : Int
  sel : Int
  target : Int
  prop : Int
  time : Int
  now : Int
  deriving DecidableEq, Inhabited
def actL (a : Act) : List AV := [i64 a.op, i64 a.client, u32 a.win, u32 a.sel, u32 a.target, u32 a.prop, u32 a.time, u32 a.now]
def Act.ask (a : Act) : Asked := ⟨a.client, a.win, a.sel, a.target, a.prop, a.time⟩
def Act.ids (a : Act) : List Int := if a.win = 0 then [] else [a.win]
def AOk (a : Act) : Prop := 0 ≤ a.sel ∧ a.sel ≤ 4294967295
def stepD (t : Tab) (a : Act) : Tab × List Send × Bool :=
  if a.op = 0 then setD t a.sel a.client a.win a.time a.now
  else if a.op = 1 then ((convD t a.ask).1, (convD t a.ask).2, false)
  else if a.op = 2 then ((ansT t a.client a.win a.sel).1, [], (ansT t a.client a.win a.sel).2)
  else if a.op = 3 then ((dropT t a.client a.ids).1, (dropT t a.client a.ids).2, false)
  else (t, [], false)
theorem say_ok (w : Rec) (win tm : Int) : SOk (sayD w win tm) := by
  unfold sayD
  split
  · exact ⟨by simp, fun s hs => by simp at hs; subst hs; simp⟩
  · exact ⟨by simp, fun s hs => by simp at hs⟩
theorem sayQ_mem {client : Int} {ids : List Int} {l : List Pend} {s : Send} (h : s ∈ l.flatMap (sayQ client ids)) : s.n.length ≤ 6 := by
  obtain ⟨p, _, hs⟩ := List.mem_flatMap.1 h
  unfold sayQ at hs
  split at hs
  · simp at hs
  · split at hs
    · simp at hs; subst hs; simp [refD]
    · simp at hs
theorem flat_le {α β : Type} (f : α → List β) (hf : ∀ x, (f x).length ≤ 1) (l : List α) : (l.flatMap f).length ≤ l.length := by
  induction l with
  | nil => simp
  | cons x l ih => rw [List.flatMap_cons, List.length_append, List.length_cons]; have := hf x; omega
theorem step_said (t : Tab) (h : TOk t) (a : Act) : SOk (stepD t a).2.1 := by
  have hn : SOk [] := ⟨by simp, fun s hs => by simp at hs⟩
  unfold stepD
  split
  · unfold setD
    split
    · exact hn
    · exact say_ok _ _ _
  · split
    · unfold convD
      split
      · exact ⟨by simp, fun s hs => by simp at hs; subst hs; simp [refD]⟩
      · exact ⟨by simp, fun s hs => by simp at hs; subst hs; simp [askD]⟩
    · split
      · exact hn
      · split
        · exact ⟨Nat.le_trans (flat_le _ (sayQ_le _ _) _) h.room, fun s hs => sayQ_mem hs⟩
        · exact hn
theorem dropR_sel (client : Int) (ids : List Int) (x : Rec) : (dropR client ids x).sel = x.sel := by unfold dropR; split <;> rfl
theorem drop_tok {t : Tab} (h : TOk t) (client : Int) (ids : List Int) : TOk (dropT t client ids).1 := by
  refine ⟨?_, fun x hx => ?_, fun x hx hw => ?_, ?_, ?_⟩
  · have : keysApart Rec.sel (t.c.map (dropR client ids)) := by
      unfold keysApart
      rw [List.pairwise_map]
      exact h.apart.imp fun {a b} q => by rw [dropR_sel, dropR_sel]; exact q
    exact this
  · obtain ⟨y, hy, rfl⟩ := List.mem_map.1 hx
    rw [dropR_sel]; exact h.sel y hy
  · obtain ⟨y, hy, rfl⟩ := List.mem_map.1 hx
    unfold dropR at hw ⊢
    split at hw
    · rw [if_pos (by assumption)]
    · rw [if_neg (by assumption)]; exact h.own y hy hw
  · show (t.c.map (dropR client ids)).length ≤ 1000
    rw [List.length_map]; exact h.len
  · exact Nat.le_trans (flat_le _ (keepQ_le _ _) _) h.room
theorem put_tok {t : Tab} (h : TOk t) (hl : t.c.length < 1000) (x : Rec) (hs : 0 ≤ x.sel ∧ x.sel ≤ 4294967295) (ho : x.win = 0 → x.client = 0) : TOk ⟨putM Rec.sel t.c x, t.q⟩ := by
  refine ⟨apart_put h.apart x, fun y hy => ?_, fun y hy hw => ?_, ?_, h.room⟩
  · rcases List.mem_append.1 hy with hy | hy
    · exact h.sel y (mem_dropM.1 hy).1
    · obtain rfl := List.mem_singleton.1 hy; exact hs
  · rcases List.mem_append.1 hy with hy | hy
    · exact h.own y (mem_dropM.1 hy).1 hw
    · obtain rfl := List.mem_singleton.1 hy; exact ho hw
  · show (putM Rec.sel t.c x).length ≤ 1000
    unfold putM
    rw [List.length_append, List.length_singleton]
    have : (dropM Rec.sel t.c x.sel).length ≤ t.c.length := List.length_filter_le _ _
    omega
theorem set_tok {t : Tab} (h : TOk t) (hl : t.c.length < 1000) (a client win time now : Int) (ha : 0 ≤ a ∧ a ≤ 4294967295) : TOk (setD t a client win time now).1 := by
  unfold setD
  split
  · exact h
  · exact put_tok h hl _ ha (fun hw => by simp [newD] at hw ⊢; exact fun q => absurd hw q)
theorem conv_tok {t : Tab} (h : TOk t) (x : Asked) : TOk (convD t x).1 := by
  unfold convD refuseD
  split
  · exact h
  · rename_i hn
    refine ⟨h.apart, h.sel, h.own, h.len, ?_⟩
    simp only [decide_eq_true_eq, not_or] at hn
    show (t.q ++ [_]).length ≤ 256
    rw [List.length_append, List.length_singleton]; omega
theorem ans_tok {t : Tab} (h : TOk t) (client req sel : Int) : TOk (ansT t client req sel).1 := by
  unfold ansT
  split
  · rename_i k hk
    refine ⟨h.apart, h.sel, h.own, h.len, ?_⟩
    show (dropAt t.q k).length ≤ 256
    rw [drop_len (idx_some hk).1]
    have := h.room
    omega
  · exact h
theorem step_tok {t : Tab} (h : TOk t) (hl : t.c.length < 1000) (a : Act) (ha : AOk a) : TOk (stepD t a).1 := by
  unfold stepD
  split
  · exact set_tok h hl _ _ _ _ _ ha
  · split
    · exact conv_tok h _
    · split
      · exact ans_tok h _ _ _
      · split
        · exact drop_tok h _ _
        · exact h
theorem putM_len (l : List Rec) (x : Rec) : (putM Rec.sel l x).length ≤ l.length + 1 := by
  unfold putM
  rw [List.length_append, List.length_singleton]
  have : (dropM Rec.sel l x.sel).length ≤ l.length := List.length_filter_le _ _
  omega
theorem step_len (t : Tab) (a : Act) : (stepD t a).1.c.length ≤ t.c.length + 1 := by
  unfold stepD
  split
  · unfold setD; split
    · exact Nat.le_succ _
    · exact putM_len _ _
  · split
    · unfold convD; split <;> exact Nat.le_succ _
    · split
      · unfold ansT; split <;> exact Nat.le_succ _
      · split
        · show (t.c.map _).length ≤ _; rw [List.length_map]; exact Nat.le_succ _
        · exact Nat.le_succ _
theorem tok0 : TOk ⟨[], []⟩ := ⟨List.Pairwise.nil, fun x hx => by simp at hx, fun x hx => by simp at hx, by simp, by simp⟩
def doneR (t : Tab) (a : Act) : AV := .tup [tabA (stepD t a).1, tabR (stepD t a).1, slS (stepD t a).2.1, bl true]
theorem done_0 (t : Tab) (h : TOk t) (a : Act) (a0 : 0 ≤ a.sel) (a1 : a.sel ≤ 4294967295) (ho : a.op = 0) : Pu 12 [tabA t, tabR t, A (actL a)] (doneR t a) := by
  have hl := h.len
  have hq := h.room
  have hs := same_ok _ (step_said t h a)
  have hp := set_ok t h a.sel a.client a.win a.time a.now a0 a1
  have hr := rset_ok t (by omega) a.sel a.client a.win a.time a.now
  unfold doneR
  have e : stepD t a = setD t a.sel a.client a.win a.time a.now := by unfold stepD; simp [ho]
  rw [e] at hs ⊢
  generalize setD t a.sel a.client a.win a.time a.now = r at hp hr hs ⊢
  exact pure_of (hs := hint [((4,1), {val := some (bl (true))}), ((5,12), {call := some ((setA r))}), ((6,11), {call := some ((setR r))}), ((19,6), {val := some (bl (true))}), ((19,9), {call := some ((bl true))})]) (ps := [bl (a.op == (0 : Int)) = bl (true), _, _, bl (r.snd.snd == r.snd.snd) = bl (true), _]) (by kernel_rfl) ⟨(beT (by assumption)), (hp), (hr), (beT (by rfl)), (hs), trivial⟩
theorem done_1 (t : Tab) (h : TOk t) (a : Act) (a0 : 0 ≤ a.sel) (a1 : a.sel ≤ 4294967295) (ho : a.op = 1) : Pu 12 [tabA t, tabR t, A (actL a)] (doneR t a) := by
  have hl := h.len
  have hq := h.room
  have hs := same_ok _ (step_said t h a)
  have hp : Pu 15 [tabA t, A [i64 a.client, u32 a.win, u32 a.sel, u32 a.target, u32 a.prop, u32 a.time]] (convA (convD t a.ask)) := conv_ok t h a.ask a0 a1
  have hr : Pu 23 [tabR t, A [i64 a.client, u32 a.win, u32 a.sel, u32 a.target, u32 a.prop, u32 a.time, i64 0, u32 0]] (convR (convD t a.ask)) := rconv_ok t h a.ask 0 0
  unfold doneR
  have e : stepD t a = ((convD t a.ask).1, (convD t a.ask).2, false) := by unfold stepD; simp [ho]
  rw [e] at hs ⊢
  generalize convD t a.ask = r at hp hr hs ⊢
  exact pure_of (hs := hint [((4,1), {val := some (bl (false))}), ((7,1), {val := some (bl (true))}), ((8,14), {call := some ((convA r))}), ((9,14), {call := some ((convR r))}), ((19,9), {call := some ((bl true))})]) (ps := [bl (a.op == (0 : Int)) = bl (false), bl (a.op == (1 : Int)) = bl (true), _, _, _]) (by kernel_rfl) ⟨(beF (by omega)), (beT (by assumption)), (hp), (hr), (hs), trivial⟩
theorem done_2 (t : Tab) (h : TOk t) (a : Act) (a0 : 0 ≤ a.sel) (a1 : a.sel ≤ 4294967295) (ho : a.op = 2) : Pu 12 [tabA t, tabR t, A (actL a)] (doneR t a) := by
  have hl := h.len
  have hq := h.room
  have hs := same_ok _ (step_said t h a)
  have hp := ans_ok t a.client a.win a.sel (by omega)
  have hr := rans_ok t a.client a.win a.sel (by omega)
  unfold doneR
  have e : stepD t a = ((ansT t a.client a.win a.sel).1, [], (ansT t a.client a.win a.sel).2) := by unfold stepD; simp [ho]
  rw [e] at hs ⊢
  generalize ansT t a.client a.win a.sel = r at hp hr hs ⊢
  exact pure_of (hs := hint [((4,1), {val := some (bl (false))}), ((7,1), {val := some (bl (false))}), ((10,1), {val := some (bl (true))}), ((11,7), {call := some (AV.tup [(tabA r.fst), (bl r.snd)])}), ((12,7), {call := some (AV.tup [(tabR r.fst), (bl r.snd)])}), ((19,6), {val := some (bl (true))}), ((19,9), {call := some ((bl true))})]) (ps := [bl (a.op == (0 : Int)) = bl (false), bl (a.op == (1 : Int)) = bl (false), bl (a.op == (2 : Int)) = bl (true), _, _, bl (r.snd == r.snd) = bl (true), _]) (by kernel_rfl) ⟨(beF (by omega)), (beF (by omega)), (beT (by assumption)), (hp), (hr), (beT (by rfl)), (hs), trivial⟩
theorem done_3 (t : Tab) (h : TOk t) (a : Act) (a0 : 0 ≤ a.sel) (a1 : a.sel ≤ 4294967295) (ho : a.op = 3) : Pu 12 [tabA t, tabR t, A (actL a)] (doneR t a) := by
  have hl := h.len
  have hq := h.room
  have hs := same_ok _ (step_said t h a)
  unfold doneR
  by_cases hw : a.win = 0
  · have e : stepD t a = ((dropT t a.client []).1, (dropT t a.client []).2, false) := by unfold stepD; simp [ho, Act.ids, hw]
    rw [e] at hs ⊢
    have hp := drop_ok t h a.client [] (by simp)
    have hr := rdrop_ok t a.client [] (by simp) (by omega) (by omega)
    generalize dropT t a.client [] = r at hp hr hs ⊢
    exact pure_of (hs := hint [((4,1), {val := some (bl (false))}), ((7,1), {val := some (bl (false))}), ((10,1), {val := some (bl (false))}), ((13,1), {val := some (bl (true))}), ((14,2), {val := some (bl (true))}), ((15,3), {call := some ((convA r))}), ((16,3), {call := some ((convR r))}), ((19,9), {call := some ((bl true))})]) (ps := [bl (a.op == (0 : Int)) = bl (false), bl (a.op == (1 : Int)) = bl (false), bl (a.op == (2 : Int)) = bl (false), bl (a.op == (3 : Int)) = bl (true), bl (a.win == (0 : Int)) = bl (true), _, _, _]) (by kernel_rfl) ⟨(beF (by omega)), (beF (by omega)), (beF (by omega)), (beT (by assumption)), (beT (by assumption)), (hp), (hr), (hs), trivial⟩
  · have e : stepD t a = ((dropT t a.client [a.win]).1, (dropT t a.client [a.win]).2, false) := by unfold stepD; simp [ho, Act.ids, hw]
    rw [e] at hs ⊢
    have hp := drop_ok t h a.client [a.win] (by simp)
    have hr := rdrop_ok t a.client [a.win] (by simp) (by omega) (by omega)
    generalize dropT t a.client [a.win] = r at hp hr hs ⊢
    exact pure_of (hs := hint [((4,1), {val := some (bl (false))}), ((7,1), {val := some (bl (false))}), ((10,1), {val := some (bl (false))}), ((13,1), {val := some (bl (true))}), ((14,2), {val := some (bl (false))}), ((17,6), {call := some ((convA r))}), ((18,6), {call := some ((convR r))}), ((19,9), {call := some ((bl true))})]) (ps := [bl (a.op == (0 : Int)) = bl (false), bl (a.op == (1 : Int)) = bl (false), bl (a.op == (2 : Int)) = bl (false), bl (a.op == (3 : Int)) = bl (true), bl (a.win == (0 : Int)) = bl (false), _, _, _]) (by kernel_rfl) ⟨(beF (by omega)), (beF (by omega)), (beF (by omega)), (beT (by assumption)), (beF (by assumption)), (hp), (hr), (hs), trivial⟩
theorem done_4 (t : Tab) (h : TOk t) (a : Act) (h0 : ¬ a.op = 0) (h1 : ¬ a.op = 1) (h2 : ¬ a.op = 2) (h3 : ¬ a.op = 3) : Pu 12 [tabA t, tabR t, A (actL a)] (doneR t a) := by
  have hs := same_ok [] ⟨by simp, fun s hs => by simp at hs⟩
  have e : stepD t a = (t, [], false) := by unfold stepD; simp [h0, h1, h2, h3]
  unfold doneR
  rw [e]
  exact pure_of (hs := hint [((4,1), {val := some (bl (false))}), ((7,1), {val := some (bl (false))}), ((10,1), {val := some (bl (false))}), ((13,1), {val := some (bl (false))}), ((19,9), {call := some ((bl true))})]) (ps := [bl (a.op == (0 : Int)) = bl (false), bl (a.op == (1 : Int)) = bl (false), bl (a.op == (2 : Int)) = bl (false), bl (a.op == (3 : Int)) = bl (false), _]) (by kernel_rfl) ⟨(beF (by assumption)), (beF (by assumption)), (beF (by assumption)), (beF (by assumption)), (hs), trivial⟩
theorem done_ok (t : Tab) (h : TOk t) (a : Act) (ha : AOk a) : Pu 12 [tabA t, tabR t, A (actL a)] (doneR t a) := by
  by_cases h0 : a.op = 0
  · exact done_0 t h a ha.1 ha.2 h0
  · by_cases h1 : a.op = 1
    · exact done_1 t h a ha.1 ha.2 h1
    · by_cases h2 : a.op = 2
      · exact done_2 t h a ha.1 ha.2 h2
      · by_cases h3 : a.op = 3
        · exact done_3 t h a ha.1 ha.2 h3
        · exact done_4 t h a h0 h1 h2 h3
end Go.Proofs.Ythniagmdnogpdaa
