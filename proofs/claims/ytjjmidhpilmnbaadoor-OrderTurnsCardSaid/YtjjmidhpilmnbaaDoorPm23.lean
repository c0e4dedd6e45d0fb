/- The machine of plain values: what an operation looks into; a region that draws its order. By the prover of this seat. -/
import Derived.Test.YtjjmidhpilmnbaaDoorPm22
set_option linter.unusedVariables false
namespace Go.Pm
open Go Go.RowKit
/-- two memories that hold the same at a number -/
def Alike (g g' : Nat → Option Bk) (id : Nat) : Prop := (g id).getD .dead = (g' id).getD .dead
theorem Alike.arr {g g' : Nat → Option Bk} {id : Nat} (h : Alike g g' id) : (∃ L cs fz, g id = some (.arr L cs fz) ∧ g' id = some (.arr L cs fz)) ∨ (∃ es fz, g id = some (.map es fz) ∧ g' id = some (.map es fz)) ∨ ((g id = none ∨ g id = some .dead) ∧ (g' id = none ∨ g' id = some .dead)) := by
  unfold Alike at h
  cases h1 : g id with
  | none =>
    cases h2 : g' id with
    | none => exact .inr (.inr ⟨.inl rfl, .inl rfl⟩)
    | some b =>
      rw [h1, h2] at h
      simp at h
      exact .inr (.inr ⟨.inl rfl, .inr (by rw [← h])⟩)
  | some a =>
    cases h2 : g' id with
    | none =>
      rw [h1, h2] at h
      simp at h
      exact .inr (.inr ⟨.inr (by rw [h]), .inl rfl⟩)
    | some b =>
      rw [h1, h2] at h
      simp at h
      subst h
      cases a with
      | arr L cs fz => exact .inl ⟨L, cs, fz, rfl, rfl⟩
      | map es fz => exact .inr (.inl ⟨es, fz, rfl, rfl⟩)
      | dead => exact .inr (.inr ⟨.inr rfl, .inr rfl⟩)
section
variable {g g' : Nat → Option Bk}
theorem srcA_congr {sz : Nat} {x : AV} (h : ∀ id ∈ topId x, Alike g g' id) : srcA g sz x = srcA g' sz x := by
  cases x with
  | osl id off n k =>
    rcases (h id (by simp [topId])).arr with ⟨L, cs, fz, h1, h2⟩ | ⟨es, fz, h1, h2⟩ | ⟨h1 | h1, h2 | h2⟩ <;> simp only [srcA, h1, h2]
  | s v =>
    cases v with
    | slice a n m =>
      cases a with
      | some A => rfl
      | none => cases n <;> cases m <;> rfl
    | _ => rfl
  | _ => rfl
theorem derefA_congr {x : AV} (h : ∀ id ∈ topId x, Alike g g' id) : derefA g x = derefA g' x := by
  cases x with
  | ptr id off =>
    rcases (h id (by simp [topId])).arr with ⟨L, cs, fz, h1, h2⟩ | ⟨es, fz, h1, h2⟩ | ⟨h1 | h1, h2 | h2⟩ <;> simp only [derefA, h1, h2]
  | _ => rfl
theorem frzC_congr {x : AV} (h : ∀ id ∈ topId x, Alike g g' id) : frzC g x = frzC g' x := by
  cases x with
  | osl id off n k =>
    rcases (h id (by simp [topId])).arr with ⟨L, cs, fz, h1, h2⟩ | ⟨es, fz, h1, h2⟩ | ⟨h1 | h1, h2 | h2⟩ <;> simp only [frzC, h1, h2]
  | omp id =>
    rcases (h id (by simp [topId])).arr with ⟨L, cs, fz, h1, h2⟩ | ⟨es, fz, h1, h2⟩ | ⟨h1 | h1, h2 | h2⟩ <;> simp only [frzC, h1, h2]
  | _ => rfl
theorem topId_sub (x : AV) : ∀ id ∈ topId x, id ∈ idsA x := by
  cases x <;> intro id h <;> first | exact h | (simp [topId] at h)
theorem frzA_congr {x : AV} (h : ∀ id ∈ idsA x, Alike g g' id) : frzA g x = frzA g' x := by
  by_cases ha : ∃ cs, x = .agg cs
  · obtain ⟨cs, rfl⟩ := ha
    simp only [frzA]
    congr 1
    refine List.map_congr_left fun c hc => frzC_congr fun id hid => h id ?_
    simp only [idsA, List.mem_flatMap]
    exact ⟨c, hc, hid⟩
  · have e1 : ∀ g, frzA g x = frzC g x := fun g => by cases x <;> first | rfl | exact absurd ⟨_, rfl⟩ ha
    rw [e1, e1]
    exact frzC_congr fun id hid => h id (topId_sub x id hid)
theorem rd_congr {C : Cx} {nid : Nat} {e : Operand → AV} {h : Hint} {o : Op} (hal : ∀ id ∈ rIds e o, Alike g g' id) : rd C g nid e h o = rd C g' nid e h o := by
  cases o with
  | load t x =>
    simp only [rd, rdLoad]
    rw [derefA_congr hal]
  | slice t x lo hi mx =>
    simp only [rd, rdSlice]
    split
    · rfl
    · rfl
    · split
      · split
        · rename_i id off hx
          have hal' : Alike g g' id := hal id (by simp only [rIds]; rw [hx]; simp [topId])
          rcases hal'.arr with ⟨L, cs, fz, h1, h2⟩ | ⟨es, fz, h1, h2⟩ | ⟨h1 | h1, h2 | h2⟩ <;> simp only [h1, h2]
        · rfl
        · rfl
      · rfl
    · rfl
  | convert src dst x =>
    simp only [rd, rdConv]
    split
    · rfl
    · have : srcB g (e x) = srcB g' (e x) := by
        have h1 := srcA_congr (sz := 1) (x := e x) (g := g) (g' := g') hal
        generalize e x = y at h1
        cases y <;> first | rfl | exact h1
      rw [this]
    · rfl
    · rfl
    · rfl
  | call c =>
    simp only [rd]
    split
    · rename_i b hb
      unfold rdBuiltin
      split
      · split
        · rename_i t x ht hx
          have hm : x ∈ c.args.toList.map e := by rw [hx]; simp
          obtain ⟨y, hy, rfl⟩ := List.mem_map.1 hm
          have hal' : ∀ id ∈ idsA (e y), Alike g g' id := fun id hid => hal id (by simp only [rIds]; exact List.mem_append_left _ (List.mem_flatMap.2 ⟨y, hy, hid⟩))
          split <;> first | rfl | skip
          rename_i id _ hid
          have ha : Alike g g' id := hal' id (by rw [hid]; simp [idsA, topId])
          rcases ha.arr with ⟨L, cs, fz, h1, h2⟩ | ⟨es, fz, h1, h2⟩ | ⟨h1 | h1, h2 | h2⟩ <;> simp only [h1, h2]
        · rfl
      · rfl
      · rfl
      · rfl
    · rfl
  | _ => rfl
theorem wr_congr {C : Cx} {nid : Nat} {e : Operand → AV} {h : Hint} {o : Op} (hal : ∀ id ∈ rIds e o, Alike g g' id) : wr C g nid e h o = wr C g' nid e h o := by
  cases o with
  | store t x y =>
    simp only [wr]
    split
    · rename_i sz id off hs hx
      have ha : Alike g g' id := hal id (by simp only [rIds]; rw [hx]; simp [topId])
      rcases ha.arr with ⟨L, cs, fz, h1, h2⟩ | ⟨es, fz, h1, h2⟩ | ⟨h1 | h1, h2 | h2⟩ <;> simp only [h1, h2]
    · rfl
  | call c =>
    have hin : ∀ x ∈ c.args.toList.map e, ∀ id ∈ topId x, Alike g g' id := by
      intro x hx id hid
      obtain ⟨y, hy, rfl⟩ := List.mem_map.1 hx
      exact hal id (by simp only [rIds]; exact List.mem_append_left _ (List.mem_flatMap.2 ⟨y, hy, topId_sub _ _ hid⟩))
    simp only [wr]
    split
    · rename_i t u s x h1 h2 h3
      have hs := hin s (by rw [h3]; simp)
      have hx := hin x (by rw [h3]; simp)
      split
      · split
        · rename_i i z ud _ _ _
          rw [srcA_congr (sz := i.size) hx]
          split
          · split
            · split
              · rfl
              · rename_i id n k
                have ha : Alike g g' id := hs id (by simp [topId])
                rcases ha.arr with ⟨L, cs, fz, h1, h2⟩ | ⟨es, fz, h1, h2⟩ | ⟨h1 | h1, h2 | h2⟩ <;> simp only [h1, h2]
              · rfl
            · rfl
          · rfl
        · rfl
      · rfl
    · rename_i t u s x h1 h2 h3
      have hs := hin s (by rw [h3]; simp)
      have hx := hin x (by rw [h3]; simp)
      split
      · split
        · rename_i sz _
          rw [srcA_congr (sz := sz) hx]
          split
          · split
            · rename_i id off n k
              have ha : Alike g g' id := hs id (by simp [topId])
              rcases ha.arr with ⟨L, cs, fz, h1, h2⟩ | ⟨es, fz, h1, h2⟩ | ⟨h1 | h1, h2 | h2⟩ <;> simp only [h1, h2]
            · rfl
            · rfl
          · rfl
        · rfl
      · rfl
    · rfl
  | _ => rfl
theorem opt_congr {id : Nat} {α : Type} (h : Alike g g' id) (f : Bk → α) (d : α) (hd : f .dead = d) : ((g id).map f).getD d = ((g' id).map f).getD d := by
  rcases h.arr with ⟨L, cs, fz, h1, h2⟩ | ⟨es, fz, h1, h2⟩ | ⟨h1 | h1, h2 | h2⟩ <;> simp [h1, h2, hd]
theorem opEval_congr {C : Cx} {h : Hint} {nid : Nat} {H H' : List Bk} {e : Operand → AV} {o : Op} (hh : h.heap = none) (hal : ∀ id ∈ rIds e o, Alike g g' id) : opEval C h g nid H e o = opEval C h g' nid H' e o := by
  unfold opEval
  rw [hh]
  simp only []
  split
  · rename_i r _
    split
    · rename_i f args hc
      have hids : ∀ x ∈ args, ∀ id ∈ idsA x, id ∈ rIds e o := by
        intro x hx id hid
        cases o with
        | call c =>
          simp only [callOf] at hc
          split at hc
          · rename_i fo hf
            split at hc
            · rename_i k pre cap hfe
              cases hc
              simp only [rIds, hf, calleeIds, hfe]
              rcases List.mem_append.1 hx with hx | hx
              · rcases List.mem_append.1 hx with hx | hx
                · exact List.mem_append_right _ (List.mem_append_left _ (List.mem_flatMap.2 ⟨x, hx, hid⟩))
                · obtain ⟨y, hy, rfl⟩ := List.mem_map.1 hx
                  exact List.mem_append_left _ (List.mem_flatMap.2 ⟨y, hy, hid⟩)
              · exact List.mem_append_right _ (List.mem_append_right _ (List.mem_flatMap.2 ⟨x, hx, hid⟩))
            · cases hc
          · cases hc
        | _ => cases hc
      have hF : ∀ id ∈ args.flatMap idsA, id ∈ rIds e o := by
        intro id hid
        obtain ⟨x, hx, hid⟩ := List.mem_flatMap.1 hid
        exact hids x hx id hid
      have e1 : args.map (frzA g) = args.map (frzA g') := List.map_congr_left fun x hx => frzA_congr fun id hid => hal id (hids x hx id hid)
      have e1k : args.map (frzK g) = args.map (frzK g') := List.map_congr_left fun x hx => by
        have := frzA_congr (x := x) fun id hid => hal id (hids x hx id hid)
        cases x <;> first | rfl | exact this
      have e2 : ∀ F : List Nat, (∀ id ∈ F, id ∈ rIds e o) → markW g F = markW g' F := by
        intro F
        induction F with
        | nil => intro _; rfl
        | cons i F ih =>
          intro hF
          have hi := hal i (hF i (by simp))
          unfold markW
          rw [ih fun j hj => hF j (by simp [hj])]
          rcases hi.arr with ⟨L, cs, fz, h1, h2⟩ | ⟨es, fz, h1, h2⟩ | ⟨h1 | h1, h2 | h2⟩ <;> simp only [h1, h2]
      have e3 : ((args.flatMap idsA).all fun i => ((g i).map pureB).getD false) = ((args.flatMap idsA).all fun i => ((g' i).map pureB).getD false) := by
        have key : ∀ F : List Nat, (∀ id ∈ F, id ∈ rIds e o) → (F.all fun i => ((g i).map pureB).getD false) = (F.all fun i => ((g' i).map pureB).getD false) := by
          intro F
          induction F with
          | nil => intro _; rfl
          | cons i F ih =>
            intro hF
            have hi := hal i (hF i (by simp))
            simp only [List.all_cons]
            rw [ih fun j hj => hF j (by simp [hj]), opt_congr hi pureB false rfl]
        exact key _ hF
      rw [e1, e1k, e2 _ hF, e3]
    · rfl
  · rw [rd_congr hal, wr_congr hal]
end
end Go.Pm
