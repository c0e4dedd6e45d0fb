/- What is kept behind a message. By the prover of this seat. -/
import Derived.Test.YtdcoomeagbjhlaaDoorBd
set_option linter.unusedVariables false
set_option linter.unusedSimpArgs false
set_option maxRecDepth 100000
set_option maxHeartbeats 4000000
namespace Go.Proofs.YtdcoomeagbjhlaaDoor.Ca
open Go.RowKit Go.Pm
open Go.Proofs.YtdcoomeagbjhlaaDoor.Or (G1 C1 Pu)
theorem piece_to (l : List ByteArray) (k : Nat) (hk : k ≤ l.length) : pieceA 1 0 (k : Int) (l.flatMap eS) = (l.take k).flatMap eS := by
  have h := row_to (enc := eS) (sz := 1) (fun _ => rfl) l (k : Int) (by omega) (by omega)
  unfold slE at h
  injection h with h1 h2
theorem piece_from (l : List ByteArray) (k : Nat) (hk : k ≤ l.length) : pieceA 1 (k : Int) (l.length : Int) (l.flatMap eS) = (l.drop k).flatMap eS := by
  have h := row_from (enc := eS) (sz := 1) (fun _ => rfl) l (k : Int) (by omega) (by omega)
  unfold slE at h
  injection h with h1 h2
theorem slS_take (z : List ByteArray) (n : Nat) (hn : n ≤ z.length) : AV.sl n (List.take (n * 1) (List.drop 0 (z.flatMap eS))) = slS (z.take n) := by
  unfold slS slE
  rw [List.drop_zero, List.length_take, Nat.min_eq_left hn]
  congr 1
  have h := piece_to z n hn
  rw [← h]
  unfold pieceA
  simp
theorem with_at (m : Int) (l : List ByteArray) (b : ByteArray) (k n : Nat) (hm : 0 ≤ m) (hm2 : m ≤ 1000) (hk : k < l.length) (hl : l.length ≤ 1000) (hn : min l.length m.toNat = n) (hI : Pu 27 [slS l, st b] (i64 k)) : Pu 26 [cacheA m l, st b] (A [i64 m, .sl n (List.take (n * 1) (List.drop 0 ((b :: (l.take k ++ l.drop (k + 1))).flatMap eS)))]) := by
  have p1 : List.take (((k : Int) - 0).toNat * 1) (List.drop 0 (l.flatMap eS)) = (l.take k).flatMap eS := piece_to l k (by omega)
  have p2 : List.take (((l.length : Int) - ((k : Int) + 1)).toNat * 1) (List.drop (((k : Int) + 1).toNat * 1) (l.flatMap eS)) = (l.drop (k + 1)).flatMap eS := by
    have h := piece_from l (k + 1) (by omega)
    rw [show (((k + 1 : Nat)) : Int) = (k : Int) + 1 by omega] at h
    exact h
  have q1 : ((l.take k).flatMap eS).length = k := by rw [row_len (sz := 1) (fun _ => rfl), List.length_take]; omega
  have q2 : ((l.drop (k + 1)).flatMap eS).length = l.length - (k + 1) := by rw [row_len (sz := 1) (fun _ => rfl), List.length_drop]; omega
  have r1 : List.take (((k : Int) - 0).toNat * 1) (List.take (((k : Int) - 0).toNat * 1) (List.drop 0 (l.flatMap eS))) = (l.take k).flatMap eS := by rw [p1]; exact List.take_of_length_le (by omega)
  have r2 : List.take (((l.length : Int) - ((k : Int) + 1)).toNat * 1) (List.take (((l.length : Int) - ((k : Int) + 1)).toNat * 1) (List.drop (((k : Int) + 1).toNat * 1) (l.flatMap eS))) = (l.drop (k + 1)).flatMap eS := by rw [p2]; exact List.take_of_length_le (by omega)
  have a1 : (b :: (l.take k ++ l.drop (k + 1))).flatMap eS = (b :: l.take k).flatMap eS ++ (l.drop (k + 1)).flatMap eS := by rw [← List.cons_append, List.flatMap_append]
  have a2 : (b :: l.take k).flatMap eS = [st b] ++ (l.take k).flatMap eS := rfl
  obtain ⟨z1, hz1⟩ : ∃ z1, z1 = b :: l.take k := ⟨_, rfl⟩
  obtain ⟨z2, hz2⟩ : ∃ z2, z2 = b :: (l.take k ++ l.drop (k + 1)) := ⟨_, rfl⟩
  have q3 : ((b :: l.take k).flatMap eS).length = k + 1 := by rw [a2, List.length_append, q1]; exact Nat.add_comm 1 k
  have q4 : ((b :: (l.take k ++ l.drop (k + 1))).flatMap eS).length = l.length := by rw [a1, List.length_append, q3, q2]; omega
  rw [← hz2]
  rw [← hz2] at a1 q4
  rw [← hz1] at a1 a2 q3
  clear hz1 hz2
  exact pure_cast (pure_said (hs := hint [((2,3), {call := some ((i64 (↑k : Int)))}), ((4,5), {sym := true}), ((4,6), { sym := true, cells := some (z1.flatMap eS) }), ((5,4), {val := some (i64 ((↑k : Int) + (1 : Int)))}), ((5,5), {sym := true}), ((5,6), { sym := true, cells := some (z2.flatMap eS) }), ((8,5), {sym := true})]) (r := A [i64 (m), AV.sl (((if m < (↑((1 : Nat) + ((↑k : Int) - (0 : Int)).toNat + ((↑l.length : Int) - ((↑k : Int) + (1 : Int))).toNat) : Int) then m else (↑((1 : Nat) + ((↑k : Int) - (0 : Int)).toNat + ((↑l.length : Int) - ((↑k : Int) + (1 : Int))).toNat) : Int)) - (0 : Int)).toNat) (List.take (((if m < (↑((1 : Nat) + ((↑k : Int) - (0 : Int)).toNat + ((↑l.length : Int) - ((↑k : Int) + (1 : Int))).toNat) : Int) then m else (↑((1 : Nat) + ((↑k : Int) - (0 : Int)).toNat + ((↑l.length : Int) - ((↑k : Int) + (1 : Int))).toNat) : Int)) - (0 : Int)).toNat * (1 : Nat)) (List.drop (0 : Nat) (List.flatMap eS z2)))]) (ps := [_, (decide ((0 : Int) ≤ (0 : Int) ∧ (0 : Int) ≤ (↑k : Int) ∧ (↑k : Int) ≤ (↑k : Int) ∧ (↑k : Int) ≤ (↑l.length : Int)) && true) = true, true = true, decide (((1 : Nat) + ((↑k : Int) - (0 : Int)).toNat) * (16 : Nat) ≤ (140737488355328 : Nat)) = true, decide ((List.take (((↑k : Int) - (0 : Int)).toNat * (1 : Nat)) (List.take (((↑k : Int) - (0 : Int)).toNat * (1 : Nat)) (List.drop (0 : Nat) (List.flatMap eS l)))).length = ((↑k : Int) - (0 : Int)).toNat * (1 : Nat)) = true, ((([st (b)] : List AV) ++ List.take (((↑k : Int) - (0 : Int)).toNat * (1 : Nat)) (List.take (((↑k : Int) - (0 : Int)).toNat * (1 : Nat)) (List.drop (0 : Nat) (List.flatMap eS l)))) : List AV) = (List.flatMap eS z1), i64 (IntKind.i64.wrap ((↑k : Int) + (1 : Int))) = i64 ((↑k : Int) + (1 : Int)), (decide ((0 : Int) ≤ (↑k : Int) + (1 : Int) ∧ (↑k : Int) + (1 : Int) ≤ (↑l.length : Int) ∧ (↑l.length : Int) ≤ (↑l.length : Int) ∧ (↑l.length : Int) ≤ (↑l.length : Int)) && true) = true, decide (((1 : Nat) + ((↑k : Int) - (0 : Int)).toNat) * (1 : Nat) = ((1 : Nat) + ((↑k : Int) - (0 : Int)).toNat) * (1 : Nat) ∧ (0 : Nat) ≤ ((1 : Nat) + ((↑k : Int) - (0 : Int)).toNat) * (1 : Nat) ∧ ((1 : Nat) + ((↑k : Int) - (0 : Int)).toNat) * (1 : Nat) = (List.flatMap eS z1).length) = true, decide (((1 : Nat) + ((↑k : Int) - (0 : Int)).toNat + ((↑l.length : Int) - ((↑k : Int) + (1 : Int))).toNat) * (16 : Nat) ≤ (140737488355328 : Nat)) = true, decide ((List.take (((↑l.length : Int) - ((↑k : Int) + (1 : Int))).toNat * (1 : Nat)) (List.take (((↑l.length : Int) - ((↑k : Int) + (1 : Int))).toNat * (1 : Nat)) (List.drop (((↑k : Int) + (1 : Int)).toNat * (1 : Nat)) (List.flatMap eS l)))).length = ((↑l.length : Int) - ((↑k : Int) + (1 : Int))).toNat * (1 : Nat)) = true, ((List.flatMap eS z1 ++ List.take (((↑l.length : Int) - ((↑k : Int) + (1 : Int))).toNat * (1 : Nat)) (List.take (((↑l.length : Int) - ((↑k : Int) + (1 : Int))).toNat * (1 : Nat)) (List.drop (((↑k : Int) + (1 : Int)).toNat * (1 : Nat)) (List.flatMap eS l)))) : List AV) = (List.flatMap eS z2), (decide ((0 : Int) ≤ (0 : Int) ∧ ((0 : Int) ≤ if m < (↑((1 : Nat) + ((↑k : Int) - (0 : Int)).toNat + ((↑l.length : Int) - ((↑k : Int) + (1 : Int))).toNat) : Int) then m else (↑((1 : Nat) + ((↑k : Int) - (0 : Int)).toNat + ((↑l.length : Int) - ((↑k : Int) + (1 : Int))).toNat) : Int)) ∧ ((if m < (↑((1 : Nat) + ((↑k : Int) - (0 : Int)).toNat + ((↑l.length : Int) - ((↑k : Int) + (1 : Int))).toNat) : Int) then m else (↑((1 : Nat) + ((↑k : Int) - (0 : Int)).toNat + ((↑l.length : Int) - ((↑k : Int) + (1 : Int))).toNat) : Int)) ≤ if m < (↑((1 : Nat) + ((↑k : Int) - (0 : Int)).toNat + ((↑l.length : Int) - ((↑k : Int) + (1 : Int))).toNat) : Int) then m else (↑((1 : Nat) + ((↑k : Int) - (0 : Int)).toNat + ((↑l.length : Int) - ((↑k : Int) + (1 : Int))).toNat) : Int)) ∧ (if m < (↑((1 : Nat) + ((↑k : Int) - (0 : Int)).toNat + ((↑l.length : Int) - ((↑k : Int) + (1 : Int))).toNat) : Int) then m else (↑((1 : Nat) + ((↑k : Int) - (0 : Int)).toNat + ((↑l.length : Int) - ((↑k : Int) + (1 : Int))).toNat) : Int)) ≤ (↑((1 : Nat) + ((↑k : Int) - (0 : Int)).toNat + ((↑l.length : Int) - ((↑k : Int) + (1 : Int))).toNat) : Int)) && true) = true, ([(6 : Nat)].all fun (i : Nat) => (Option.map pureB [Bk.arr (2 : Nat) [AV.s (Value.int IntKind.i64 m), AV.sl l.length (List.flatMap eS l)] (0 : Fz), Bk.arr (2 : Nat) [AV.s (Value.int IntKind.i64 m), AV.osl (6 : Nat) (0 : Nat) ((if m < (↑((1 : Nat) + ((↑k : Int) - (0 : Int)).toNat + ((↑l.length : Int) - ((↑k : Int) + (1 : Int))).toNat) : Int) then m else (↑((1 : Nat) + ((↑k : Int) - (0 : Int)).toNat + ((↑l.length : Int) - ((↑k : Int) + (1 : Int))).toNat) : Int)) - (0 : Int)).toNat (1 : Nat)] (if false = true then { n := (0 : Nat), ty := some (25 : Nat) : Fz } else (0 : Fz)), Bk.dead, Bk.arr (1 : Nat) [AV.s (Value.string b)] (0 : Fz), Bk.dead, Bk.dead, Bk.arr (((1 : Nat) + ((↑k : Int) - (0 : Int)).toNat + ((↑l.length : Int) - ((↑k : Int) + (1 : Int))).toNat) * (1 : Nat)) (List.flatMap eS z2) (0 : Fz)][i]?).getD false) = true, true = true]) (by kernel_rfl) ⟨(hI), (by (simp; omega)), rfl, (by (first | exact (congrArg (List.cons (st b)) r1).trans a2.symm | (rw [r1]; exact decide_t (by rw [q1]; omega)) | exact decide_t (by omega) | exact decide_t ⟨by omega, by omega, by rw [row_len (sz := 1) (fun _ => rfl)]; omega⟩ | exact decide_t (by rw [row_len (sz := 1) (fun _ => rfl)]; omega))), (by (first | exact (congrArg (List.cons (st b)) r1).trans a2.symm | (rw [r1]; exact decide_t (by rw [q1]; omega)) | exact decide_t (by omega) | exact decide_t ⟨by omega, by omega, by rw [row_len (sz := 1) (fun _ => rfl)]; omega⟩ | exact decide_t (by rw [row_len (sz := 1) (fun _ => rfl)]; omega))), (by (first | exact (congrArg (List.cons (st b)) r1).trans a2.symm | (rw [r1]; exact decide_t (by rw [q1]; omega)) | exact decide_t (by omega) | exact decide_t ⟨by omega, by omega, by rw [row_len (sz := 1) (fun _ => rfl)]; omega⟩ | exact decide_t (by rw [row_len (sz := 1) (fun _ => rfl)]; omega))), (intE (by exact wrap_i64 (by omega) (by omega))), (by (simp; omega)), (by (first | (rw [r2]; exact a1.symm) | (rw [r2]; exact decide_t (by rw [q2]; omega)) | exact decide_t (by omega) | exact decide_t ⟨by omega, by omega, by rw [row_len (sz := 1) (fun _ => rfl)]; omega⟩ | exact decide_t (by rw [row_len (sz := 1) (fun _ => rfl)]; omega))), (by (first | (rw [r2]; exact a1.symm) | (rw [r2]; exact decide_t (by rw [q2]; omega)) | exact decide_t (by omega) | exact decide_t ⟨by omega, by omega, by rw [row_len (sz := 1) (fun _ => rfl)]; omega⟩ | exact decide_t (by rw [row_len (sz := 1) (fun _ => rfl)]; omega))), (by (first | (rw [r2]; exact a1.symm) | (rw [r2]; exact decide_t (by rw [q2]; omega)) | exact decide_t (by omega) | exact decide_t ⟨by omega, by omega, by rw [row_len (sz := 1) (fun _ => rfl)]; omega⟩ | exact decide_t (by rw [row_len (sz := 1) (fun _ => rfl)]; omega))), (by (first | (rw [r2]; exact a1.symm) | (rw [r2]; exact decide_t (by rw [q2]; omega)) | exact decide_t (by omega) | exact decide_t ⟨by omega, by omega, by rw [row_len (sz := 1) (fun _ => rfl)]; omega⟩ | exact decide_t (by rw [row_len (sz := 1) (fun _ => rfl)]; omega))), (by (simp; omega)), (by exact row_ids (fun _ => rfl) _ _ _ _ _ rfl), rfl, trivial⟩) (by (simp; omega))
theorem with_new (m : Int) (l : List ByteArray) (b : ByteArray) (n : Nat) (hm : 0 ≤ m) (hm2 : m ≤ 1000) (hl : l.length ≤ 1000) (hn : min (l.length + 1) m.toNat = n) (hI : Pu 27 [slS l, st b] (i64 (-1))) : Pu 26 [cacheA m l, st b] (A [i64 m, .sl n (List.take (n * 1) (List.drop 0 ((b :: l).flatMap eS)))]) := by
  have q1 : (l.flatMap eS).length = l.length * 1 := row_len (sz := 1) (fun _ => rfl) l
  have r1 : List.take (l.length * 1) (l.flatMap eS) = l.flatMap eS := List.take_of_length_le (by omega)
  have a1 : (b :: l).flatMap eS = [st b] ++ l.flatMap eS := rfl
  have q2 : ((b :: l).flatMap eS).length = l.length + 1 := by rw [a1, List.length_append, q1, Nat.mul_one]; exact Nat.add_comm 1 _
  obtain ⟨z, hz⟩ : ∃ z, z = b :: l := ⟨_, rfl⟩
  rw [← hz]
  rw [← hz] at a1 q2
  clear hz
  exact pure_cast (pure_said (hs := hint [((2,3), {call := some ((i64 (-1 : Int)))}), ((6,3), { sym := true, cells := some (z.flatMap eS) }), ((8,5), {sym := true})]) (r := A [i64 (m), AV.sl (((if m < (↑((1 : Nat) + l.length) : Int) then m else (↑((1 : Nat) + l.length) : Int)) - (0 : Int)).toNat) (List.take (((if m < (↑((1 : Nat) + l.length) : Int) then m else (↑((1 : Nat) + l.length) : Int)) - (0 : Int)).toNat * (1 : Nat)) (List.drop (0 : Nat) (List.flatMap eS z)))]) (ps := [_, true = true, decide (((1 : Nat) + l.length) * (16 : Nat) ≤ (140737488355328 : Nat)) = true, decide ((List.take (l.length * (1 : Nat)) (List.flatMap eS l)).length = l.length * (1 : Nat)) = true, ((([st (b)] : List AV) ++ List.take (l.length * (1 : Nat)) (List.flatMap eS l)) : List AV) = (List.flatMap eS z), (decide ((0 : Int) ≤ (0 : Int) ∧ ((0 : Int) ≤ if m < (↑((1 : Nat) + l.length) : Int) then m else (↑((1 : Nat) + l.length) : Int)) ∧ ((if m < (↑((1 : Nat) + l.length) : Int) then m else (↑((1 : Nat) + l.length) : Int)) ≤ if m < (↑((1 : Nat) + l.length) : Int) then m else (↑((1 : Nat) + l.length) : Int)) ∧ (if m < (↑((1 : Nat) + l.length) : Int) then m else (↑((1 : Nat) + l.length) : Int)) ≤ (↑((1 : Nat) + l.length) : Int)) && true) = true, ([(5 : Nat)].all fun (i : Nat) => (Option.map pureB [Bk.arr (2 : Nat) [AV.s (Value.int IntKind.i64 m), AV.sl l.length (List.flatMap eS l)] (0 : Fz), Bk.arr (2 : Nat) [AV.s (Value.int IntKind.i64 m), AV.osl (5 : Nat) (0 : Nat) ((if m < (↑((1 : Nat) + l.length) : Int) then m else (↑((1 : Nat) + l.length) : Int)) - (0 : Int)).toNat (1 : Nat)] (if false = true then { n := (0 : Nat), ty := some (25 : Nat) : Fz } else (0 : Fz)), Bk.dead, Bk.arr (1 : Nat) [AV.s (Value.string b)] (0 : Fz), Bk.dead, Bk.arr (((1 : Nat) + l.length) * (1 : Nat)) (List.flatMap eS z) (0 : Fz)][i]?).getD false) = true, true = true]) (by kernel_rfl) ⟨(hI), rfl, (by (first | (rw [r1]; exact a1.symm) | (rw [r1]; exact decide_t q1) | exact decide_t (by omega) | exact decide_t ⟨by omega, by omega, by rw [row_len (sz := 1) (fun _ => rfl)]; omega⟩ | exact decide_t (by rw [row_len (sz := 1) (fun _ => rfl)]; omega))), (by (first | (rw [r1]; exact a1.symm) | (rw [r1]; exact decide_t q1) | exact decide_t (by omega) | exact decide_t ⟨by omega, by omega, by rw [row_len (sz := 1) (fun _ => rfl)]; omega⟩ | exact decide_t (by rw [row_len (sz := 1) (fun _ => rfl)]; omega))), (by (first | (rw [r1]; exact a1.symm) | (rw [r1]; exact decide_t q1) | exact decide_t (by omega) | exact decide_t ⟨by omega, by omega, by rw [row_len (sz := 1) (fun _ => rfl)]; omega⟩ | exact decide_t (by rw [row_len (sz := 1) (fun _ => rfl)]; omega))), (by (simp; omega)), (by exact row_ids (fun _ => rfl) _ _ _ _ _ rfl), rfl, trivial⟩) (by (simp; omega))
def thS (m : Int) (l : List ByteArray) (b : ByteArray) (k n : Nat) (z : List ByteArray) : St := ⟨mkT 42 [(1, st b), (2, .ptr 0 0), (4, .ptr 1 0), (5, .osl 2 0 n 1), (6, i64 k)], [.arr 2 [i64 m, slS l] 0, .arr 2 [i64 0, .nsl] 0, .arr (n * 1) (z.flatMap eS) 0]⟩
def neB2 (b x : ByteArray) : Bool := !decide (x = b)
def withD (m : Nat) (l : List ByteArray) (b : ByteArray) : List ByteArray := (b :: l.filter (neB2 b)).take m
theorem split_at {l : List ByteArray} {k : Nat} (hk : k < l.length) : l = l.take k ++ nth l k :: l.drop (k + 1) := by
  conv => lhs; rw [← List.take_append_drop k l, List.drop_eq_getElem_cons hk]
  rw [nth_eq hk]
theorem filter_at {l : List ByteArray} (hn : l.Nodup) {k : Nat} (hk : k < l.length) {b : ByteArray} (hb : nth l k = b) : l.take k ++ l.drop (k + 1) = l.filter (neB2 b) := by
  have e := split_at hk
  rw [hb] at e
  have hn' : (l.take k ++ b :: l.drop (k + 1)).Nodup := by rw [← e]; exact hn
  have h2 := List.nodup_append.1 hn'
  have hf : ∀ x ∈ l.take k, neB2 b x = true := fun x hx => by
    unfold neB2
    have := h2.2.2 x hx b (by simp)
    simp [this]
  have hg : ∀ x ∈ l.drop (k + 1), neB2 b x = true := fun x hx => by
    unfold neB2
    have : x ≠ b := fun q => (List.nodup_cons.1 h2.2.1).1 (q ▸ hx)
    simp [this]
  conv => rhs; rw [e]
  rw [List.filter_append, List.filter_cons, if_neg (by simp [neB2]), List.filter_eq_self.2 hf, List.filter_eq_self.2 hg]
theorem take_minA (z : List ByteArray) (m : Nat) : z.take m = z.take (min z.length m) := by rw [Nat.min_comm, ← List.take_eq_take_min]
theorem with_ok (m : Nat) (l : List ByteArray) (b : ByteArray) (hn : l.Nodup) (hm : 1 ≤ m) (hm2 : m ≤ 1000) (hl : l.length ≤ 1000) : Pu 26 [cacheA m l, st b] (cacheA m (withD m l b)) := by
  have hI := index_ok l b (by omega)
  unfold atD at hI
  unfold cacheA withD
  cases h : idxD (eqD b) l with
  | some k =>
    obtain ⟨h1, h2, h3⟩ := idx_some h
    rw [h] at hI
    have hb : nth l k = b := by simpa [eqD] using h2
    have hf := filter_at hn h1 hb
    have hw := with_at m l b k (min l.length m) (by omega) (by omega) h1 hl (by omega) hI
    rw [hf] at hw
    have hlen : (b :: l.filter (neB2 b)).length = l.length := by
      rw [← hf, List.length_cons, List.length_append, List.length_take, List.length_drop]; omega
    rw [slS_take _ _ (by rw [hlen]; omega)] at hw
    rw [show (b :: l.filter (neB2 b)).take m = (b :: l.filter (neB2 b)).take (min l.length m) by rw [← hlen]; exact take_minA _ _]
    exact hw
  | none =>
    rw [h] at hI
    have h3 := idx_none h
    have hf : l.filter (neB2 b) = l := List.filter_eq_self.2 fun x hx => by
      obtain ⟨j, hj, rfl⟩ := List.getElem_of_mem hx
      have := h3 j hj
      rw [nth_eq hj] at this
      simpa [eqD, neB2] using this
    have hw := with_new m l b (min (l.length + 1) m) (by omega) (by omega) hl (by omega) hI
    rw [slS_take _ _ (by rw [List.length_cons]; omega)] at hw
    rw [hf, show (b :: l).take m = (b :: l).take (min (l.length + 1) m) by rw [← List.length_cons (a := b)]; exact take_minA _ _]
    exact hw
theorem take_nthA {α : Type} [Inhabited α] {l : List α} {k : Nat} (h : k < l.length) : l.take (k + 1) = l.take k ++ [nth l k] := by
  rw [List.take_add_one, List.getElem?_eq_getElem h, nth_eq h]; rfl
end Go.Proofs.YtdcoomeagbjhlaaDoor.Ca
