/- The line's ends: Got, whole. By the prover of this seat. -/
import Derived.Test.YtdcoomeagbjhlaaDoorEm
set_option linter.unusedVariables false
set_option linter.unusedSimpArgs false
set_option maxRecDepth 100000
set_option maxHeartbeats 4000000
namespace Go.Proofs.YtdcoomeagbjhlaaDoor.Lk
open Go.RowKit Go.Pm
open Go.Proofs.YtdcoomeagbjhlaaDoor.Or (G1 C1 Pu)
open Go.Proofs.YtdcoomeagbjhlaaDoor.Ca (eS slS cacheA)
def drain : Nat → En → En
  | 0, e => e
  | k + 1, e => if e.asd 0 = ⟨#[]⟩ then e else drain k (shiftA e)
theorem shift_at (e : En) (i : Nat) : (shiftA e).asd i = if i = 15 then e0 else e.asd (i + 1) := rfl
theorem shift_le (e : En) (h : ∀ i, (e.asd i).size ≤ 1024) (i : Nat) : ((shiftA e).asd i).size ≤ 1024 := by
  rw [shift_at]
  split
  · exact Nat.zero_le _
  · exact h _
theorem ta_loop (n off L : Nat) (cs : List AV) (hp : pureB (.arr L cs 0) = true) : ∀ (k : Nat) (e : En), (∀ i, k ≤ i → i < 16 → e.asd i = ⟨#[]⟩) → (∀ i, (e.asd i).size ≤ 1024) → e.read.size + k * 1024 ≤ 1000000 → e.exp + k ≤ 60001 → LoopT K2 taB (taS e n off L cs) (.exit 0) (taS (drain k e) n off L cs)
  | 0, e, h0, h1, h2, h3 => ta_end e n off L cs hp (h0 0 (Nat.le_refl _) (by omega))
  | k + 1, e, h0, h1, h2, h3 => by
    unfold drain
    by_cases h : e.asd 0 = ⟨#[]⟩
    · rw [if_pos h]
      exact ta_end e n off L cs hp h
    · rw [if_neg h]
      have h4 := h1 0
      refine LoopT.next (ta_step e n off L cs hp h (by omega) (by omega)) (ta_loop n off L cs hp k _ (fun i hi hi2 => ?_) (shift_le e h1) ?_ (by show e.exp + 1 + k ≤ _; omega))
      · rw [shift_at]
        split
        · rfl
        · exact h0 (i + 1) (by omega) (by omega)
      · show (e.read ++ e.asd 0).size + k * 1024 ≤ _
        rw [ByteArray.size_append]
        omega
def takeD (e : En) (n : Nat) (b : ByteArray) : En := if n < e.exp then { e with ack := true } else if ¬ e.asd (n - e.exp) = ⟨#[]⟩ then { e with ack := true } else drain 16 (putA { e with ack := true } (n - e.exp) b)
theorem take_call (e : En) (k n off L : Nat) (cs : List AV) (hp : pureB (.arr L cs 0) = true) (b : ByteArray) (hk : k ≤ e.exp + 15) (hx : e.exp + 16 ≤ 60000) (hb : b.size ≤ 1024) (ha : ∀ i, (e.asd i).size ≤ 1024) (hr : e.read.size ≤ 900000) : CallH Tryd.prog G1 36 [.ptr 0 0, i64 (k : Nat), st b] [.arr 23 (enM e (.osl 1 off n 3)) 0, .arr L cs 0] (.tup []) [.arr 23 (enM (takeD e k b) (.osl 1 off n 3)) 0, .arr L cs 0] := by
  unfold takeD
  by_cases h : k < e.exp
  · rw [if_pos h]
    exact take_old e n off L k cs b h (by omega)
  · rw [if_neg h]
    by_cases h2 : e.asd (k - e.exp) = ⟨#[]⟩
    · rw [if_neg (fun q => q h2)]
      refine take_new e _ n off L k (k - e.exp) cs hp b (by omega) (by omega) (by omega) h2 (ta_loop n off L cs hp 16 _ (fun i hi hi2 => by omega) (fun i => ?_) ?_ ?_)
      · show (if i = k - e.exp then b else e.asd i).size ≤ 1024
        split
        · exact hb
        · exact ha i
      · show e.read.size + 16 * 1024 ≤ _
        omega
      · show e.exp + 16 ≤ _
        omega
    · rw [if_pos h2]
      exact take_has e n off L k (k - e.exp) cs b (by omega) (by omega) (by omega) h2
theorem ack_call2 (e : En) (told w g : Nat) (hw : w = e.way.length) (hl : w ≤ 1000) (hg : g ≤ w) (h : LoopT K2 akB (akS e told w 0 e.way) (.exit 0) (akE e w g e.way)) : CallH Tryd.prog G1 35 [.ptr 0 0, i64 (told : Nat)] [.arr 23 (enM e (.osl 1 0 w 3)) 0, .arr (w * 3) (e.way.flatMap pcE) 0] (.tup []) [.arr 23 (enM e (.osl 1 (g * 3) (w - g) 3)) 0, .arr ((w - g) * 3 + g * 3) ((e.way.take g).flatMap pcE ++ (e.way.drop g).flatMap pcE) 0] := by
  have := ack_call e told w g e.way hw hl hg h
  rw [← List.flatMap_append, List.take_append_drop, show (w - g) * 3 + g * 3 = w * 3 by omega]
  exact this
def gotD (e : En) (n t : Nat) (b : ByteArray) : En := numD 16 { takeD e n b with way := e.way.drop (goneN t e.way) }
def gotA (e : En) (t : Nat) : En := numD 16 { e with way := e.way.drop (goneN t e.way) }
theorem drain_rest : ∀ (k : Nat) (e : En), (drain k e).rest = e.rest ∧ (drain k e).most = e.most ∧ (drain k e).next = e.next
  | 0, e => ⟨rfl, rfl, rfl⟩
  | k + 1, e => by
    unfold drain
    split
    · exact ⟨rfl, rfl, rfl⟩
    · exact drain_rest k (shiftA e)
theorem takeD_rest (e : En) (n : Nat) (b : ByteArray) : (takeD e n b).rest = e.rest ∧ (takeD e n b).most = e.most ∧ (takeD e n b).next = e.next := by
  unfold takeD
  split
  · exact ⟨rfl, rfl, rfl⟩
  · split
    · exact ⟨rfl, rfl, rfl⟩
    · exact drain_rest _ _
theorem got_data (e : En) (n t : Nat) (b : ByteArray) (hn : n ≤ 60000) (ht : t ≤ e.next) (hb1 : 1 ≤ b.size) (hb : b.size ≤ 1024) (hm : 1 ≤ e.most) (hm2 : e.most ≤ 1024) (hx : n ≤ e.exp + 15) (hx2 : e.exp + 16 ≤ 60000) (hl : e.way.length ≤ 1000) (hnx : e.next + 16 ≤ 60000) (hr : e.rest.size ≤ 100000) (ha : ∀ i, (e.asd i).size ≤ 1024) (hrd : e.read.size ≤ 900000) : Pu 22 [enA e, st (pkB 0 n t b)] (.tup [enA (gotD e n t b), i64 0]) := by
  have hk := pk_is 0 n t b (by omega) hn (by omega) hb
  have hc := clone_ok e.way.length e.way rfl hl
  have hg := gone_le t e.way
  have hA := ack_call2 e t e.way.length (goneN t e.way) rfl hl hg (ak_loop e t e.way hl (by omega))
  have hK := Ca.clone_ok b (by omega)
  have hpp : ((e.way.take (goneN t e.way)).flatMap pcE).all pureC = true := row_pureB (fun _ => rfl) _ 0 0
  have hT := take_call e n (e.way.length - goneN t e.way) (goneN t e.way * 3) _ _ (ps_pure _ hpp (e.way.drop (goneN t e.way)) ((e.way.length - goneN t e.way) * 3 + goneN t e.way * 3) 0) b hx hx2 hb ha hrd
  obtain ⟨r1, r2, r3⟩ := takeD_rest e n b
  rcases num_call { takeD e n b with way := e.way.drop (goneN t e.way) } (e.way.length - goneN t e.way) (goneN t e.way * 3) ((e.way.take (goneN t e.way)).flatMap pcE) (by rw [List.length_drop]) (by rw [row_len (sz := 3) (fun _ => rfl), List.length_take]; congr 1; omega) hpp (by show (takeD e n b).rest.size ≤ _; rw [r1]; exact hr) (by show (takeD e n b).most ≤ _; rw [r2]; exact hm2) (by show (takeD e n b).next + 16 ≤ _; rw [r3]; exact hnx) with ⟨h1, h2⟩ | h2
  · have := gd_same e (takeD e n b) n t e.way.length (goneN t e.way) _ b [] hk hb1 hm ht hx (by omega) hg rfl hc hA hK hT h2
    unfold gotD
    rw [h1]
    exact this
  · exact gd_more e e (takeD e n b) _ n t e.way.length (goneN t e.way) _ _ b [] hk hb1 hm ht hx (by omega) rfl rfl hc hA hK hT h2
theorem got_ack (e : En) (t : Nat) (ht : t ≤ e.next) (hm : 1 ≤ e.most) (hm2 : e.most ≤ 1024) (hx2 : e.exp + 16 ≤ 60000) (hl : e.way.length ≤ 1000) (hnx : e.next + 16 ≤ 60000) (hr : e.rest.size ≤ 100000) : Pu 22 [enA e, st (pkB 1 0 t e0)] (.tup [enA (gotA e t), i64 0]) := by
  have hk := pk_is 1 0 t e0 (by omega) (by omega) (by omega) (by decide)
  have hc := clone_ok e.way.length e.way rfl hl
  have hg := gone_le t e.way
  have hA := ack_call2 e t e.way.length (goneN t e.way) rfl hl hg (ak_loop e t e.way hl (by omega))
  have hpp : ((e.way.take (goneN t e.way)).flatMap pcE).all pureC = true := row_pureB (fun _ => rfl) _ 0 0
  rcases num_call { e with way := e.way.drop (goneN t e.way) } (e.way.length - goneN t e.way) (goneN t e.way * 3) ((e.way.take (goneN t e.way)).flatMap pcE) (by rw [List.length_drop]) (by rw [row_len (sz := 3) (fun _ => rfl), List.length_take]; congr 1; omega) hpp hr hm2 hnx with ⟨h1, h2⟩ | h2
  · have := ga_same e t e.way.length (goneN t e.way) _ e0 [] hk rfl hm ht (by omega) hg rfl hc hA h2
    unfold gotA
    rw [h1]
    exact this
  · exact ga_more e _ t e.way.length (goneN t e.way) _ _ e0 [] hk rfl hm ht (by omega) rfl rfl hc hA h2
end Go.Proofs.YtdcoomeagbjhlaaDoor.Lk
