/- The ends of the whole line: sending, handing over, comparing. By the prover of this seat. -/
import Derived.Test.YtdcoomeagbjhlaaDoorEn
set_option linter.unusedVariables false
set_option linter.unusedSimpArgs false
set_option maxRecDepth 100000
set_option maxHeartbeats 4000000
namespace Go.Proofs.YtdcoomeagbjhlaaDoor.Lk
open Go.RowKit Go.Pm
open Go.Proofs.YtdcoomeagbjhlaaDoor.Or (G1 C1 Pu)
open Go.Proofs.YtdcoomeagbjhlaaDoor.Ca (eS slS cacheA outP)
structure Le where
  m : Nat
  kl : List ByteArray
  ln : En
  rest : ByteArray
  got : List ByteArray
def leM (x : Le) (g : AV) : List AV := [i64 (x.m : Int), slS x.kl, i64 (x.ln.most : Int), slP x.ln.way, i64 (x.ln.next : Int), st x.ln.rest, i64 (x.ln.exp : Int), st (x.ln.asd 0), st (x.ln.asd 1), st (x.ln.asd 2), st (x.ln.asd 3), st (x.ln.asd 4), st (x.ln.asd 5), st (x.ln.asd 6), st (x.ln.asd 7), st (x.ln.asd 8), st (x.ln.asd 9), st (x.ln.asd 10), st (x.ln.asd 11), st (x.ln.asd 12), st (x.ln.asd 13), st (x.ln.asd 14), st (x.ln.asd 15), st x.ln.read, bl x.ln.ack, st x.rest, g]
def leC (x : Le) : List AV := leM x (slS x.got)
def leA (x : Le) : AV := A (leC x)
theorem send7 (x : Le) (b s hd : ByteArray) (kl' : List ByteArray) (ln' : En) (hs : s.size ≤ 100000) (hh : hd.size ≤ 100000) (hP : Pu 17 [cacheA x.m x.kl, st b] (outP x.m kl' s 0)) (hO : Pu 18 [i64 1, i64 4, i64 (s.size : Nat)] (.tup [st hd, i64 0])) (hS : Pu 19 [enA x.ln, st (hd ++ s)] (.tup [enA ln', i64 0])) : Pu 7 [leA x, st b] (.tup [leA { x with kl := kl', ln := ln' }, bl true]) := by
  exact pure_of (hs := hint [((1,3), {call := some ((outP (↑x.m : Int) kl' s (0 : Int)))}), ((2,2), {call := some (AV.tup [(st hd), (i64 (0 : Int))])}), ((5,4), {sym := true}), ((5,5), {call := some (AV.tup [(enA ln'), (i64 (0 : Int))])})]) (ps := [_, _, decide (hd.size + s.size ≤ (9223372036854775807 : Nat)) = true, _]) (by kernel_rfl) ⟨(hP), (hO), (by exact decide_t (by omega)), (hS), trivial⟩
noncomputable def ovB : Code := loopOf Tryd.prog 9 2
def ovS (ps : List ByteArray) (e : En) (k : Nat) : St := ⟨mkT 28 [(2, .ptr 0 0), (4, .ptr 1 0), (10, slS ps), (11, i64 (ps.length : Nat)), (12, i64 (k : Nat))], [.arr 23 (enM e (slP e.way)) 0, .arr 23 (enM en0 .nsl) 0]⟩
theorem ov_step (ps : List ByteArray) (e e' : En) (k : Nat) (hk : k < ps.length) (hl : ps.length ≤ 1000000) (hG : Pu 22 [enA e, st (nth ps k)] (.tup [enA e', i64 0])) : Tri C1 ovB (ovS ps e k) .normal (ovS ps e' (k + 1)) := by
  exact runF_ok (hs := hint [((2,0), {val := some (bl (true))}), ((3,0), {cells := some (eS (nth ps k) ++ List.flatMap eS (List.drop (k + (1 : Nat)) ps)), sym := true}), ((4,2), {call := some (AV.tup [(enA e'), (i64 (0 : Int))])}), ((8,0), {val := some (i64 ((↑k : Int) + (1 : Int)))})]) (f := { ks := [2, 4, 10, 11, 12], l := [0, 1] }) (ps := [bl (decide ((↑k : Int) < (↑ps.length : Int))) = bl (true), decide ((0 : Int) ≤ (↑k : Int) ∧ (↑k : Int) < (↑ps.length : Int)) = true, ((List.drop ((↑k : Int).toNat * (1 : Nat)) (List.flatMap eS ps)) : List AV) = (eS (nth ps k) ++ List.flatMap eS (List.drop (k + (1 : Nat)) ps)), _, i64 (IntKind.i64.wrap ((↑k : Int) + (1 : Int))) = i64 ((↑k : Int) + (1 : Int)), true = true, true = true, true = true]) (by kernel_rfl) ⟨(bdT (by omega)), (by exact decide_t (by omega)), (by exact flat_nth (sz := 1) (k := k) (fun _ => rfl) (by omega)), (hG), (intE (by exact wrap_i64 (by omega) (by omega))), rfl, rfl, rfl, trivial⟩
theorem ov_end (ps : List ByteArray) (e : En) : LoopT C1 ovB (ovS ps e ps.length) (.exit 0) (ovS ps e ps.length) := by
  exact LoopT.fin (hs := hint [((2,0), {val := some (bl (false))})]) (f := { ks := [2, 4, 10, 11, 12], l := [0, 1] }) (ps := [bl (decide ((↑ps.length : Int) < (↑ps.length : Int))) = bl (false), true = true, true = true, true = true]) (by kernel_rfl) ⟨(bdF (by omega)), rfl, rfl, rfl, trivial⟩ (by decide)
theorem over_go (ps : List ByteArray) (e e' : En) (h : LoopT C1 ovB (ovS ps e 0) (.exit 0) (ovS ps e' ps.length)) : Pu 9 [enA e, slS ps] (.tup [enA e', bl true]) := by
  exact pure_of (hs := hint [((2,1000), {loop := some ({ ks := [2, 4, 10, 11, 12], l := [0, 1] }, ovS ps e (0 : Nat), Ex.exit (0 : Nat), ovS ps e' ps.length)})]) (ps := [ovS ps e (0 : Nat) = ovS ps e (0 : Nat), _, true = true, true = true, true = true]) (by kernel_rfl) ⟨rfl, h, rfl, rfl, rfl, trivial⟩
theorem over_ok (ps : List ByteArray) (f : Nat → En) (hl : ps.length ≤ 1000000) (hf : ∀ k, k < ps.length → Pu 22 [enA (f k), st (nth ps k)] (.tup [enA (f (k + 1)), i64 0])) : Pu 9 [enA (f 0), slS ps] (.tup [enA (f ps.length), bl true]) :=
  over_go ps _ _ (LoopT.count (fun k => ovS ps (f k) k) ps.length (fun k hk => ov_step ps _ _ k hk hl (hf k hk)) (ov_end ps _) 0 (Nat.zero_le _))
noncomputable def bgB : Code := loopOf Tryd.prog 13 4
def bgS (a b : List ByteArray) (k : Nat) : St := ⟨mkT 26 [(0, slS a), (1, slS b), (12, i64 (a.length : Nat)), (13, i64 (k : Nat))], []⟩
theorem bg_step (a b : List ByteArray) (k : Nat) (hk : k < a.length) (hb : a.length ≤ b.length) (hl : a.length ≤ 1000000) (h : nth a k = nth b k) : Tri C1 bgB (bgS a b k) .normal (bgS a b (k + 1)) := by
  exact runF_ok (hs := hint [((4,0), {val := some (bl (true))}), ((6,2), {cells := some (eS (nth a k) ++ List.flatMap eS (List.drop (k + (1 : Nat)) a)), sym := true}), ((6,6), {cells := some (eS (nth b k) ++ List.flatMap eS (List.drop (k + (1 : Nat)) b)), sym := true}), ((6,8), {val := some (bl (false))}), ((8,0), {val := some (i64 ((↑k : Int) + (1 : Int)))})]) (f := { ks := [0, 1, 12, 13] }) (ps := [bl (decide ((↑k : Int) < (↑a.length : Int))) = bl (true), decide ((0 : Int) ≤ (↑k : Int) ∧ (↑k : Int) < (↑a.length : Int)) = true, ((List.drop ((↑k : Int).toNat * (1 : Nat)) (List.flatMap eS a)) : List AV) = (eS (nth a k) ++ List.flatMap eS (List.drop (k + (1 : Nat)) a)), decide ((0 : Int) ≤ (↑k : Int) ∧ (↑k : Int) < (↑b.length : Int)) = true, ((List.drop ((↑k : Int).toNat * (1 : Nat)) (List.flatMap eS b)) : List AV) = (eS (nth b k) ++ List.flatMap eS (List.drop (k + (1 : Nat)) b)), bl (!(nth a k).toList == (nth b k).toList) = bl (false), i64 (IntKind.i64.wrap ((↑k : Int) + (1 : Int))) = i64 ((↑k : Int) + (1 : Int)), true = true]) (by kernel_rfl) ⟨(bdT (by omega)), (by exact decide_t (by omega)), (by exact flat_nth (sz := 1) (k := k) (fun _ => rfl) (by omega)), (by exact decide_t (by omega)), (by exact flat_nth (sz := 1) (k := k) (fun _ => rfl) (by omega)), (bnT (bsT (by assumption))), (intE (by exact wrap_i64 (by omega) (by omega))), rfl, trivial⟩
theorem bg_end (a b : List ByteArray) : LoopT C1 bgB (bgS a b a.length) (.exit 0) (bgS a b a.length) := by
  exact LoopT.fin (hs := hint [((4,0), {val := some (bl (false))})]) (f := { ks := [0, 1, 12, 13] }) (ps := [bl (decide ((↑a.length : Int) < (↑a.length : Int))) = bl (false), true = true]) (by kernel_rfl) ⟨(bdF (by omega)), rfl, trivial⟩ (by decide)
theorem begins_ok (a b : List ByteArray) (hb : a.length ≤ b.length) (hl : a.length ≤ 1000000) (h : ∀ k, k < a.length → nth a k = nth b k) : Pu 13 [slS a, slS b] (bl true) := by
  have hL := LoopT.count (fun k => bgS a b k) a.length (fun k hk => bg_step a b k hk hb hl (h k hk)) (bg_end a b) 0 (Nat.zero_le _)
  exact pure_of (hs := hint [((1,4), {val := some (bl (false))}), ((4,1000), {loop := some ({ ks := [0, 1, 12, 13] }, bgS a b (0 : Nat), Ex.exit (0 : Nat), bgS a b a.length)})]) (ps := [bl (decide ((↑a.length : Int) > (↑b.length : Int))) = bl (false), bgS a b (0 : Nat) = bgS a b (0 : Nat), _, true = true]) (by kernel_rfl) ⟨(bdF (by omega)), rfl, hL, rfl, trivial⟩
theorem awake_go (hN : Pu 4 [i64 2] (.tup [cacheA 2 [], i64 0])) (h1 : Pu 17 [cacheA 2 [], st ⟨#[97, 98, 99]⟩] (outP 2 [⟨#[97, 98, 99]⟩] ⟨#[0, 97, 98, 99]⟩ 0)) (h2 : Pu 17 [cacheA 2 [⟨#[97, 98, 99]⟩], st ⟨#[97, 98, 99]⟩] (outP 2 [⟨#[97, 98, 99]⟩] ⟨#[1, 0]⟩ 0)) : Pu 16 [] (bl true) := by
  exact pure_of (hs := hint [((1,0), {call := some (AV.tup [(cacheA (2 : Int) []), (i64 (0 : Int))])}), ((2,1), {call := some ((outP (2 : Int) [{ data := #[(97 : UInt8), (98 : UInt8), (99 : UInt8)] : ByteArray }] { data := #[(0 : UInt8), (97 : UInt8), (98 : UInt8), (99 : UInt8)] : ByteArray } (0 : Int)))}), ((3,1), {call := some ((outP (2 : Int) [{ data := #[(97 : UInt8), (98 : UInt8), (99 : UInt8)] : ByteArray }] { data := #[(1 : UInt8), (0 : UInt8)] : ByteArray } (0 : Int)))})]) (ps := [_, _, _]) (by kernel_rfl) ⟨(hN), (h1), (h2), trivial⟩
theorem awake_ok : Pu 16 [] (bl true) := by
  have hN := Ca.new_ok 2
  have e1 : Ca.putD 2 [] ⟨#[97, 98, 99]⟩ = ([⟨#[97, 98, 99]⟩], ⟨#[0, 97, 98, 99]⟩, 0) := by decide +kernel
  have e2 : Ca.putD 2 [⟨#[97, 98, 99]⟩] ⟨#[97, 98, 99]⟩ = ([⟨#[97, 98, 99]⟩], ⟨#[1, 0]⟩, 0) := by decide +kernel
  have h1 := Ca.put_ok 2 [] ⟨#[97, 98, 99]⟩ ⟨by simp, by simp, by decide⟩
  have h2 := Ca.put_ok 2 [⟨#[97, 98, 99]⟩] ⟨#[97, 98, 99]⟩ ⟨by simp, by simp, by decide⟩
  rw [e1] at h1
  rw [e2] at h2
  exact awake_go hN h1 h2
end Go.Proofs.YtdcoomeagbjhlaaDoor.Lk
