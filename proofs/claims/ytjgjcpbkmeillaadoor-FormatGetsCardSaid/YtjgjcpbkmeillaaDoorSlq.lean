/- strings.Builder: what its methods do. By the prover of this seat. -/
import Derived.Test.YtjgjcpbkmeillaaDoorSk
import Derived.Test.YtjgjcpbkmeillaaDoorPmF
set_option linter.unusedVariables false
set_option linter.unusedSimpArgs false
set_option maxRecDepth 100000
set_option maxHeartbeats 4000000
namespace Go.Proofs.YtjgjcpbkmeillaaDoor
open Go.RowKit Go.Pm
theorem bytes_app (a b : ByteArray) : bytesA a ++ bytesA b = bytesA (a ++ b) := by
  unfold bytesA
  rw [← List.map_append, ← Array.toList_append, ← ByteArray.data_append]
theorem size_data (b : ByteArray) : b.data.toList.length = b.size := by rw [Array.length_toList]; rfl
theorem bytesA_len (b : ByteArray) : (bytesA b).length = b.size := by unfold bytesA; rw [List.length_map, size_data]
theorem bytesA_pure (b : ByteArray) (n : Nat) (fz : Fz) : pureB (.arr n (bytesA b) fz) = true := by
  show (bytesA b).all pureC = true
  unfold bytesA
  rw [List.all_map, List.all_eq_true]
  intro x _
  rfl
theorem bytesA_u8 (b : ByteArray) : (bytesA b).all isU8 = true := by
  unfold bytesA
  rw [List.all_map, List.all_eq_true]
  intro x _
  have := x.toNat_lt
  simp [isU8]
  omega
theorem strA_bytes (b : ByteArray) : strA (bytesA b) = b := by
  apply ByteArray.ext
  apply Array.ext'
  unfold strA bytesA
  rw [List.map_map]
  show List.map _ _ = _
  conv => rhs; rw [← List.map_id b.data.toList]
  apply List.map_congr_left
  intro x _
  simp [toByte]
def oneB (c : Int) : ByteArray := ⟨#[UInt8.ofNat c.toNat]⟩
theorem oneB_cells (c : Int) (h0 : 0 ≤ c) (h1 : c < 256) : bytesA (oneB c) = [u8 c] := by
  unfold oneB bytesA
  simp only [List.toList_toArray, List.map_cons, List.map_nil]
  rw [UInt8.toNat_ofNat', Nat.mod_eq_of_lt (by omega)]
  congr 3
  omega
def bFr : Bk := .arr 2 [nilP, nilS] ⟨0, some 58⟩
def bUs (k n : Nat) : Bk := .arr 2 [.ptr 0 0, .osl k 0 n 1] ⟨0, some 58⟩
def bBy (n : Nat) (b : ByteArray) : Bk := .arr (n * 1) (bytesA b) ⟨0, some 5⟩
def nilE : AV := .s .nilIface
theorem ccf0 : CallH Tryd.prog G1 52 [.ptr 0 0] [.arr 2 [nilP, nilS] ⟨0, some 58⟩] (.tup []) [.arr 2 [.ptr 0 0, nilS] ⟨0, some 58⟩] := cc_law_fresh [.arr 2 [nilP, nilS] ⟨0, some 58⟩] 0 nilS rfl
theorem ccu1 (n : Nat) (b : ByteArray) : CallH Tryd.prog G1 52 [.ptr 0 0] [.arr 2 [.ptr 0 0, .osl 1 0 n 1] ⟨0, some 58⟩, .arr (n * 1) (bytesA b) ⟨0, some 5⟩] (.tup []) [.arr 2 [.ptr 0 0, .osl 1 0 n 1] ⟨0, some 58⟩, .arr (n * 1) (bytesA b) ⟨0, some 5⟩] := cc_law_used _ 0 _ 2 _ rfl
theorem len_f : CallH Tryd.prog G1 29 [.ptr 0 0] [bFr] (i64 0) [bFr] := by
  exact (fnRun_ok (hs := hint []) (ps := []) (by kernel_rfl) trivial).1
theorem len_u (n : Nat) (b : ByteArray) : CallH Tryd.prog G1 29 [.ptr 0 0] [bUs 1 n, bBy n b] (i64 n) [bUs 1 n, bBy n b] := by
  exact (fnRun_ok (hs := hint []) (ps := []) (by kernel_rfl) trivial).1
theorem ws_f (s : ByteArray) (m : Nat) (hm : s.size = m) (h0 : 0 < m) (h1 : m ≤ 1000000) : CallH Tryd.prog G1 26 [.ptr 0 0, st s] [bFr] (.tup [i64 s.size, nilE]) [.arr 2 [.ptr 0 0, .osl 1 0 s.size 1] ⟨0, some 58⟩, .arr (s.size * 1) (bytesA s) ⟨0, some 5⟩] := by
  have c := ccf0
  exact callH_cast (fnRun_ok (hs := hint [((1,1), {heap := some (AV.tup [], [Bk.arr (2 : Nat) [AV.ptr (0 : Nat) (0 : Nat), nilS] { n := (0 : Nat), ty := some (58 : Nat) : Fz }])}), ((2,6), { typed := true, sym := true })]) (r := AV.tup [i64 ((↑s.size : Int)), AV.s (Value.nilIface)]) (H' := [Bk.arr (2 : Nat) [AV.ptr (0 : Nat) (0 : Nat), AV.osl (1 : Nat) (0 : Nat) s.size (1 : Nat)] { n := (0 : Nat), ty := some (58 : Nat) : Fz }, Bk.arr (s.size * (1 : Nat)) (bytesA s) (if true = true then { n := (0 : Nat), ty := some (5 : Nat) : Fz } else (0 : Fz))]) (ps := [_, [Bk.arr (2 : Nat) [AV.s (Value.pointer none), AV.s (Value.slice none (0 : Nat) (0 : Nat))] { n := (0 : Nat), ty := some (58 : Nat) : Fz }].length ≤ [Bk.arr (2 : Nat) [AV.ptr (0 : Nat) (0 : Nat), AV.s (Value.slice none (0 : Nat) (0 : Nat))] { n := (0 : Nat), ty := some (58 : Nat) : Fz }].length, decide (s.size * (1 : Nat) ≤ (140737488355328 : Nat)) = true, decide ((bytesA s).length = s.size * (1 : Nat)) = true]) (by kernel_rfl) ⟨(c), (by decide), (by (first | exact decide_t (by rw [bytesA_len]; omega) | exact decide_t (by omega))), (by (first | exact decide_t (by rw [bytesA_len]; omega) | exact decide_t (by omega))), trivial⟩).1 rfl (by (simp; done))
theorem ws_u (s b : ByteArray) (n m : Nat) (hn : b.size = n) (hm : s.size = m) (h1 : m ≤ 1000000) (h2 : n ≤ 1000000) : CallH Tryd.prog G1 26 [.ptr 0 0, st s] [bUs 1 n, bBy n b] (.tup [i64 s.size, nilE]) [.arr 2 [.ptr 0 0, .osl 2 0 (n + s.size) 1] ⟨0, some 58⟩, .dead, .arr ((n + s.size) * 1) (bytesA (b ++ s)) ⟨0, some 5⟩] := by
  have c := ccu1 n b
  have e := bytes_app b s
  exact callH_cast (fnRun_ok (hs := hint [((1,1), {heap := some (AV.tup [], [Bk.arr (2 : Nat) [AV.ptr (0 : Nat) (0 : Nat), AV.osl (1 : Nat) (0 : Nat) n (1 : Nat)] { n := (0 : Nat), ty := some (58 : Nat) : Fz }, Bk.arr (n * (1 : Nat)) (bytesA b) { n := (0 : Nat), ty := some (5 : Nat) : Fz }])}), ((2,6), { sym := true, cells := some (bytesA (b ++ s)) })]) (r := AV.tup [i64 ((↑s.size : Int)), AV.s (Value.nilIface)]) (H' := [Bk.arr (2 : Nat) [AV.ptr (0 : Nat) (0 : Nat), AV.osl (2 : Nat) (0 : Nat) (n + s.size) (1 : Nat)] { n := (0 : Nat), ty := some (58 : Nat) : Fz }, Bk.dead, Bk.arr ((n + s.size) * (1 : Nat)) (bytesA (b ++ s)) (if (5 : Nat) = (5 : Nat) then { n := (0 : Nat), ty := some (5 : Nat) : Fz } else { n := (0 : Nat) : Fz })]) (ps := [_, [Bk.arr (2 : Nat) [AV.ptr (0 : Nat) (0 : Nat), AV.osl (1 : Nat) (0 : Nat) n (1 : Nat)] { n := (0 : Nat), ty := some (58 : Nat) : Fz }, Bk.arr (n * (1 : Nat)) (bytesA b) { n := (0 : Nat), ty := some (5 : Nat) : Fz }].length ≤ [Bk.arr (2 : Nat) [AV.ptr (0 : Nat) (0 : Nat), AV.osl (1 : Nat) (0 : Nat) n (1 : Nat)] { n := (0 : Nat), ty := some (58 : Nat) : Fz }, Bk.arr (n * (1 : Nat)) (bytesA b) { n := (0 : Nat), ty := some (5 : Nat) : Fz }].length, decide (n * (1 : Nat) = n * (1 : Nat) ∧ (0 : Nat) ≤ n * (1 : Nat) ∧ n * (1 : Nat) = (bytesA b).length) = true, decide ((n + s.size) * (1 : Nat) ≤ (140737488355328 : Nat)) = true, decide ((bytesA s).length = s.size * (1 : Nat)) = true, ((bytesA b ++ bytesA s) : List AV) = (bytesA (b ++ s))]) (by kernel_rfl) ⟨(c), (by (simp; done)), (by (first | exact e | exact decide_t (by rw [bytesA_len]; omega) | exact decide_t (by omega) | exact decide_t ⟨by omega, by omega, by rw [bytesA_len]; omega⟩)), (by (first | exact e | exact decide_t (by rw [bytesA_len]; omega) | exact decide_t (by omega) | exact decide_t ⟨by omega, by omega, by rw [bytesA_len]; omega⟩)), (by (first | exact e | exact decide_t (by rw [bytesA_len]; omega) | exact decide_t (by omega) | exact decide_t ⟨by omega, by omega, by rw [bytesA_len]; omega⟩)), (by (first | exact e | exact decide_t (by rw [bytesA_len]; omega) | exact decide_t (by omega) | exact decide_t ⟨by omega, by omega, by rw [bytesA_len]; omega⟩)), trivial⟩).1 rfl (by (simp; done))
end Go.Proofs.YtjgjcpbkmeillaaDoor
