/- Handed over: begun, compared. By the prover of this seat. -/
import Derived.Test.YtdcoomeagbjhlaaWe
set_option linter.unusedVariables false
set_option linter.unusedSimpArgs false
set_option maxRecDepth 100000
set_option maxHeartbeats 4000000
namespace Go.Proofs.Ytdcoomeagbjhlaa
open Go.RowKit Go.Pm
open Go.Proofs.Ytdcoomeagbjhlaa.Cl (Tab tabA setA convA slS TOk setD convD)
theorem aw_ok : Pu 5 [] (bl true) := by
  have h1 := new_good [7] 5 (by omega) (by decide) rfl
  have h2 := put_ok ⟨[7], 5, 0, true⟩ ⟨by decide, by decide, by decide, by decide, by decide⟩
  rw [show putD ⟨[7], 5, 0, true⟩ = (⟨false, 1, [7], true⟩, true) from rfl] at h2
  have h3 := got_ok ⟨[], 0, 0⟩ ⟨false, 1, [7], true⟩ (by decide) (by decide)
  rw [show gotK ⟨[], 0, 0⟩ ⟨false, 1, [7], true⟩ (kindD ⟨false, 1, [7], true⟩) = (⟨[7], 1, 2⟩, 0) from rfl] at h3
  have h4 := data_ok ⟨[7], 1, 2⟩ (by decide)
  exact pure_of (hs := hint [((1,1), {call := some (AV.tup [(A (giveL { data := [(7 : Int)], most := (5 : Int), at_ := (0 : Int), live := true : Give })), (i64 (0 : Int))])}), ((2,1), {call := some ((putR ({ incr := false, total := (1 : Int), data := [(7 : Int)], last := true : Piece }, true)))}), ((3,2), {call := some ((takeR ({ data := [(7 : Int)], total := (1 : Int), state := (2 : Int) : Take }, (0 : Int))))}), ((4,1), {call := some (AV.tup [(slI [(7 : Int)]), (i64 (2 : Int))])})]) (ps := [_, _, _, _]) (by kernel_rfl) ⟨(h1), (h2), (h3), (h4), trivial⟩
def tb1 : Tab := ⟨[⟨1, 1, 1048577, 5⟩], []⟩
def ask0 : Cl.Asked := ⟨2, 2097153, 1, 5, 9, 6⟩
def tb2 : Tab := ⟨[⟨1, 1, 1048577, 5⟩], [⟨ask0, 1, 1048577⟩]⟩
theorem tok0 : TOk ⟨[], []⟩ := ⟨List.Pairwise.nil, by simp, by simp, by simp, by simp⟩
theorem tok1 : TOk tb1 := ⟨by simp [tb1, keysApart], by simp [tb1], by simp [tb1], by simp [tb1], by simp [tb1]⟩
theorem tok2 : TOk tb2 := ⟨by simp [tb2, keysApart], by simp [tb2], by simp [tb2], by simp [tb2], by simp [tb2]⟩
theorem bg_ok (d : List Int) (m : Int) (m0 : 1 ≤ m) (m1 : m ≤ 16382) (hl : d.length ≤ 65536) (hn : numsD d = true) : Pu 6 [slI d, i64 m] (.tup [A (hsL ⟨[], tb2, ⟨d, m, 0, true⟩, ⟨[], 0, 0⟩, false⟩), bl true]) := by
  have h1 := Cl.set_ok ⟨[], []⟩ tok0 1 1 1048577 5 9 (by omega) (by omega)
  rw [show setD ⟨[], []⟩ 1 1 1048577 5 9 = (tb1, [], true) from by decide] at h1
  have h2 := Cl.conv_ok tb1 tok1 ask0 (by decide) (by decide)
  rw [show convD tb1 ask0 = (tb2, [⟨1, 23, [1048577, 2097153, 1, 5, 9, 6]⟩]) from by decide] at h2
  have h3 := new_good d m (by omega) (by omega) hn
  exact pure_of (hs := hint [((2,3), {call := some ((setA (tb1, [], true)))}), ((3,2), {call := some ((convA (tb2, [{ client := (1 : Int), code := (23 : Int), n := [(1048577 : Int), (2097153 : Int), (1 : Int), (5 : Int), (9 : Int), (6 : Int)] : Cl.Send }])))}), ((4,2), {call := some (AV.tup [(A (giveL { data := d, most := m, at_ := (0 : Int), live := true : Give })), (i64 (0 : Int))])})]) (ps := [_, _, _]) (by kernel_rfl) ⟨(h1), (h2), (h3), trivial⟩
noncomputable def hsB : Code := loopOf Try.prog 12 4
def hsS (a b : List Int) (k : Nat) : St := ⟨mkT 26 [(0, slI a), (1, slI b), (12, i64 a.length), (13, i64 k)], []⟩
theorem hs_step (a : List Int) (k : Nat) (hk : k < a.length) (hl : a.length ≤ 1000000) : Tri C0 hsB (hsS a a k) .normal (hsS a a (k + 1)) := by
  exact runF_ok (hs := hint [((4,0), {val := some (bl (true))}), ((6,2), {cells := some (eI (nth a k) ++ List.flatMap eI (List.drop (k + (1 : Nat)) a)), sym := true}), ((6,6), {cells := some (eI (nth a k) ++ List.flatMap eI (List.drop (k + (1 : Nat)) a)), sym := true}), ((6,8), {val := some (bl (false))}), ((8,0), {val := some (i64 ((↑k : Int) + (1 : Int)))})]) (f := { ks := [0, 1, 12, 13] }) (ps := [bl (decide ((↑k : Int) < (↑a.length : Int))) = bl (true), decide ((0 : Int) ≤ (↑k : Int) ∧ (↑k : Int) < (↑a.length : Int)) = true, ((List.drop ((↑k : Int).toNat * (1 : Nat)) (List.flatMap eI a)) : List AV) = (eI (nth a k) ++ List.flatMap eI (List.drop (k + (1 : Nat)) a)), decide ((0 : Int) ≤ (↑k : Int) ∧ (↑k : Int) < (↑a.length : Int)) = true, ((List.drop ((↑k : Int).toNat * (1 : Nat)) (List.flatMap eI a)) : List AV) = (eI (nth a k) ++ List.flatMap eI (List.drop (k + (1 : Nat)) a)), bl (nth a k != nth a k) = bl (false), i64 (IntKind.i64.wrap ((↑k : Int) + (1 : Int))) = i64 ((↑k : Int) + (1 : Int)), true = true]) (by kernel_rfl) ⟨(bdT (by omega)), (by exact decide_t (by omega)), (by exact flat_nth (sz := 1) (k := k) (fun _ => rfl) (by omega)), (by exact decide_t (by omega)), (by exact flat_nth (sz := 1) (k := k) (fun _ => rfl) (by omega)), (neT (by omega)), (intE (by exact wrap_i64 (by omega) (by omega))), rfl, trivial⟩
theorem hs_end (a : List Int) : LoopT C0 hsB (hsS a a a.length) (.exit 0) (hsS a a a.length) := by
  exact LoopT.fin (hs := hint [((4,0), {val := some (bl (false))})]) (f := { ks := [0, 1, 12, 13] }) (ps := [bl (decide ((↑a.length : Int) < (↑a.length : Int))) = bl (false), true = true]) (by kernel_rfl) ⟨(bdF (by omega)), rfl, trivial⟩ (by decide)
theorem same_ok (a : List Int) (hl : a.length ≤ 1000000) : Pu 12 [slI a, slI a] (bl true) := by
  have L := LoopT.count (hsS a a) a.length (fun k hk => hs_step a k hk hl) (hs_end a) 0 (by omega)
  exact pure_of (hs := hint [((1,4), {val := some (bl (false))}), ((4,1000), {loop := some ({ ks := [0, 1, 12, 13] }, hsS a a (0 : Nat), Ex.exit (0 : Nat), hsS a a a.length)})]) (ps := [bl ((↑a.length : Int) != (↑a.length : Int)) = bl (false), hsS a a (0 : Nat) = hsS a a (0 : Nat), _, true = true]) (by kernel_rfl) ⟨(neT (by omega)), rfl, L, rfl, trivial⟩
end Go.Proofs.Ytdcoomeagbjhlaa
