/- Requests' forms, all. By the prover of this seat. -/
import Derived.Test.YtcnlgdbmcdlknaaDoorYe
set_option linter.unusedVariables false
set_option linter.unusedSimpArgs false
set_option maxRecDepth 100000
set_option maxHeartbeats 4000000
namespace Go.Proofs.YtcnlgdbmcdlknaaDoor
open Go.RowKit Go.Pm
theorem rq1 (f : Fm) (h : PS 25 [st (fldB 1)] (fmA f)) : PS 8 [i64 1] (.tup [fmA f, bl true]) := pure_of (hs := hint [((1,1), {call := some ((A (entC (1 : Nat))))}), ((4,2), {call := some ((fmA f))})]) (ps := [_, _]) (by kernel_rfl) ⟨req_in 1 (by omega) (by omega), h, trivial⟩
theorem rq2 (f : Fm) (h : PS 25 [st (fldB 2)] (fmA f)) : PS 8 [i64 2] (.tup [fmA f, bl true]) := pure_of (hs := hint [((1,1), {call := some ((A (entC (2 : Nat))))}), ((4,2), {call := some ((fmA f))})]) (ps := [_, _]) (by kernel_rfl) ⟨req_in 2 (by omega) (by omega), h, trivial⟩
theorem rq3 (f : Fm) (h : PS 25 [st (fldB 3)] (fmA f)) : PS 8 [i64 3] (.tup [fmA f, bl true]) := pure_of (hs := hint [((1,1), {call := some ((A (entC (3 : Nat))))}), ((4,2), {call := some ((fmA f))})]) (ps := [_, _]) (by kernel_rfl) ⟨req_in 3 (by omega) (by omega), h, trivial⟩
theorem rq4 (f : Fm) (h : PS 25 [st (fldB 4)] (fmA f)) : PS 8 [i64 4] (.tup [fmA f, bl true]) := pure_of (hs := hint [((1,1), {call := some ((A (entC (4 : Nat))))}), ((4,2), {call := some ((fmA f))})]) (ps := [_, _]) (by kernel_rfl) ⟨req_in 4 (by omega) (by omega), h, trivial⟩
theorem rq5 (f : Fm) (h : PS 25 [st (fldB 5)] (fmA f)) : PS 8 [i64 5] (.tup [fmA f, bl true]) := pure_of (hs := hint [((1,1), {call := some ((A (entC (5 : Nat))))}), ((4,2), {call := some ((fmA f))})]) (ps := [_, _]) (by kernel_rfl) ⟨req_in 5 (by omega) (by omega), h, trivial⟩
theorem rq6 (f : Fm) (h : PS 25 [st (fldB 6)] (fmA f)) : PS 8 [i64 6] (.tup [fmA f, bl true]) := pure_of (hs := hint [((1,1), {call := some ((A (entC (6 : Nat))))}), ((4,2), {call := some ((fmA f))})]) (ps := [_, _]) (by kernel_rfl) ⟨req_in 6 (by omega) (by omega), h, trivial⟩
theorem rq7 (f : Fm) (h : PS 25 [st (fldB 7)] (fmA f)) : PS 8 [i64 7] (.tup [fmA f, bl true]) := pure_of (hs := hint [((1,1), {call := some ((A (entC (7 : Nat))))}), ((4,2), {call := some ((fmA f))})]) (ps := [_, _]) (by kernel_rfl) ⟨req_in 7 (by omega) (by omega), h, trivial⟩
theorem rq8 (f : Fm) (h : PS 25 [st (fldB 8)] (fmA f)) : PS 8 [i64 8] (.tup [fmA f, bl true]) := pure_of (hs := hint [((1,1), {call := some ((A (entC (8 : Nat))))}), ((4,2), {call := some ((fmA f))})]) (ps := [_, _]) (by kernel_rfl) ⟨req_in 8 (by omega) (by omega), h, trivial⟩
theorem rq9 (f : Fm) (h : PS 25 [st (fldB 9)] (fmA f)) : PS 8 [i64 9] (.tup [fmA f, bl true]) := pure_of (hs := hint [((1,1), {call := some ((A (entC (9 : Nat))))}), ((4,2), {call := some ((fmA f))})]) (ps := [_, _]) (by kernel_rfl) ⟨req_in 9 (by omega) (by omega), h, trivial⟩
theorem rq10 (f : Fm) (h : PS 25 [st (fldB 10)] (fmA f)) : PS 8 [i64 10] (.tup [fmA f, bl true]) := pure_of (hs := hint [((1,1), {call := some ((A (entC (10 : Nat))))}), ((4,2), {call := some ((fmA f))})]) (ps := [_, _]) (by kernel_rfl) ⟨req_in 10 (by omega) (by omega), h, trivial⟩
theorem rq11 (f : Fm) (h : PS 25 [st (fldB 11)] (fmA f)) : PS 8 [i64 11] (.tup [fmA f, bl true]) := pure_of (hs := hint [((1,1), {call := some ((A (entC (11 : Nat))))}), ((4,2), {call := some ((fmA f))})]) (ps := [_, _]) (by kernel_rfl) ⟨req_in 11 (by omega) (by omega), h, trivial⟩
theorem rq12 (f : Fm) (h : PS 25 [st (fldB 12)] (fmA f)) : PS 8 [i64 12] (.tup [fmA f, bl true]) := pure_of (hs := hint [((1,1), {call := some ((A (entC (12 : Nat))))}), ((4,2), {call := some ((fmA f))})]) (ps := [_, _]) (by kernel_rfl) ⟨req_in 12 (by omega) (by omega), h, trivial⟩
theorem rq13 (f : Fm) (h : PS 25 [st (fldB 13)] (fmA f)) : PS 8 [i64 13] (.tup [fmA f, bl true]) := pure_of (hs := hint [((1,1), {call := some ((A (entC (13 : Nat))))}), ((4,2), {call := some ((fmA f))})]) (ps := [_, _]) (by kernel_rfl) ⟨req_in 13 (by omega) (by omega), h, trivial⟩
theorem rq14 (f : Fm) (h : PS 25 [st (fldB 14)] (fmA f)) : PS 8 [i64 14] (.tup [fmA f, bl true]) := pure_of (hs := hint [((1,1), {call := some ((A (entC (14 : Nat))))}), ((4,2), {call := some ((fmA f))})]) (ps := [_, _]) (by kernel_rfl) ⟨req_in 14 (by omega) (by omega), h, trivial⟩
theorem rq15 (f : Fm) (h : PS 25 [st (fldB 15)] (fmA f)) : PS 8 [i64 15] (.tup [fmA f, bl true]) := pure_of (hs := hint [((1,1), {call := some ((A (entC (15 : Nat))))}), ((4,2), {call := some ((fmA f))})]) (ps := [_, _]) (by kernel_rfl) ⟨req_in 15 (by omega) (by omega), h, trivial⟩
theorem rq16 (f : Fm) (h : PS 25 [st (fldB 16)] (fmA f)) : PS 8 [i64 16] (.tup [fmA f, bl true]) := pure_of (hs := hint [((1,1), {call := some ((A (entC (16 : Nat))))}), ((4,2), {call := some ((fmA f))})]) (ps := [_, _]) (by kernel_rfl) ⟨req_in 16 (by omega) (by omega), h, trivial⟩
theorem rq17 (f : Fm) (h : PS 25 [st (fldB 17)] (fmA f)) : PS 8 [i64 17] (.tup [fmA f, bl true]) := pure_of (hs := hint [((1,1), {call := some ((A (entC (17 : Nat))))}), ((4,2), {call := some ((fmA f))})]) (ps := [_, _]) (by kernel_rfl) ⟨req_in 17 (by omega) (by omega), h, trivial⟩
theorem rq18 (f : Fm) (h : PS 25 [st (fldB 18)] (fmA f)) : PS 8 [i64 18] (.tup [fmA f, bl true]) := pure_of (hs := hint [((1,1), {call := some ((A (entC (18 : Nat))))}), ((4,2), {call := some ((fmA f))})]) (ps := [_, _]) (by kernel_rfl) ⟨req_in 18 (by omega) (by omega), h, trivial⟩
theorem rq19 (f : Fm) (h : PS 25 [st (fldB 19)] (fmA f)) : PS 8 [i64 19] (.tup [fmA f, bl true]) := pure_of (hs := hint [((1,1), {call := some ((A (entC (19 : Nat))))}), ((4,2), {call := some ((fmA f))})]) (ps := [_, _]) (by kernel_rfl) ⟨req_in 19 (by omega) (by omega), h, trivial⟩
theorem rq20 (f : Fm) (h : PS 25 [st (fldB 20)] (fmA f)) : PS 8 [i64 20] (.tup [fmA f, bl true]) := pure_of (hs := hint [((1,1), {call := some ((A (entC (20 : Nat))))}), ((4,2), {call := some ((fmA f))})]) (ps := [_, _]) (by kernel_rfl) ⟨req_in 20 (by omega) (by omega), h, trivial⟩
theorem rq21 (f : Fm) (h : PS 25 [st (fldB 21)] (fmA f)) : PS 8 [i64 21] (.tup [fmA f, bl true]) := pure_of (hs := hint [((1,1), {call := some ((A (entC (21 : Nat))))}), ((4,2), {call := some ((fmA f))})]) (ps := [_, _]) (by kernel_rfl) ⟨req_in 21 (by omega) (by omega), h, trivial⟩
theorem rq22 (f : Fm) (h : PS 25 [st (fldB 22)] (fmA f)) : PS 8 [i64 22] (.tup [fmA f, bl true]) := pure_of (hs := hint [((1,1), {call := some ((A (entC (22 : Nat))))}), ((4,2), {call := some ((fmA f))})]) (ps := [_, _]) (by kernel_rfl) ⟨req_in 22 (by omega) (by omega), h, trivial⟩
theorem rq23 (f : Fm) (h : PS 25 [st (fldB 23)] (fmA f)) : PS 8 [i64 23] (.tup [fmA f, bl true]) := pure_of (hs := hint [((1,1), {call := some ((A (entC (23 : Nat))))}), ((4,2), {call := some ((fmA f))})]) (ps := [_, _]) (by kernel_rfl) ⟨req_in 23 (by omega) (by omega), h, trivial⟩
theorem rq24 (f : Fm) (h : PS 25 [st (fldB 24)] (fmA f)) : PS 8 [i64 24] (.tup [fmA f, bl true]) := pure_of (hs := hint [((1,1), {call := some ((A (entC (24 : Nat))))}), ((4,2), {call := some ((fmA f))})]) (ps := [_, _]) (by kernel_rfl) ⟨req_in 24 (by omega) (by omega), h, trivial⟩
theorem rq25 (f : Fm) (h : PS 25 [st (fldB 25)] (fmA f)) : PS 8 [i64 25] (.tup [fmA f, bl true]) := pure_of (hs := hint [((1,1), {call := some ((A (entC (25 : Nat))))}), ((4,2), {call := some ((fmA f))})]) (ps := [_, _]) (by kernel_rfl) ⟨req_in 25 (by omega) (by omega), h, trivial⟩
theorem rq26 (f : Fm) (h : PS 25 [st (fldB 26)] (fmA f)) : PS 8 [i64 26] (.tup [fmA f, bl true]) := pure_of (hs := hint [((1,1), {call := some ((A (entC (26 : Nat))))}), ((4,2), {call := some ((fmA f))})]) (ps := [_, _]) (by kernel_rfl) ⟨req_in 26 (by omega) (by omega), h, trivial⟩
theorem rq27 (f : Fm) (h : PS 25 [st (fldB 27)] (fmA f)) : PS 8 [i64 27] (.tup [fmA f, bl true]) := pure_of (hs := hint [((1,1), {call := some ((A (entC (27 : Nat))))}), ((4,2), {call := some ((fmA f))})]) (ps := [_, _]) (by kernel_rfl) ⟨req_in 27 (by omega) (by omega), h, trivial⟩
theorem rq28 (f : Fm) (h : PS 25 [st (fldB 28)] (fmA f)) : PS 8 [i64 28] (.tup [fmA f, bl true]) := pure_of (hs := hint [((1,1), {call := some ((A (entC (28 : Nat))))}), ((4,2), {call := some ((fmA f))})]) (ps := [_, _]) (by kernel_rfl) ⟨req_in 28 (by omega) (by omega), h, trivial⟩
theorem rq29 (f : Fm) (h : PS 25 [st (fldB 29)] (fmA f)) : PS 8 [i64 29] (.tup [fmA f, bl true]) := pure_of (hs := hint [((1,1), {call := some ((A (entC (29 : Nat))))}), ((4,2), {call := some ((fmA f))})]) (ps := [_, _]) (by kernel_rfl) ⟨req_in 29 (by omega) (by omega), h, trivial⟩
theorem rq30 (f : Fm) (h : PS 25 [st (fldB 30)] (fmA f)) : PS 8 [i64 30] (.tup [fmA f, bl true]) := pure_of (hs := hint [((1,1), {call := some ((A (entC (30 : Nat))))}), ((4,2), {call := some ((fmA f))})]) (ps := [_, _]) (by kernel_rfl) ⟨req_in 30 (by omega) (by omega), h, trivial⟩
theorem rq31 (f : Fm) (h : PS 25 [st (fldB 31)] (fmA f)) : PS 8 [i64 31] (.tup [fmA f, bl true]) := pure_of (hs := hint [((1,1), {call := some ((A (entC (31 : Nat))))}), ((4,2), {call := some ((fmA f))})]) (ps := [_, _]) (by kernel_rfl) ⟨req_in 31 (by omega) (by omega), h, trivial⟩
theorem rq32 (f : Fm) (h : PS 25 [st (fldB 32)] (fmA f)) : PS 8 [i64 32] (.tup [fmA f, bl true]) := pure_of (hs := hint [((1,1), {call := some ((A (entC (32 : Nat))))}), ((4,2), {call := some ((fmA f))})]) (ps := [_, _]) (by kernel_rfl) ⟨req_in 32 (by omega) (by omega), h, trivial⟩
theorem rq33 (f : Fm) (h : PS 25 [st (fldB 33)] (fmA f)) : PS 8 [i64 33] (.tup [fmA f, bl true]) := pure_of (hs := hint [((1,1), {call := some ((A (entC (33 : Nat))))}), ((4,2), {call := some ((fmA f))})]) (ps := [_, _]) (by kernel_rfl) ⟨req_in 33 (by omega) (by omega), h, trivial⟩
theorem rq34 (f : Fm) (h : PS 25 [st (fldB 34)] (fmA f)) : PS 8 [i64 34] (.tup [fmA f, bl true]) := pure_of (hs := hint [((1,1), {call := some ((A (entC (34 : Nat))))}), ((4,2), {call := some ((fmA f))})]) (ps := [_, _]) (by kernel_rfl) ⟨req_in 34 (by omega) (by omega), h, trivial⟩
theorem rq35 (f : Fm) (h : PS 25 [st (fldB 35)] (fmA f)) : PS 8 [i64 35] (.tup [fmA f, bl true]) := pure_of (hs := hint [((1,1), {call := some ((A (entC (35 : Nat))))}), ((4,2), {call := some ((fmA f))})]) (ps := [_, _]) (by kernel_rfl) ⟨req_in 35 (by omega) (by omega), h, trivial⟩
theorem rq36 (f : Fm) (h : PS 25 [st (fldB 36)] (fmA f)) : PS 8 [i64 36] (.tup [fmA f, bl true]) := pure_of (hs := hint [((1,1), {call := some ((A (entC (36 : Nat))))}), ((4,2), {call := some ((fmA f))})]) (ps := [_, _]) (by kernel_rfl) ⟨req_in 36 (by omega) (by omega), h, trivial⟩
theorem rq37 (f : Fm) (h : PS 25 [st (fldB 37)] (fmA f)) : PS 8 [i64 37] (.tup [fmA f, bl true]) := pure_of (hs := hint [((1,1), {call := some ((A (entC (37 : Nat))))}), ((4,2), {call := some ((fmA f))})]) (ps := [_, _]) (by kernel_rfl) ⟨req_in 37 (by omega) (by omega), h, trivial⟩
theorem rq38 (f : Fm) (h : PS 25 [st (fldB 38)] (fmA f)) : PS 8 [i64 38] (.tup [fmA f, bl true]) := pure_of (hs := hint [((1,1), {call := some ((A (entC (38 : Nat))))}), ((4,2), {call := some ((fmA f))})]) (ps := [_, _]) (by kernel_rfl) ⟨req_in 38 (by omega) (by omega), h, trivial⟩
theorem rq39 (f : Fm) (h : PS 25 [st (fldB 39)] (fmA f)) : PS 8 [i64 39] (.tup [fmA f, bl true]) := pure_of (hs := hint [((1,1), {call := some ((A (entC (39 : Nat))))}), ((4,2), {call := some ((fmA f))})]) (ps := [_, _]) (by kernel_rfl) ⟨req_in 39 (by omega) (by omega), h, trivial⟩
theorem rq40 (f : Fm) (h : PS 25 [st (fldB 40)] (fmA f)) : PS 8 [i64 40] (.tup [fmA f, bl true]) := pure_of (hs := hint [((1,1), {call := some ((A (entC (40 : Nat))))}), ((4,2), {call := some ((fmA f))})]) (ps := [_, _]) (by kernel_rfl) ⟨req_in 40 (by omega) (by omega), h, trivial⟩
theorem rq41 (f : Fm) (h : PS 25 [st (fldB 41)] (fmA f)) : PS 8 [i64 41] (.tup [fmA f, bl true]) := pure_of (hs := hint [((1,1), {call := some ((A (entC (41 : Nat))))}), ((4,2), {call := some ((fmA f))})]) (ps := [_, _]) (by kernel_rfl) ⟨req_in 41 (by omega) (by omega), h, trivial⟩
theorem rq42 (f : Fm) (h : PS 25 [st (fldB 42)] (fmA f)) : PS 8 [i64 42] (.tup [fmA f, bl true]) := pure_of (hs := hint [((1,1), {call := some ((A (entC (42 : Nat))))}), ((4,2), {call := some ((fmA f))})]) (ps := [_, _]) (by kernel_rfl) ⟨req_in 42 (by omega) (by omega), h, trivial⟩
theorem rq43 (f : Fm) (h : PS 25 [st (fldB 43)] (fmA f)) : PS 8 [i64 43] (.tup [fmA f, bl true]) := pure_of (hs := hint [((1,1), {call := some ((A (entC (43 : Nat))))}), ((4,2), {call := some ((fmA f))})]) (ps := [_, _]) (by kernel_rfl) ⟨req_in 43 (by omega) (by omega), h, trivial⟩
theorem rq44 (f : Fm) (h : PS 25 [st (fldB 44)] (fmA f)) : PS 8 [i64 44] (.tup [fmA f, bl true]) := pure_of (hs := hint [((1,1), {call := some ((A (entC (44 : Nat))))}), ((4,2), {call := some ((fmA f))})]) (ps := [_, _]) (by kernel_rfl) ⟨req_in 44 (by omega) (by omega), h, trivial⟩
theorem rq45 (f : Fm) (h : PS 25 [st (fldB 45)] (fmA f)) : PS 8 [i64 45] (.tup [fmA f, bl true]) := pure_of (hs := hint [((1,1), {call := some ((A (entC (45 : Nat))))}), ((4,2), {call := some ((fmA f))})]) (ps := [_, _]) (by kernel_rfl) ⟨req_in 45 (by omega) (by omega), h, trivial⟩
theorem rq46 (f : Fm) (h : PS 25 [st (fldB 46)] (fmA f)) : PS 8 [i64 46] (.tup [fmA f, bl true]) := pure_of (hs := hint [((1,1), {call := some ((A (entC (46 : Nat))))}), ((4,2), {call := some ((fmA f))})]) (ps := [_, _]) (by kernel_rfl) ⟨req_in 46 (by omega) (by omega), h, trivial⟩
theorem rq47 (f : Fm) (h : PS 25 [st (fldB 47)] (fmA f)) : PS 8 [i64 47] (.tup [fmA f, bl true]) := pure_of (hs := hint [((1,1), {call := some ((A (entC (47 : Nat))))}), ((4,2), {call := some ((fmA f))})]) (ps := [_, _]) (by kernel_rfl) ⟨req_in 47 (by omega) (by omega), h, trivial⟩
theorem rq48 (f : Fm) (h : PS 25 [st (fldB 48)] (fmA f)) : PS 8 [i64 48] (.tup [fmA f, bl true]) := pure_of (hs := hint [((1,1), {call := some ((A (entC (48 : Nat))))}), ((4,2), {call := some ((fmA f))})]) (ps := [_, _]) (by kernel_rfl) ⟨req_in 48 (by omega) (by omega), h, trivial⟩
theorem rq49 (f : Fm) (h : PS 25 [st (fldB 49)] (fmA f)) : PS 8 [i64 49] (.tup [fmA f, bl true]) := pure_of (hs := hint [((1,1), {call := some ((A (entC (49 : Nat))))}), ((4,2), {call := some ((fmA f))})]) (ps := [_, _]) (by kernel_rfl) ⟨req_in 49 (by omega) (by omega), h, trivial⟩
theorem rq50 (f : Fm) (h : PS 25 [st (fldB 50)] (fmA f)) : PS 8 [i64 50] (.tup [fmA f, bl true]) := pure_of (hs := hint [((1,1), {call := some ((A (entC (50 : Nat))))}), ((4,2), {call := some ((fmA f))})]) (ps := [_, _]) (by kernel_rfl) ⟨req_in 50 (by omega) (by omega), h, trivial⟩
theorem rq51 (f : Fm) (h : PS 25 [st (fldB 51)] (fmA f)) : PS 8 [i64 51] (.tup [fmA f, bl true]) := pure_of (hs := hint [((1,1), {call := some ((A (entC (51 : Nat))))}), ((4,2), {call := some ((fmA f))})]) (ps := [_, _]) (by kernel_rfl) ⟨req_in 51 (by omega) (by omega), h, trivial⟩
theorem rq52 (f : Fm) (h : PS 25 [st (fldB 52)] (fmA f)) : PS 8 [i64 52] (.tup [fmA f, bl true]) := pure_of (hs := hint [((1,1), {call := some ((A (entC (52 : Nat))))}), ((4,2), {call := some ((fmA f))})]) (ps := [_, _]) (by kernel_rfl) ⟨req_in 52 (by omega) (by omega), h, trivial⟩
theorem rq53 (f : Fm) (h : PS 25 [st (fldB 53)] (fmA f)) : PS 8 [i64 53] (.tup [fmA f, bl true]) := pure_of (hs := hint [((1,1), {call := some ((A (entC (53 : Nat))))}), ((4,2), {call := some ((fmA f))})]) (ps := [_, _]) (by kernel_rfl) ⟨req_in 53 (by omega) (by omega), h, trivial⟩
theorem rq54 (f : Fm) (h : PS 25 [st (fldB 54)] (fmA f)) : PS 8 [i64 54] (.tup [fmA f, bl true]) := pure_of (hs := hint [((1,1), {call := some ((A (entC (54 : Nat))))}), ((4,2), {call := some ((fmA f))})]) (ps := [_, _]) (by kernel_rfl) ⟨req_in 54 (by omega) (by omega), h, trivial⟩
theorem rq55 (f : Fm) (h : PS 25 [st (fldB 55)] (fmA f)) : PS 8 [i64 55] (.tup [fmA f, bl true]) := pure_of (hs := hint [((1,1), {call := some ((A (entC (55 : Nat))))}), ((4,2), {call := some ((fmA f))})]) (ps := [_, _]) (by kernel_rfl) ⟨req_in 55 (by omega) (by omega), h, trivial⟩
theorem rq56 (f : Fm) (h : PS 25 [st (fldB 56)] (fmA f)) : PS 8 [i64 56] (.tup [fmA f, bl true]) := pure_of (hs := hint [((1,1), {call := some ((A (entC (56 : Nat))))}), ((4,2), {call := some ((fmA f))})]) (ps := [_, _]) (by kernel_rfl) ⟨req_in 56 (by omega) (by omega), h, trivial⟩
theorem rq57 (f : Fm) (h : PS 25 [st (fldB 57)] (fmA f)) : PS 8 [i64 57] (.tup [fmA f, bl true]) := pure_of (hs := hint [((1,1), {call := some ((A (entC (57 : Nat))))}), ((4,2), {call := some ((fmA f))})]) (ps := [_, _]) (by kernel_rfl) ⟨req_in 57 (by omega) (by omega), h, trivial⟩
theorem rq58 (f : Fm) (h : PS 25 [st (fldB 58)] (fmA f)) : PS 8 [i64 58] (.tup [fmA f, bl true]) := pure_of (hs := hint [((1,1), {call := some ((A (entC (58 : Nat))))}), ((4,2), {call := some ((fmA f))})]) (ps := [_, _]) (by kernel_rfl) ⟨req_in 58 (by omega) (by omega), h, trivial⟩
theorem rq_all (n : Nat) (h0 : 1 ≤ n) (h1 : n ≤ 58) (f : Fm) (h : PS 25 [st (fldB n)] (fmA f)) : PS 8 [i64 n] (.tup [fmA f, bl true]) := by
  match n, h0, h1, h with
  | 0, h0, _, _ => omega
  | 1, _, _, h => exact rq1 f h
  | 2, _, _, h => exact rq2 f h
  | 3, _, _, h => exact rq3 f h
  | 4, _, _, h => exact rq4 f h
  | 5, _, _, h => exact rq5 f h
  | 6, _, _, h => exact rq6 f h
  | 7, _, _, h => exact rq7 f h
  | 8, _, _, h => exact rq8 f h
  | 9, _, _, h => exact rq9 f h
  | 10, _, _, h => exact rq10 f h
  | 11, _, _, h => exact rq11 f h
  | 12, _, _, h => exact rq12 f h
  | 13, _, _, h => exact rq13 f h
  | 14, _, _, h => exact rq14 f h
  | 15, _, _, h => exact rq15 f h
  | 16, _, _, h => exact rq16 f h
  | 17, _, _, h => exact rq17 f h
  | 18, _, _, h => exact rq18 f h
  | 19, _, _, h => exact rq19 f h
  | 20, _, _, h => exact rq20 f h
  | 21, _, _, h => exact rq21 f h
  | 22, _, _, h => exact rq22 f h
  | 23, _, _, h => exact rq23 f h
  | 24, _, _, h => exact rq24 f h
  | 25, _, _, h => exact rq25 f h
  | 26, _, _, h => exact rq26 f h
  | 27, _, _, h => exact rq27 f h
  | 28, _, _, h => exact rq28 f h
  | 29, _, _, h => exact rq29 f h
  | 30, _, _, h => exact rq30 f h
  | 31, _, _, h => exact rq31 f h
  | 32, _, _, h => exact rq32 f h
  | 33, _, _, h => exact rq33 f h
  | 34, _, _, h => exact rq34 f h
  | 35, _, _, h => exact rq35 f h
  | 36, _, _, h => exact rq36 f h
  | 37, _, _, h => exact rq37 f h
  | 38, _, _, h => exact rq38 f h
  | 39, _, _, h => exact rq39 f h
  | 40, _, _, h => exact rq40 f h
  | 41, _, _, h => exact rq41 f h
  | 42, _, _, h => exact rq42 f h
  | 43, _, _, h => exact rq43 f h
  | 44, _, _, h => exact rq44 f h
  | 45, _, _, h => exact rq45 f h
  | 46, _, _, h => exact rq46 f h
  | 47, _, _, h => exact rq47 f h
  | 48, _, _, h => exact rq48 f h
  | 49, _, _, h => exact rq49 f h
  | 50, _, _, h => exact rq50 f h
  | 51, _, _, h => exact rq51 f h
  | 52, _, _, h => exact rq52 f h
  | 53, _, _, h => exact rq53 f h
  | 54, _, _, h => exact rq54 f h
  | 55, _, _, h => exact rq55 f h
  | 56, _, _, h => exact rq56 f h
  | 57, _, _, h => exact rq57 f h
  | 58, _, _, h => exact rq58 f h
  | n + 59, _, h1, _ => omega
def fldL (n : Nat) : List UInt8 := (fldB n).data.toList
def okL (l : List UInt8) : Bool := decide (l.length ≤ 90) && l.all fun b => decide (b.toNat < 128)
theorem fld_ok : ((List.range 59).all fun n => okL (fldL n)) = true := by kernel_rfl
theorem fld_at {n : Nat} (h : n ≤ 58) : (fldL n).length ≤ 90 ∧ ascL (fldL n) := by
  have q := List.all_eq_true.1 fld_ok n (by simp; omega)
  unfold okL at q
  rw [Bool.and_eq_true, decide_eq_true_eq] at q
  exact ⟨q.1, fun j b hb => by simpa using List.all_eq_true.1 q.2 b (List.mem_of_getElem? hb)⟩
/-- the form of a request's fields -/
def reqF (n : Nat) : Fm := formD (fldL n)
theorem request_in (n : Nat) (h0 : 1 ≤ n) (h1 : n ≤ 58) : PS 8 [i64 n] (.tup [fmA (reqF n), bl true]) := by
  refine rq_all n h0 h1 _ ?_
  obtain ⟨a, b⟩ := fld_at h1
  have h := form_ok (fldL n) a b
  rw [show bL (fldL n) = fldB n from ByteArray.ext (by simp [fldL])] at h
  exact h
theorem request_out (n : Int) (h : n < 1 ∨ 58 < n) : PS 8 [i64 n] (.tup [fmA ⟨[], false, 0⟩, bl false]) := Req_out n h
theorem request_any (n : Int) : ∃ f : Fm, PS 8 [i64 n] (.tup [fmA f, bl (decide (1 ≤ n ∧ n ≤ 58))]) := by
  by_cases h : 1 ≤ n ∧ n ≤ 58
  · obtain ⟨k, rfl⟩ : ∃ k : Nat, n = k := ⟨n.toNat, by omega⟩
    rw [decide_eq_true h]
    exact ⟨_, request_in k (by omega) (by omega)⟩
  · rw [decide_eq_false h]
    exact ⟨_, request_out n (by omega)⟩
end Go.Proofs.YtcnlgdbmcdlknaaDoor
