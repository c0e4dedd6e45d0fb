/- What the library's functions do that are called: fields, and the first of some bytes; laid by the kit's own tool. By the prover of this seat. -/
import Derived.Shelf.Strings.Fields
import Derived.Shelf.Strings.IndexAnyAll
import Derived.Test.YtcnlgdbmcdlknaaDoorProg
set_option linter.unusedVariables false
namespace Go.Proofs
open Go.Shelf
def Tryd.lays157_ren : Go.Shelf.Ren := ⟨fun | 157 => 46 | 229 => 60 | 199 => 61 | 261 => 69 | 311 => 75 | 312 => 76 | n => n, fun | 9 => 9 | 31 => 119 | 3 => 3 | 5 => 5 | 4 => 4 | 119 => 143 | 0 => 0 | 40 => 145 | 152 => 154 | 21 => 21 | 154 => 156 | 51 => 38 | 141 => 158 | 196 => 170 | 193 => 167 | 198 => 172 | 49 => 60 | 194 => 168 | 201 => 175 | 226 => 180 | 46 => 55 | 227 => 181 | n => n, fun | 0 => 1 | 6 => 2 | n => n⟩
theorem Tryd.lays157 : Go.Proofs.Lays.n157 Tryd.prog Tryd.lays157_ren := {
  mixed := by kernel_rfl
  f157 := Tryd.func46.trans (congrArg some (by kernel_rfl))
  f199 := Tryd.func61.trans (congrArg some (by kernel_rfl))
  f229 := Tryd.func60.trans (congrArg some (by kernel_rfl))
  f261 := Tryd.func69.trans (congrArg some (by kernel_rfl))
  f311 := Tryd.func75.trans (congrArg some (by kernel_rfl))
  f312 := Tryd.func76.trans (congrArg some (by kernel_rfl))
  t0 := Tryd.underlying0
  a0 := Tryd.isAgg0
  z0 := Tryd.sizeOf0
  v0 := Tryd.zeroValue0
  t3 := Tryd.underlying3
  a3 := Tryd.isAgg3
  z3 := Tryd.sizeOf3
  v3 := Tryd.zeroValue3
  t4 := Tryd.underlying4
  a4 := Tryd.isAgg4
  z4 := Tryd.sizeOf4
  v4 := Tryd.zeroValue4
  t5 := Tryd.underlying5
  a5 := Tryd.isAgg5
  z5 := Tryd.sizeOf5
  v5 := Tryd.zeroValue5
  t9 := Tryd.underlying9
  a9 := Tryd.isAgg9
  z9 := Tryd.sizeOf9
  v9 := Tryd.zeroValue9
  t21 := Tryd.underlying21
  a21 := Tryd.isAgg21
  z21 := Tryd.sizeOf21
  v21 := Tryd.zeroValue21
  t31 := Tryd.underlying119
  a31 := Tryd.isAgg119
  z31 := Tryd.sizeOf119
  v31 := Tryd.zeroValue119
  t40 := Tryd.underlying145
  a40 := Tryd.isAgg145
  z40 := Tryd.sizeOf145
  v40 := Tryd.zeroValue145
  t46 := Tryd.underlying55
  a46 := Tryd.isAgg55
  z46 := Tryd.sizeOf55
  v46 := Tryd.zeroValue55
  t49 := Tryd.underlying60
  a49 := Tryd.isAgg60
  z49 := Tryd.sizeOf60
  v49 := Tryd.zeroValue60
  t51 := Tryd.underlying38
  a51 := Tryd.isAgg38
  z51 := Tryd.sizeOf38
  v51 := Tryd.zeroValue38
  t119 := Tryd.underlying143
  a119 := Tryd.isAgg143
  z119 := Tryd.sizeOf143
  t141 := Tryd.underlying158
  a141 := Tryd.isAgg158
  z141 := Tryd.sizeOf158
  v141 := Tryd.zeroValue158
  t152 := Tryd.underlying154
  a152 := Tryd.isAgg154
  z152 := Tryd.sizeOf154
  v152 := Tryd.zeroValue154
  t154 := Tryd.underlying156
  a154 := Tryd.isAgg156
  z154 := Tryd.sizeOf156
  v154 := Tryd.zeroValue156
  t193 := Tryd.underlying167
  a193 := Tryd.isAgg167
  z193 := Tryd.sizeOf167
  v193 := Tryd.zeroValue167
  t194 := Tryd.underlying168
  a194 := Tryd.isAgg168
  z194 := Tryd.sizeOf168
  v194 := Tryd.zeroValue168
  t196 := Tryd.underlying170
  a196 := Tryd.isAgg170
  z196 := Tryd.sizeOf170
  v196 := Tryd.zeroValue170
  t198 := Tryd.underlying172
  a198 := Tryd.isAgg172
  z198 := Tryd.sizeOf172
  v198 := Tryd.zeroValue172
  t201 := Tryd.underlying175
  a201 := Tryd.isAgg175
  z201 := Tryd.sizeOf175
  v201 := Tryd.zeroValue175
  t226 := Tryd.underlying180
  a226 := Tryd.isAgg180
  z226 := Tryd.sizeOf180
  v226 := Tryd.zeroValue180
  t227 := Tryd.underlying181
  a227 := Tryd.isAgg181
  z227 := Tryd.sizeOf181
  v227 := Tryd.zeroValue181
  g0 := by kernel_rfl
  g6 := by kernel_rfl }
open Go.RowKit Go.Lib in
/-- strings.Fields, the table by 'Lib.TabIs' (as strings.TrimSpace's contract). 'hg': the table's number, by its name: at a dump 'by kernel_rfl'. (LAID: no walk: one application.) -/
theorem Tryd.strings_Fields (s : ByteArray) (w : World) (hs : s.size < 4294967281) (hascii : ∀ (j : Nat) b, s.data.toList[j]? = some b → b.toNat < 128) (htab : Lib.TabIs Tryd.prog w "strings.asciiSpace" .u8 Lib.asciiSpaceTab) :
    Calls Tryd.prog 46 #[.string s] w fun e w' =>
      e = .returned (.slice (some ⟨w.heap.size, 0, none⟩) (Lib.fields s.data.toList).length (Lib.fields s.data.toList).length) ∧ w' = w.alloc (.cells ((Lib.fields s.data.toList).map fun l => Value.string ⟨l.toArray⟩).toArray 9) := Any.strings_Fields Tryd.lays157 (by kernel_rfl) (by kernel_rfl) s w hs hascii htab
def Tryd.lays153_ren : Go.Shelf.Ren := ⟨fun | 153 => 62 | 152 => 70 | 226 => 71 | 227 => 72 | 228 => 73 | 137 => 77 | 119 => 78 | 224 => 79 | 225 => 80 | 217 => 81 | 266 => 82 | n => n, fun | 9 => 9 | 3 => 3 | 4 => 4 | 5 => 5 | 21 => 21 | 117 => 162 | 116 => 161 | 0 => 0 | 46 => 55 | 124 => 178 | n => n, fun | n => n⟩
theorem Tryd.lays153 : Go.Proofs.Lays.n153 Tryd.prog Tryd.lays153_ren := {
  mixed := by kernel_rfl
  f119 := Tryd.func78.trans (congrArg some (by kernel_rfl))
  f137 := Tryd.func77.trans (congrArg some (by kernel_rfl))
  f152 := Tryd.func70.trans (congrArg some (by kernel_rfl))
  f153 := Tryd.func62.trans (congrArg some (by kernel_rfl))
  f217 := Tryd.func81.trans (congrArg some (by kernel_rfl))
  f224 := Tryd.func79.trans (congrArg some (by kernel_rfl))
  f225 := Tryd.func80.trans (congrArg some (by kernel_rfl))
  f226 := Tryd.func71.trans (congrArg some (by kernel_rfl))
  f227 := Tryd.func72.trans (congrArg some (by kernel_rfl))
  f228 := Tryd.func73.trans (congrArg some (by kernel_rfl))
  f266 := Tryd.func82.trans (congrArg some (by kernel_rfl))
  t0 := Tryd.underlying0
  a0 := Tryd.isAgg0
  z0 := Tryd.sizeOf0
  v0 := Tryd.zeroValue0
  t3 := Tryd.underlying3
  a3 := Tryd.isAgg3
  z3 := Tryd.sizeOf3
  v3 := Tryd.zeroValue3
  t4 := Tryd.underlying4
  a4 := Tryd.isAgg4
  z4 := Tryd.sizeOf4
  v4 := Tryd.zeroValue4
  t5 := Tryd.underlying5
  a5 := Tryd.isAgg5
  z5 := Tryd.sizeOf5
  v5 := Tryd.zeroValue5
  t9 := Tryd.underlying9
  a9 := Tryd.isAgg9
  z9 := Tryd.sizeOf9
  v9 := Tryd.zeroValue9
  t21 := Tryd.underlying21
  a21 := Tryd.isAgg21
  z21 := Tryd.sizeOf21
  v21 := Tryd.zeroValue21
  t46 := Tryd.underlying55
  a46 := Tryd.isAgg55
  z46 := Tryd.sizeOf55
  v46 := Tryd.zeroValue55
  t116 := Tryd.underlying161
  a116 := Tryd.isAgg161
  z116 := Tryd.sizeOf161
  t117 := Tryd.underlying162
  a117 := Tryd.isAgg162
  z117 := Tryd.sizeOf162
  v117 := Tryd.zeroValue162
  t124 := Tryd.underlying178
  a124 := Tryd.isAgg178
  z124 := Tryd.sizeOf178
  v124 := Tryd.zeroValue178 }
open Go.RowKit Go.Lib in
theorem Tryd.strings_IndexAny_laid (s chars : ByteArray) (w : World) (hs : s.size < 4294967281) (hcs : chars.size < 4294967281) (has : ∀ (j : Nat) b, s.data.toList[j]? = some b → b.toNat < 128) (hac : ∀ (j : Nat) b, chars.data.toList[j]? = some b → b.toNat < 128) :
    Calls Tryd.prog 62 #[.string s, .string chars] w fun e w' => e = .returned (.int .i64 (Lib.indexAny s.data.toList chars.data.toList)) ∧ Below w.heap.size w w' := Any.strings_IndexAny_laid Tryd.lays153 (by kernel_rfl) s chars w hs hcs has hac
end Go.Proofs
