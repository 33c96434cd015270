/-
  The shelf's contracts on strings, laid at this dump in plain words by the kit's tools (lay-shelf, lay-plain). No condition.
-/
import Derived.Shelf.Strings.Builder1
import Derived.Shelf.Strings.Builder2
import Derived.Shelf.Small.Bits
import Derived.Shelf.Small.Strs
import Derived.Shelf.Utf8.RuneCount
import Derived.Shelf.Strings.Search1
import Derived.Shelf.Strings.Search2
import Derived.Shelf.Strings.Search3
import Derived.Shelf.Strings.Count
import Derived.Shelf.Strings.Split
import Derived.Shelf.Strings.Replace
import Derived.Shelf.LaysM
import Derived.Shelf.Strings.SplitShaped
import Derived.Test.YtdmbppgogdkpdaaGreatDoorProg
namespace Go.Proofs
open Go.Shelf
def Tryz.lays146_ren : Go.Shelf.Ren := ⟨fun | 146 => 271 | 221 => 322 | 268 => 350 | 138 => 351 | 143 => 273 | 195 => 378 | 197 => 358 | 218 => 379 | 219 => 326 | 260 => 384 | 217 => 354 | 225 => 355 | 224 => 356 | 267 => 357 | 266 => 382 | 314 => 383 | n => n, fun | 9 => 9 | 31 => 46 | 3 => 3 | 4 => 4 | 0 => 0 | 105 => 286 | 21 => 21 | 5 => 5 | 46 => 87 | 119 => 310 | 139 => 313 | 138 => 312 | 146 => 288 | 51 => 159 | n => n, fun | 1 => 2 | 3 => 5 | 4 => 6 | n => n⟩
theorem Tryz.lays146 : Go.Proofs.Lays.n146 Tryz.prog Tryz.lays146_ren := {
  mixed := by kernel_rfl
  f138 := Tryz.func351.trans (congrArg some (by kernel_rfl))
  f143 := Tryz.func273.trans (congrArg some (by kernel_rfl))
  f146 := Tryz.func271.trans (congrArg some (by kernel_rfl))
  f195 := Tryz.func378.trans (congrArg some (by kernel_rfl))
  f197 := Tryz.func358.trans (congrArg some (by kernel_rfl))
  f217 := Tryz.func354.trans (congrArg some (by kernel_rfl))
  f218 := Tryz.func379.trans (congrArg some (by kernel_rfl))
  f219 := Tryz.func326.trans (congrArg some (by kernel_rfl))
  f221 := Tryz.func322.trans (congrArg some (by kernel_rfl))
  f224 := Tryz.func356.trans (congrArg some (by kernel_rfl))
  f225 := Tryz.func355.trans (congrArg some (by kernel_rfl))
  f260 := Tryz.func384.trans (congrArg some (by kernel_rfl))
  f266 := Tryz.func382.trans (congrArg some (by kernel_rfl))
  f267 := Tryz.func357.trans (congrArg some (by kernel_rfl))
  f268 := Tryz.func350.trans (congrArg some (by kernel_rfl))
  f314 := Tryz.func383.trans (congrArg some (by kernel_rfl))
  t0 := Tryz.underlying0
  a0 := Tryz.isAgg0
  z0 := Tryz.sizeOf0
  v0 := Tryz.zeroValue0
  t3 := Tryz.underlying3
  a3 := Tryz.isAgg3
  z3 := Tryz.sizeOf3
  v3 := Tryz.zeroValue3
  t4 := Tryz.underlying4
  a4 := Tryz.isAgg4
  z4 := Tryz.sizeOf4
  v4 := Tryz.zeroValue4
  t5 := Tryz.underlying5
  a5 := Tryz.isAgg5
  z5 := Tryz.sizeOf5
  v5 := Tryz.zeroValue5
  t9 := Tryz.underlying9
  a9 := Tryz.isAgg9
  z9 := Tryz.sizeOf9
  v9 := Tryz.zeroValue9
  t21 := Tryz.underlying21
  a21 := Tryz.isAgg21
  z21 := Tryz.sizeOf21
  v21 := Tryz.zeroValue21
  t31 := Tryz.underlying46
  a31 := Tryz.isAgg46
  z31 := Tryz.sizeOf46
  v31 := Tryz.zeroValue46
  t46 := Tryz.underlying87
  a46 := Tryz.isAgg87
  z46 := Tryz.sizeOf87
  v46 := Tryz.zeroValue87
  t51 := Tryz.underlying159
  a51 := Tryz.isAgg159
  z51 := Tryz.sizeOf159
  v51 := Tryz.zeroValue159
  t105 := Tryz.underlying286
  a105 := Tryz.isAgg286
  z105 := Tryz.sizeOf286
  v105 := Tryz.zeroValue286
  t119 := Tryz.underlying310
  a119 := Tryz.isAgg310
  z119 := Tryz.sizeOf310
  t138 := Tryz.underlying312
  a138 := Tryz.isAgg312
  z138 := Tryz.sizeOf312
  v138 := Tryz.zeroValue312
  t139 := Tryz.underlying313
  a139 := Tryz.isAgg313
  z139 := Tryz.sizeOf313
  v139 := Tryz.zeroValue313
  t146 := Tryz.underlying288
  a146 := Tryz.isAgg288
  z146 := Tryz.sizeOf288
  v146 := Tryz.zeroValue288
  g1 := by kernel_rfl
  g3 := by kernel_rfl
  g4 := by kernel_rfl }
open Go.RowKit Go.Lib in
/-- strings.Split. (LAID: no walk: one application.) -/
theorem Tryz.strings_Split (s sep : ByteArray) (m : Int) (w : World) (hs : s.size < 4294967281) (hm : w.cell? ⟨2, 0, none⟩ = some (.int .i64 m)) (h1 : 1 ≤ sep.size) :
    Calls Tryz.prog 271 #[.string s, .string sep] w fun e w' =>
      e = .returned (.slice (some ⟨w.heap.size, 0, none⟩) (Lib.countB s sep + 1) (Lib.countB s sep + 1)) ∧ w' = w.alloc (.cells ((Lib.splitB sep 0 (Lib.countB s sep) s).map Value.string).toArray 9) := Any.strings_Split Tryz.lays146 (by kernel_rfl) s sep m w hs hm h1
def Tryz.lays155_ren : Go.Shelf.Ren := ⟨fun | 155 => 274 | 154 => 327 | 138 => 351 | 165 => 323 | 143 => 273 | 166 => 324 | 197 => 358 | 169 => 325 | 195 => 378 | 218 => 379 | 240 => 352 | 241 => 353 | 219 => 326 | 260 => 384 | 276 => 380 | 277 => 381 | 217 => 354 | 225 => 355 | 224 => 356 | 267 => 357 | 266 => 382 | 314 => 383 | n => n, fun | 9 => 9 | 3 => 3 | 4 => 4 | 72 => 258 | 0 => 0 | 76 => 260 | 105 => 286 | 21 => 21 | 5 => 5 | 70 => 256 | 20 => 20 | 37 => 124 | 75 => 186 | 127 => 283 | 164 => 302 | 46 => 87 | 119 => 310 | 139 => 313 | 138 => 312 | 146 => 288 | 51 => 159 | 80 => 262 | n => n, fun | 1 => 2 | 3 => 5 | 4 => 6 | n => n⟩
theorem Tryz.lays155 : Go.Proofs.Lays.n155 Tryz.prog Tryz.lays155_ren := {
  mixed := by kernel_rfl
  f138 := Tryz.func351.trans (congrArg some (by kernel_rfl))
  f143 := Tryz.func273.trans (congrArg some (by kernel_rfl))
  f154 := Tryz.func327.trans (congrArg some (by kernel_rfl))
  f155 := Tryz.func274.trans (congrArg some (by kernel_rfl))
  f165 := Tryz.func323.trans (congrArg some (by kernel_rfl))
  f166 := Tryz.func324.trans (congrArg some (by kernel_rfl))
  f169 := Tryz.func325.trans (congrArg some (by kernel_rfl))
  f195 := Tryz.func378.trans (congrArg some (by kernel_rfl))
  f197 := Tryz.func358.trans (congrArg some (by kernel_rfl))
  f217 := Tryz.func354.trans (congrArg some (by kernel_rfl))
  f218 := Tryz.func379.trans (congrArg some (by kernel_rfl))
  f219 := Tryz.func326.trans (congrArg some (by kernel_rfl))
  f224 := Tryz.func356.trans (congrArg some (by kernel_rfl))
  f225 := Tryz.func355.trans (congrArg some (by kernel_rfl))
  f240 := Tryz.func352.trans (congrArg some (by kernel_rfl))
  f241 := Tryz.func353.trans (congrArg some (by kernel_rfl))
  f260 := Tryz.func384.trans (congrArg some (by kernel_rfl))
  f266 := Tryz.func382.trans (congrArg some (by kernel_rfl))
  f267 := Tryz.func357.trans (congrArg some (by kernel_rfl))
  f276 := Tryz.func380.trans (congrArg some (by kernel_rfl))
  f277 := Tryz.func381.trans (congrArg some (by kernel_rfl))
  f314 := Tryz.func383.trans (congrArg some (by kernel_rfl))
  t0 := Tryz.underlying0
  a0 := Tryz.isAgg0
  z0 := Tryz.sizeOf0
  v0 := Tryz.zeroValue0
  t3 := Tryz.underlying3
  a3 := Tryz.isAgg3
  z3 := Tryz.sizeOf3
  v3 := Tryz.zeroValue3
  t4 := Tryz.underlying4
  a4 := Tryz.isAgg4
  z4 := Tryz.sizeOf4
  v4 := Tryz.zeroValue4
  t5 := Tryz.underlying5
  a5 := Tryz.isAgg5
  z5 := Tryz.sizeOf5
  v5 := Tryz.zeroValue5
  t9 := Tryz.underlying9
  a9 := Tryz.isAgg9
  z9 := Tryz.sizeOf9
  v9 := Tryz.zeroValue9
  t20 := Tryz.underlying20
  a20 := Tryz.isAgg20
  z20 := Tryz.sizeOf20
  v20 := Tryz.zeroValue20
  t21 := Tryz.underlying21
  a21 := Tryz.isAgg21
  z21 := Tryz.sizeOf21
  v21 := Tryz.zeroValue21
  t37 := Tryz.underlying124
  a37 := Tryz.isAgg124
  z37 := Tryz.sizeOf124
  v37 := Tryz.zeroValue124
  t46 := Tryz.underlying87
  a46 := Tryz.isAgg87
  z46 := Tryz.sizeOf87
  v46 := Tryz.zeroValue87
  t51 := Tryz.underlying159
  a51 := Tryz.isAgg159
  z51 := Tryz.sizeOf159
  v51 := Tryz.zeroValue159
  t70 := Tryz.underlying256
  a70 := Tryz.isAgg256
  z70 := Tryz.sizeOf256
  v70 := Tryz.zeroValue256
  t72 := Tryz.underlying258
  a72 := Tryz.isAgg258
  z72 := Tryz.sizeOf258
  v72 := Tryz.zeroValue258
  t75 := Tryz.underlying186
  a75 := Tryz.isAgg186
  z75 := Tryz.sizeOf186
  v75 := Tryz.zeroValue186
  t76 := Tryz.underlying260
  a76 := Tryz.isAgg260
  z76 := Tryz.sizeOf260
  v76 := Tryz.zeroValue260
  t105 := Tryz.underlying286
  a105 := Tryz.isAgg286
  z105 := Tryz.sizeOf286
  v105 := Tryz.zeroValue286
  t119 := Tryz.underlying310
  a119 := Tryz.isAgg310
  z119 := Tryz.sizeOf310
  t127 := Tryz.underlying283
  a127 := Tryz.isAgg283
  z127 := Tryz.sizeOf283
  v127 := Tryz.zeroValue283
  t138 := Tryz.underlying312
  a138 := Tryz.isAgg312
  z138 := Tryz.sizeOf312
  v138 := Tryz.zeroValue312
  t139 := Tryz.underlying313
  a139 := Tryz.isAgg313
  z139 := Tryz.sizeOf313
  v139 := Tryz.zeroValue313
  t146 := Tryz.underlying288
  a146 := Tryz.isAgg288
  z146 := Tryz.sizeOf288
  v146 := Tryz.zeroValue288
  t164 := Tryz.underlying302
  a164 := Tryz.isAgg302
  z164 := Tryz.sizeOf302
  v164 := Tryz.zeroValue302
  g1 := by kernel_rfl
  g3 := by kernel_rfl
  g4 := by kernel_rfl }
theorem Tryz.Builder_Extra_155 : Builder.Extra Tryz.prog Tryz.lays155_ren := {
  sizeBuilder := by kernel_rfl
  liesBuilder := by kernel_rfl
  t5 := Tryz.underlying5
  a5 := Tryz.isAgg5
  z5 := Tryz.sizeOf5
  v5 := Tryz.zeroValue5
  infoByte := by kernel_rfl
  cellsByte := by kernel_rfl
  sizeByte := by kernel_rfl
  neB5 := by decide }
open Go.RowKit Go.Lib in
/-- strings.ReplaceAll: "ReplaceAll returns a copy of the string s with all non-overlapping instances of old replaced by new.": AT AN old THAT IS NOT EMPTY: 'Lib.replaceAll s old new'. (LAID: no walk: one application.) -/
theorem Tryz.strings_ReplaceAll (s old new : ByteArray) (m : Int) (w : World) (hs : s.size < 4294967281) (hm : w.cell? ⟨2, 0, none⟩ = some (.int .i64 m)) (h1 : 1 ≤ old.size) (hlen : s.size + Lib.countB s old * new.size ≤ 140737488355328) :
    Calls Tryz.prog 274 #[.string s, .string old, .string new] w fun e w' =>
      e = .returned (.string ⟨(Lib.replaceAll s.data.toList old.data.toList new.data.toList).toArray⟩) ∧ Below w.heap.size w w' := Any.strings_ReplaceAll Tryz.lays155 Tryz.Builder_Extra_155 s old new m w hs hm h1 hlen
end Go.Proofs
