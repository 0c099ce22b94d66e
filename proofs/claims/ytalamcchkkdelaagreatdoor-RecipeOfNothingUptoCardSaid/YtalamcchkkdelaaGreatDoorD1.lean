/- Texts of the proofs over heraldlaw20, put together by a program (merge20.py): Nx0. -/
import Derived.Test.YtalamcchkkdelaaGreatDoorProg
import Derived.Shelf.Strings.Builder1
import Derived.Shelf.Strings.OnBuilder
import Derived.Shelf.Strings.Split
set_option linter.unusedVariables false
set_option linter.unusedSimpArgs false
section
set_option maxRecDepth 100000
namespace Go.Proofs
open Go.Shelf
namespace YtalamcchkkdelaaGreatDoor
def splitR : Go.Shelf.Ren := ⟨fun | 146 => 60 | 221 => 101 | 268 => 143 | 138 => 144 | 143 => 145 | 195 => 176 | 197 => 177 | 218 => 178 | 219 => 179 | 260 => 194 | 217 => 195 | 225 => 196 | 224 => 197 | 267 => 198 | 266 => 204 | 314 => 205 | n => n,fun | 9 => 9 | 31 => 30 | 3 => 3 | 4 => 4 | 0 => 0 | 105 => 243 | 21 => 21 | 5 => 5 | 46 => 254 | 119 => 259 | 139 => 262 | 138 => 261 | 146 => 264 | 51 => 263 | n => n,fun | 1 => 1 | 3 => 2 | 4 => 3 | n => n⟩
theorem splitL : Lays.n146 Tryz.prog splitR := {
 mixed := by kernel_rfl
 f138 := Tryz.func144.trans (congrArg some (by kernel_rfl))
 f143 := Tryz.func145.trans (congrArg some (by kernel_rfl))
 f146 := Tryz.func60.trans (congrArg some (by kernel_rfl))
 f195 := Tryz.func176.trans (congrArg some (by kernel_rfl))
 f197 := Tryz.func177.trans (congrArg some (by kernel_rfl))
 f217 := Tryz.func195.trans (congrArg some (by kernel_rfl))
 f218 := Tryz.func178.trans (congrArg some (by kernel_rfl))
 f219 := Tryz.func179.trans (congrArg some (by kernel_rfl))
 f221 := Tryz.func101.trans (congrArg some (by kernel_rfl))
 f224 := Tryz.func197.trans (congrArg some (by kernel_rfl))
 f225 := Tryz.func196.trans (congrArg some (by kernel_rfl))
 f260 := Tryz.func194.trans (congrArg some (by kernel_rfl))
 f266 := Tryz.func204.trans (congrArg some (by kernel_rfl))
 f267 := Tryz.func198.trans (congrArg some (by kernel_rfl))
 f268 := Tryz.func143.trans (congrArg some (by kernel_rfl))
 f314 := Tryz.func205.trans (congrArg some (by kernel_rfl))
 t0 := Tryz.underlying0
 a0 := Tryz.isAgg0
 z0 := Tryz.sizeOf0
 v0 := Tryz.zeroValue0
 t3 := Tryz.underlying3
 a3 := Tryz.isAgg3
 z3 := Tryz.sizeOf3
 v3 := Tryz.zeroValue3
 t4 := Tryz.underlying4
 a4 := Tryz.isAgg4
 z4 := Tryz.sizeOf4
 v4 := Tryz.zeroValue4
 t5 := Tryz.underlying5
 a5 := Tryz.isAgg5
 z5 := Tryz.sizeOf5
 v5 := Tryz.zeroValue5
 t9 := Tryz.underlying9
 a9 := Tryz.isAgg9
 z9 := Tryz.sizeOf9
 v9 := Tryz.zeroValue9
 t21 := Tryz.underlying21
 a21 := Tryz.isAgg21
 z21 := Tryz.sizeOf21
 v21 := Tryz.zeroValue21
 t31 := Tryz.underlying30
 a31 := Tryz.isAgg30
 z31 := Tryz.sizeOf30
 v31 := Tryz.zeroValue30
 t46 := Tryz.underlying254
 a46 := Tryz.isAgg254
 z46 := Tryz.sizeOf254
 v46 := Tryz.zeroValue254
 t51 := Tryz.underlying263
 a51 := Tryz.isAgg263
 z51 := Tryz.sizeOf263
 v51 := Tryz.zeroValue263
 t105 := Tryz.underlying243
 a105 := Tryz.isAgg243
 z105 := Tryz.sizeOf243
 v105 := Tryz.zeroValue243
 t119 := Tryz.underlying259
 a119 := Tryz.isAgg259
 z119 := Tryz.sizeOf259
 t138 := Tryz.underlying261
 a138 := Tryz.isAgg261
 z138 := Tryz.sizeOf261
 v138 := Tryz.zeroValue261
 t139 := Tryz.underlying262
 a139 := Tryz.isAgg262
 z139 := Tryz.sizeOf262
 v139 := Tryz.zeroValue262
 t146 := Tryz.underlying264
 a146 := Tryz.isAgg264
 z146 := Tryz.sizeOf264
 v146 := Tryz.zeroValue264
 g1 := by kernel_rfl
 g3 := by kernel_rfl
 g4 := by kernel_rfl }
def joinR : Go.Shelf.Ren := ⟨fun | 156 => 102 | 165 => 146 | 166 => 147 | 169 => 148 | 240 => 180 | 241 => 181 | 276 => 199 | 277 => 200 | n => n,fun | 31 => 30 | 9 => 9 | 3 => 3 | 4 => 4 | 0 => 0 | 20 => 20 | 72 => 216 | 76 => 219 | 70 => 214 | 37 => 168 | 75 => 218 | 127 => 246 | 164 => 255 | 5 => 5 | 80 => 221 | n => n,fun | n => n⟩
theorem joinL : Lays.n156 Tryz.prog joinR := {
 mixed := by kernel_rfl
 f156 := Tryz.func102.trans (congrArg some (by kernel_rfl))
 f165 := Tryz.func146.trans (congrArg some (by kernel_rfl))
 f166 := Tryz.func147.trans (congrArg some (by kernel_rfl))
 f169 := Tryz.func148.trans (congrArg some (by kernel_rfl))
 f240 := Tryz.func180.trans (congrArg some (by kernel_rfl))
 f241 := Tryz.func181.trans (congrArg some (by kernel_rfl))
 f276 := Tryz.func199.trans (congrArg some (by kernel_rfl))
 f277 := Tryz.func200.trans (congrArg some (by kernel_rfl))
 t0 := Tryz.underlying0
 a0 := Tryz.isAgg0
 z0 := Tryz.sizeOf0
 v0 := Tryz.zeroValue0
 t3 := Tryz.underlying3
 a3 := Tryz.isAgg3
 z3 := Tryz.sizeOf3
 v3 := Tryz.zeroValue3
 t4 := Tryz.underlying4
 a4 := Tryz.isAgg4
 z4 := Tryz.sizeOf4
 v4 := Tryz.zeroValue4
 t9 := Tryz.underlying9
 a9 := Tryz.isAgg9
 z9 := Tryz.sizeOf9
 v9 := Tryz.zeroValue9
 t20 := Tryz.underlying20
 a20 := Tryz.isAgg20
 z20 := Tryz.sizeOf20
 v20 := Tryz.zeroValue20
 t31 := Tryz.underlying30
 a31 := Tryz.isAgg30
 z31 := Tryz.sizeOf30
 v31 := Tryz.zeroValue30
 t37 := Tryz.underlying168
 a37 := Tryz.isAgg168
 z37 := Tryz.sizeOf168
 v37 := Tryz.zeroValue168
 t70 := Tryz.underlying214
 a70 := Tryz.isAgg214
 z70 := Tryz.sizeOf214
 v70 := Tryz.zeroValue214
 t72 := Tryz.underlying216
 a72 := Tryz.isAgg216
 z72 := Tryz.sizeOf216
 v72 := Tryz.zeroValue216
 t75 := Tryz.underlying218
 a75 := Tryz.isAgg218
 z75 := Tryz.sizeOf218
 v75 := Tryz.zeroValue218
 t76 := Tryz.underlying219
 a76 := Tryz.isAgg219
 z76 := Tryz.sizeOf219
 v76 := Tryz.zeroValue219
 t127 := Tryz.underlying246
 a127 := Tryz.isAgg246
 z127 := Tryz.sizeOf246
 v127 := Tryz.zeroValue246
 t164 := Tryz.underlying255
 a164 := Tryz.isAgg255
 z164 := Tryz.sizeOf255
 v164 := Tryz.zeroValue255 }
theorem bldX : Builder.Extra Tryz.prog joinR := {
 sizeBuilder := by kernel_rfl
 liesBuilder := by kernel_rfl
 t5 := Tryz.underlying5
 a5 := Tryz.isAgg5
 z5 := Tryz.sizeOf5
 v5 := Tryz.zeroValue5
 infoByte := by kernel_rfl
 cellsByte := by kernel_rfl
 sizeByte := by kernel_rfl
 neB5 := by decide }
end YtalamcchkkdelaaGreatDoor
end Go.Proofs
end
