/-
  The library's contract of slices.Sort, laid at this program's numbers.
-/
import Derived.Test.YtokjgegkhlkopaaGreatDoorProg
import Derived.Shelf.Slices.In.SortAlone
namespace Go.Proofs
open Go.Shelf
def Tryz.laysSort_ren : Go.Shelf.Ren := ⟨fun | 189 => 180 | 125 => 136 | 257 => 188 | 128 => 169 | 129 => 170 | 294 => 192 | 295 => 193 | 296 => 194 | 297 => 195 | 298 => 196 | 299 => 197 | 216 => 198 | 300 => 199 | 301 => 200 | 328 => 201 | 329 => 183 | 330 => 184 | 331 => 202 | 332 => 203 | 215 => 171 | 343 => 204 | n => n, fun | 28 => 24 | 3 => 3 | 46 => 212 | 0 => 0 | 51 => 235 | 53 => 237 | 4 => 4 | 183 => 229 | 182 => 228 | 131 => 131 | 5 => 5 | 9 => 9 | 218 => 248 | 222 => 252 | 228 => 260 | 229 => 261 | n => n, fun | n => n⟩
theorem Tryz.laysSort : Go.Proofs.Lays.n189 Tryz.prog Tryz.laysSort_ren := {
  mixed := by kernel_rfl
  f125 := Tryz.func136.trans (congrArg some (by kernel_rfl))
  f128 := Tryz.func169.trans (congrArg some (by kernel_rfl))
  f129 := Tryz.func170.trans (congrArg some (by kernel_rfl))
  f189 := Tryz.func180.trans (congrArg some (by kernel_rfl))
  f215 := Tryz.func171.trans (congrArg some (by kernel_rfl))
  f216 := Tryz.func198.trans (congrArg some (by kernel_rfl))
  f257 := Tryz.func188.trans (congrArg some (by kernel_rfl))
  f294 := Tryz.func192.trans (congrArg some (by kernel_rfl))
  f295 := Tryz.func193.trans (congrArg some (by kernel_rfl))
  f296 := Tryz.func194.trans (congrArg some (by kernel_rfl))
  f297 := Tryz.func195.trans (congrArg some (by kernel_rfl))
  f298 := Tryz.func196.trans (congrArg some (by kernel_rfl))
  f299 := Tryz.func197.trans (congrArg some (by kernel_rfl))
  f300 := Tryz.func199.trans (congrArg some (by kernel_rfl))
  f301 := Tryz.func200.trans (congrArg some (by kernel_rfl))
  f328 := Tryz.func201.trans (congrArg some (by kernel_rfl))
  f329 := Tryz.func183.trans (congrArg some (by kernel_rfl))
  f330 := Tryz.func184.trans (congrArg some (by kernel_rfl))
  f331 := Tryz.func202.trans (congrArg some (by kernel_rfl))
  f332 := Tryz.func203.trans (congrArg some (by kernel_rfl))
  f343 := Tryz.func204.trans (congrArg some (by kernel_rfl))
  t0 := Tryz.underlying0
  a0 := Tryz.isAgg0
  z0 := Tryz.sizeOf0
  v0 := Tryz.zeroValue0
  t3 := Tryz.underlying3
  a3 := Tryz.isAgg3
  z3 := Tryz.sizeOf3
  v3 := Tryz.zeroValue3
  t4 := Tryz.underlying4
  a4 := Tryz.isAgg4
  z4 := Tryz.sizeOf4
  v4 := Tryz.zeroValue4
  t5 := Tryz.underlying5
  a5 := Tryz.isAgg5
  z5 := Tryz.sizeOf5
  v5 := Tryz.zeroValue5
  t9 := Tryz.underlying9
  a9 := Tryz.isAgg9
  z9 := Tryz.sizeOf9
  v9 := Tryz.zeroValue9
  t28 := Tryz.underlying24
  a28 := Tryz.isAgg24
  z28 := Tryz.sizeOf24
  v28 := Tryz.zeroValue24
  t46 := Tryz.underlying212
  a46 := Tryz.isAgg212
  z46 := Tryz.sizeOf212
  v46 := Tryz.zeroValue212
  t51 := Tryz.underlying235
  a51 := Tryz.isAgg235
  z51 := Tryz.sizeOf235
  v51 := Tryz.zeroValue235
  t53 := Tryz.underlying237
  a53 := Tryz.isAgg237
  z53 := Tryz.sizeOf237
  v53 := Tryz.zeroValue237
  t131 := Tryz.underlying131
  a131 := Tryz.isAgg131
  z131 := Tryz.sizeOf131
  v131 := Tryz.zeroValue131
  t182 := Tryz.underlying228
  a182 := Tryz.isAgg228
  z182 := Tryz.sizeOf228
  v182 := Tryz.zeroValue228
  t183 := Tryz.underlying229
  a183 := Tryz.isAgg229
  z183 := Tryz.sizeOf229
  v183 := Tryz.zeroValue229
  t218 := Tryz.underlying248
  a218 := Tryz.isAgg248
  z218 := Tryz.sizeOf248
  v218 := Tryz.zeroValue248
  t222 := Tryz.underlying252
  a222 := Tryz.isAgg252
  z222 := Tryz.sizeOf252
  v222 := Tryz.zeroValue252
  t228 := Tryz.underlying260
  a228 := Tryz.isAgg260
  z228 := Tryz.sizeOf260
  v228 := Tryz.zeroValue260
  t229 := Tryz.underlying261
  a229 := Tryz.isAgg261
  z229 := Tryz.sizeOf261
  v229 := Tryz.zeroValue261 }
end Go.Proofs
