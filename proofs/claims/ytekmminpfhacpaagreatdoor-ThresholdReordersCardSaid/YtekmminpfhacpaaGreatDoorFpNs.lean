/-
  The library's contract of slices.Sort, laid at this program's numbers.
-/
import Derived.Test.YtekmminpfhacpaaGreatDoorProg
import Derived.Shelf.Slices.In.SortAlone
namespace Go.Proofs
open Go.Shelf
def Tryz.laysSort_ren : Go.Shelf.Ren := ⟨fun | 189 => 190 | 125 => 266 | 257 => 265 | 128 => 298 | 129 => 299 | 294 => 289 | 295 => 290 | 296 => 291 | 297 => 292 | 298 => 293 | 299 => 294 | 216 => 295 | 300 => 296 | 301 => 297 | 328 => 305 | 329 => 306 | 330 => 307 | 331 => 308 | 332 => 309 | 215 => 247 | 343 => 312 | n => n, fun | 28 => 24 | 3 => 3 | 46 => 300 | 0 => 0 | 51 => 322 | 53 => 325 | 4 => 4 | 183 => 335 | 182 => 334 | 131 => 255 | 5 => 5 | 9 => 9 | 218 => 345 | 222 => 349 | 228 => 356 | 229 => 212 | n => n, fun | n => n⟩
theorem Tryz.laysSort : Go.Proofs.Lays.n189 Tryz.prog Tryz.laysSort_ren := {
  mixed := by kernel_rfl
  f125 := Tryz.func266.trans (congrArg some (by kernel_rfl))
  f128 := Tryz.func298.trans (congrArg some (by kernel_rfl))
  f129 := Tryz.func299.trans (congrArg some (by kernel_rfl))
  f189 := Tryz.func190.trans (congrArg some (by kernel_rfl))
  f215 := Tryz.func247.trans (congrArg some (by kernel_rfl))
  f216 := Tryz.func295.trans (congrArg some (by kernel_rfl))
  f257 := Tryz.func265.trans (congrArg some (by kernel_rfl))
  f294 := Tryz.func289.trans (congrArg some (by kernel_rfl))
  f295 := Tryz.func290.trans (congrArg some (by kernel_rfl))
  f296 := Tryz.func291.trans (congrArg some (by kernel_rfl))
  f297 := Tryz.func292.trans (congrArg some (by kernel_rfl))
  f298 := Tryz.func293.trans (congrArg some (by kernel_rfl))
  f299 := Tryz.func294.trans (congrArg some (by kernel_rfl))
  f300 := Tryz.func296.trans (congrArg some (by kernel_rfl))
  f301 := Tryz.func297.trans (congrArg some (by kernel_rfl))
  f328 := Tryz.func305.trans (congrArg some (by kernel_rfl))
  f329 := Tryz.func306.trans (congrArg some (by kernel_rfl))
  f330 := Tryz.func307.trans (congrArg some (by kernel_rfl))
  f331 := Tryz.func308.trans (congrArg some (by kernel_rfl))
  f332 := Tryz.func309.trans (congrArg some (by kernel_rfl))
  f343 := Tryz.func312.trans (congrArg some (by kernel_rfl))
  t0 := Tryz.underlying0
  a0 := Tryz.isAgg0
  z0 := Tryz.sizeOf0
  v0 := Tryz.zeroValue0
  t3 := Tryz.underlying3
  a3 := Tryz.isAgg3
  z3 := Tryz.sizeOf3
  v3 := Tryz.zeroValue3
  t4 := Tryz.underlying4
  a4 := Tryz.isAgg4
  z4 := Tryz.sizeOf4
  v4 := Tryz.zeroValue4
  t5 := Tryz.underlying5
  a5 := Tryz.isAgg5
  z5 := Tryz.sizeOf5
  v5 := Tryz.zeroValue5
  t9 := Tryz.underlying9
  a9 := Tryz.isAgg9
  z9 := Tryz.sizeOf9
  v9 := Tryz.zeroValue9
  t28 := Tryz.underlying24
  a28 := Tryz.isAgg24
  z28 := Tryz.sizeOf24
  v28 := Tryz.zeroValue24
  t46 := Tryz.underlying300
  a46 := Tryz.isAgg300
  z46 := Tryz.sizeOf300
  v46 := Tryz.zeroValue300
  t51 := Tryz.underlying322
  a51 := Tryz.isAgg322
  z51 := Tryz.sizeOf322
  v51 := Tryz.zeroValue322
  t53 := Tryz.underlying325
  a53 := Tryz.isAgg325
  z53 := Tryz.sizeOf325
  v53 := Tryz.zeroValue325
  t131 := Tryz.underlying255
  a131 := Tryz.isAgg255
  z131 := Tryz.sizeOf255
  v131 := Tryz.zeroValue255
  t182 := Tryz.underlying334
  a182 := Tryz.isAgg334
  z182 := Tryz.sizeOf334
  v182 := Tryz.zeroValue334
  t183 := Tryz.underlying335
  a183 := Tryz.isAgg335
  z183 := Tryz.sizeOf335
  v183 := Tryz.zeroValue335
  t218 := Tryz.underlying345
  a218 := Tryz.isAgg345
  z218 := Tryz.sizeOf345
  v218 := Tryz.zeroValue345
  t222 := Tryz.underlying349
  a222 := Tryz.isAgg349
  z222 := Tryz.sizeOf349
  v222 := Tryz.zeroValue349
  t228 := Tryz.underlying356
  a228 := Tryz.isAgg356
  z228 := Tryz.sizeOf356
  v228 := Tryz.zeroValue356
  t229 := Tryz.underlying212
  a229 := Tryz.isAgg212
  z229 := Tryz.sizeOf212
  v229 := Tryz.zeroValue212 }
end Go.Proofs
