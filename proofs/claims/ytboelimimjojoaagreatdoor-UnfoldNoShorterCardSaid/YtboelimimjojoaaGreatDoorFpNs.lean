/-
  The library's contract of slices.Sort, laid at this program's numbers.
-/
import Derived.Test.YtboelimimjojoaaGreatDoorProg
import Derived.Shelf.Slices.In.SortAlone
namespace Go.Proofs
open Go.Shelf
def Tryz.laysSort_ren : Go.Shelf.Ren := ⟨fun | 189 => 92 | 125 => 145 | 257 => 144 | 128 => 195 | 129 => 196 | 294 => 186 | 295 => 187 | 296 => 188 | 297 => 189 | 298 => 190 | 299 => 191 | 216 => 192 | 300 => 193 | 301 => 194 | 328 => 217 | 329 => 218 | 330 => 219 | 331 => 220 | 332 => 221 | 215 => 132 | 343 => 236 | n => n, fun | 28 => 24 | 3 => 3 | 46 => 182 | 0 => 0 | 51 => 215 | 53 => 217 | 4 => 4 | 183 => 209 | 182 => 208 | 131 => 103 | 5 => 5 | 9 => 9 | 218 => 234 | 222 => 238 | 228 => 251 | 229 => 252 | n => n, fun | n => n⟩
theorem Tryz.laysSort : Go.Proofs.Lays.n189 Tryz.prog Tryz.laysSort_ren := {
  mixed := by kernel_rfl
  f125 := Tryz.func145.trans (congrArg some (by kernel_rfl))
  f128 := Tryz.func195.trans (congrArg some (by kernel_rfl))
  f129 := Tryz.func196.trans (congrArg some (by kernel_rfl))
  f189 := Tryz.func92.trans (congrArg some (by kernel_rfl))
  f215 := Tryz.func132.trans (congrArg some (by kernel_rfl))
  f216 := Tryz.func192.trans (congrArg some (by kernel_rfl))
  f257 := Tryz.func144.trans (congrArg some (by kernel_rfl))
  f294 := Tryz.func186.trans (congrArg some (by kernel_rfl))
  f295 := Tryz.func187.trans (congrArg some (by kernel_rfl))
  f296 := Tryz.func188.trans (congrArg some (by kernel_rfl))
  f297 := Tryz.func189.trans (congrArg some (by kernel_rfl))
  f298 := Tryz.func190.trans (congrArg some (by kernel_rfl))
  f299 := Tryz.func191.trans (congrArg some (by kernel_rfl))
  f300 := Tryz.func193.trans (congrArg some (by kernel_rfl))
  f301 := Tryz.func194.trans (congrArg some (by kernel_rfl))
  f328 := Tryz.func217.trans (congrArg some (by kernel_rfl))
  f329 := Tryz.func218.trans (congrArg some (by kernel_rfl))
  f330 := Tryz.func219.trans (congrArg some (by kernel_rfl))
  f331 := Tryz.func220.trans (congrArg some (by kernel_rfl))
  f332 := Tryz.func221.trans (congrArg some (by kernel_rfl))
  f343 := Tryz.func236.trans (congrArg some (by kernel_rfl))
  t0 := Tryz.underlying0
  a0 := Tryz.isAgg0
  z0 := Tryz.sizeOf0
  v0 := Tryz.zeroValue0
  t3 := Tryz.underlying3
  a3 := Tryz.isAgg3
  z3 := Tryz.sizeOf3
  v3 := Tryz.zeroValue3
  t4 := Tryz.underlying4
  a4 := Tryz.isAgg4
  z4 := Tryz.sizeOf4
  v4 := Tryz.zeroValue4
  t5 := Tryz.underlying5
  a5 := Tryz.isAgg5
  z5 := Tryz.sizeOf5
  v5 := Tryz.zeroValue5
  t9 := Tryz.underlying9
  a9 := Tryz.isAgg9
  z9 := Tryz.sizeOf9
  v9 := Tryz.zeroValue9
  t28 := Tryz.underlying24
  a28 := Tryz.isAgg24
  z28 := Tryz.sizeOf24
  v28 := Tryz.zeroValue24
  t46 := Tryz.underlying182
  a46 := Tryz.isAgg182
  z46 := Tryz.sizeOf182
  v46 := Tryz.zeroValue182
  t51 := Tryz.underlying215
  a51 := Tryz.isAgg215
  z51 := Tryz.sizeOf215
  v51 := Tryz.zeroValue215
  t53 := Tryz.underlying217
  a53 := Tryz.isAgg217
  z53 := Tryz.sizeOf217
  v53 := Tryz.zeroValue217
  t131 := Tryz.underlying103
  a131 := Tryz.isAgg103
  z131 := Tryz.sizeOf103
  v131 := Tryz.zeroValue103
  t182 := Tryz.underlying208
  a182 := Tryz.isAgg208
  z182 := Tryz.sizeOf208
  v182 := Tryz.zeroValue208
  t183 := Tryz.underlying209
  a183 := Tryz.isAgg209
  z183 := Tryz.sizeOf209
  v183 := Tryz.zeroValue209
  t218 := Tryz.underlying234
  a218 := Tryz.isAgg234
  z218 := Tryz.sizeOf234
  v218 := Tryz.zeroValue234
  t222 := Tryz.underlying238
  a222 := Tryz.isAgg238
  z222 := Tryz.sizeOf238
  v222 := Tryz.zeroValue238
  t228 := Tryz.underlying251
  a228 := Tryz.isAgg251
  z228 := Tryz.sizeOf251
  v228 := Tryz.zeroValue251
  t229 := Tryz.underlying252
  a229 := Tryz.isAgg252
  z229 := Tryz.sizeOf252
  v229 := Tryz.zeroValue252 }
end Go.Proofs
