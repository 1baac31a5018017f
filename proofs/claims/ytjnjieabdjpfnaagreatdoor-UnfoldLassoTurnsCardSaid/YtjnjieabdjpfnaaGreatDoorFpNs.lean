/-
  The library's contract of slices.Sort, laid at this program's numbers.
-/
import Derived.Test.YtjnjieabdjpfnaaGreatDoorProg
import Derived.Shelf.Slices.In.SortAlone
namespace Go.Proofs
open Go.Shelf
def Tryz.laysSort_ren : Go.Shelf.Ren := ⟨fun | 189 => 152 | 125 => 186 | 257 => 185 | 128 => 205 | 129 => 206 | 294 => 196 | 295 => 197 | 296 => 198 | 297 => 199 | 298 => 200 | 299 => 201 | 216 => 202 | 300 => 203 | 301 => 204 | 328 => 210 | 329 => 211 | 330 => 212 | 331 => 213 | 332 => 214 | 215 => 145 | 343 => 224 | n => n, fun | 28 => 24 | 3 => 3 | 46 => 59 | 0 => 0 | 51 => 215 | 53 => 217 | 4 => 4 | 183 => 208 | 182 => 207 | 131 => 212 | 5 => 5 | 9 => 9 | 218 => 222 | 222 => 226 | 228 => 238 | 229 => 239 | n => n, fun | n => n⟩
theorem Tryz.laysSort : Go.Proofs.Lays.n189 Tryz.prog Tryz.laysSort_ren := {
  mixed := by kernel_rfl
  f125 := Tryz.func186.trans (congrArg some (by kernel_rfl))
  f128 := Tryz.func205.trans (congrArg some (by kernel_rfl))
  f129 := Tryz.func206.trans (congrArg some (by kernel_rfl))
  f189 := Tryz.func152.trans (congrArg some (by kernel_rfl))
  f215 := Tryz.func145.trans (congrArg some (by kernel_rfl))
  f216 := Tryz.func202.trans (congrArg some (by kernel_rfl))
  f257 := Tryz.func185.trans (congrArg some (by kernel_rfl))
  f294 := Tryz.func196.trans (congrArg some (by kernel_rfl))
  f295 := Tryz.func197.trans (congrArg some (by kernel_rfl))
  f296 := Tryz.func198.trans (congrArg some (by kernel_rfl))
  f297 := Tryz.func199.trans (congrArg some (by kernel_rfl))
  f298 := Tryz.func200.trans (congrArg some (by kernel_rfl))
  f299 := Tryz.func201.trans (congrArg some (by kernel_rfl))
  f300 := Tryz.func203.trans (congrArg some (by kernel_rfl))
  f301 := Tryz.func204.trans (congrArg some (by kernel_rfl))
  f328 := Tryz.func210.trans (congrArg some (by kernel_rfl))
  f329 := Tryz.func211.trans (congrArg some (by kernel_rfl))
  f330 := Tryz.func212.trans (congrArg some (by kernel_rfl))
  f331 := Tryz.func213.trans (congrArg some (by kernel_rfl))
  f332 := Tryz.func214.trans (congrArg some (by kernel_rfl))
  f343 := Tryz.func224.trans (congrArg some (by kernel_rfl))
  t0 := Tryz.underlying0
  a0 := Tryz.isAgg0
  z0 := Tryz.sizeOf0
  v0 := Tryz.zeroValue0
  t3 := Tryz.underlying3
  a3 := Tryz.isAgg3
  z3 := Tryz.sizeOf3
  v3 := Tryz.zeroValue3
  t4 := Tryz.underlying4
  a4 := Tryz.isAgg4
  z4 := Tryz.sizeOf4
  v4 := Tryz.zeroValue4
  t5 := Tryz.underlying5
  a5 := Tryz.isAgg5
  z5 := Tryz.sizeOf5
  v5 := Tryz.zeroValue5
  t9 := Tryz.underlying9
  a9 := Tryz.isAgg9
  z9 := Tryz.sizeOf9
  v9 := Tryz.zeroValue9
  t28 := Tryz.underlying24
  a28 := Tryz.isAgg24
  z28 := Tryz.sizeOf24
  v28 := Tryz.zeroValue24
  t46 := Tryz.underlying59
  a46 := Tryz.isAgg59
  z46 := Tryz.sizeOf59
  v46 := Tryz.zeroValue59
  t51 := Tryz.underlying215
  a51 := Tryz.isAgg215
  z51 := Tryz.sizeOf215
  v51 := Tryz.zeroValue215
  t53 := Tryz.underlying217
  a53 := Tryz.isAgg217
  z53 := Tryz.sizeOf217
  v53 := Tryz.zeroValue217
  t131 := Tryz.underlying212
  a131 := Tryz.isAgg212
  z131 := Tryz.sizeOf212
  v131 := Tryz.zeroValue212
  t182 := Tryz.underlying207
  a182 := Tryz.isAgg207
  z182 := Tryz.sizeOf207
  v182 := Tryz.zeroValue207
  t183 := Tryz.underlying208
  a183 := Tryz.isAgg208
  z183 := Tryz.sizeOf208
  v183 := Tryz.zeroValue208
  t218 := Tryz.underlying222
  a218 := Tryz.isAgg222
  z218 := Tryz.sizeOf222
  v218 := Tryz.zeroValue222
  t222 := Tryz.underlying226
  a222 := Tryz.isAgg226
  z222 := Tryz.sizeOf226
  v222 := Tryz.zeroValue226
  t228 := Tryz.underlying238
  a228 := Tryz.isAgg238
  z228 := Tryz.sizeOf238
  v228 := Tryz.zeroValue238
  t229 := Tryz.underlying239
  a229 := Tryz.isAgg239
  z229 := Tryz.sizeOf239
  v229 := Tryz.zeroValue239 }
end Go.Proofs
