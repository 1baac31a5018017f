/-
  The library's contract of slices.Sort, laid at this program's numbers.
-/
import Derived.Test.YtblcpnmnibcbbaaGreatDoorProg
import Derived.Shelf.Slices.In.SortAlone
namespace Go.Proofs
open Go.Shelf
def Tryz.laysSort_ren : Go.Shelf.Ren := ⟨fun | 189 => 192 | 125 => 158 | 257 => 199 | 128 => 183 | 129 => 184 | 294 => 203 | 295 => 204 | 296 => 205 | 297 => 206 | 298 => 207 | 299 => 208 | 216 => 209 | 300 => 210 | 301 => 211 | 328 => 212 | 329 => 194 | 330 => 195 | 331 => 213 | 332 => 214 | 215 => 132 | 343 => 215 | n => n, fun | 28 => 24 | 3 => 3 | 46 => 223 | 0 => 0 | 51 => 240 | 53 => 242 | 4 => 4 | 183 => 234 | 182 => 233 | 131 => 133 | 5 => 5 | 9 => 9 | 218 => 252 | 222 => 256 | 228 => 264 | 229 => 265 | n => n, fun | n => n⟩
theorem Tryz.laysSort : Go.Proofs.Lays.n189 Tryz.prog Tryz.laysSort_ren := {
  mixed := by kernel_rfl
  f125 := Tryz.func158.trans (congrArg some (by kernel_rfl))
  f128 := Tryz.func183.trans (congrArg some (by kernel_rfl))
  f129 := Tryz.func184.trans (congrArg some (by kernel_rfl))
  f189 := Tryz.func192.trans (congrArg some (by kernel_rfl))
  f215 := Tryz.func132.trans (congrArg some (by kernel_rfl))
  f216 := Tryz.func209.trans (congrArg some (by kernel_rfl))
  f257 := Tryz.func199.trans (congrArg some (by kernel_rfl))
  f294 := Tryz.func203.trans (congrArg some (by kernel_rfl))
  f295 := Tryz.func204.trans (congrArg some (by kernel_rfl))
  f296 := Tryz.func205.trans (congrArg some (by kernel_rfl))
  f297 := Tryz.func206.trans (congrArg some (by kernel_rfl))
  f298 := Tryz.func207.trans (congrArg some (by kernel_rfl))
  f299 := Tryz.func208.trans (congrArg some (by kernel_rfl))
  f300 := Tryz.func210.trans (congrArg some (by kernel_rfl))
  f301 := Tryz.func211.trans (congrArg some (by kernel_rfl))
  f328 := Tryz.func212.trans (congrArg some (by kernel_rfl))
  f329 := Tryz.func194.trans (congrArg some (by kernel_rfl))
  f330 := Tryz.func195.trans (congrArg some (by kernel_rfl))
  f331 := Tryz.func213.trans (congrArg some (by kernel_rfl))
  f332 := Tryz.func214.trans (congrArg some (by kernel_rfl))
  f343 := Tryz.func215.trans (congrArg some (by kernel_rfl))
  t0 := Tryz.underlying0
  a0 := Tryz.isAgg0
  z0 := Tryz.sizeOf0
  v0 := Tryz.zeroValue0
  t3 := Tryz.underlying3
  a3 := Tryz.isAgg3
  z3 := Tryz.sizeOf3
  v3 := Tryz.zeroValue3
  t4 := Tryz.underlying4
  a4 := Tryz.isAgg4
  z4 := Tryz.sizeOf4
  v4 := Tryz.zeroValue4
  t5 := Tryz.underlying5
  a5 := Tryz.isAgg5
  z5 := Tryz.sizeOf5
  v5 := Tryz.zeroValue5
  t9 := Tryz.underlying9
  a9 := Tryz.isAgg9
  z9 := Tryz.sizeOf9
  v9 := Tryz.zeroValue9
  t28 := Tryz.underlying24
  a28 := Tryz.isAgg24
  z28 := Tryz.sizeOf24
  v28 := Tryz.zeroValue24
  t46 := Tryz.underlying223
  a46 := Tryz.isAgg223
  z46 := Tryz.sizeOf223
  v46 := Tryz.zeroValue223
  t51 := Tryz.underlying240
  a51 := Tryz.isAgg240
  z51 := Tryz.sizeOf240
  v51 := Tryz.zeroValue240
  t53 := Tryz.underlying242
  a53 := Tryz.isAgg242
  z53 := Tryz.sizeOf242
  v53 := Tryz.zeroValue242
  t131 := Tryz.underlying133
  a131 := Tryz.isAgg133
  z131 := Tryz.sizeOf133
  v131 := Tryz.zeroValue133
  t182 := Tryz.underlying233
  a182 := Tryz.isAgg233
  z182 := Tryz.sizeOf233
  v182 := Tryz.zeroValue233
  t183 := Tryz.underlying234
  a183 := Tryz.isAgg234
  z183 := Tryz.sizeOf234
  v183 := Tryz.zeroValue234
  t218 := Tryz.underlying252
  a218 := Tryz.isAgg252
  z218 := Tryz.sizeOf252
  v218 := Tryz.zeroValue252
  t222 := Tryz.underlying256
  a222 := Tryz.isAgg256
  z222 := Tryz.sizeOf256
  v222 := Tryz.zeroValue256
  t228 := Tryz.underlying264
  a228 := Tryz.isAgg264
  z228 := Tryz.sizeOf264
  v228 := Tryz.zeroValue264
  t229 := Tryz.underlying265
  a229 := Tryz.isAgg265
  z229 := Tryz.sizeOf265
  v229 := Tryz.zeroValue265 }
end Go.Proofs
