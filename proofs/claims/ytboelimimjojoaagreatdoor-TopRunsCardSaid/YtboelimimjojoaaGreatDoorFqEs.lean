/-
  The library's contract of slices.SortFunc, laid at this program's numbers.
-/
import Derived.Test.YtboelimimjojoaaGreatDoorProg
import Derived.Shelf.SlSortCmp.NoneTotal
namespace Go.Proofs
open Go.Shelf
def Tryz.laysSortC_ren : Go.Shelf.Ren := ⟨fun | 6 => 93 | 15 => 145 | 14 => 146 | 28 => 195 | 29 => 196 | 20 => 197 | 21 => 198 | 22 => 199 | 23 => 200 | 24 => 201 | 25 => 202 | 26 => 203 | 27 => 204 | 46 => 222 | 47 => 218 | 48 => 219 | 49 => 223 | 50 => 224 | 57 => 237 | n => n, fun | 22 => 48 | 24 => 36 | 25 => 69 | 3 => 3 | 39 => 182 | 0 => 0 | 53 => 215 | 55 => 217 | 4 => 4 | 46 => 209 | 45 => 208 | 50 => 103 | 5 => 5 | 9 => 9 | 66 => 234 | 70 => 238 | 76 => 251 | 77 => 252 | n => n, fun | n => n⟩
theorem Tryz.laysSortC : Go.Proofs.SlLaysF0.n6 Tryz.prog Tryz.laysSortC_ren := {
  mixed := by kernel_rfl
  f6 := ⟨Tryz.f93.name, by decide, Tryz.func93.trans (congrArg some (by kernel_rfl))⟩
  f14 := ⟨Tryz.f146.name, by decide, Tryz.func146.trans (congrArg some (by kernel_rfl))⟩
  f15 := Tryz.func145.trans (congrArg some (by kernel_rfl))
  f20 := ⟨Tryz.f197.name, by decide, Tryz.func197.trans (congrArg some (by kernel_rfl))⟩
  f21 := ⟨Tryz.f198.name, by decide, Tryz.func198.trans (congrArg some (by kernel_rfl))⟩
  f22 := ⟨Tryz.f199.name, by decide, Tryz.func199.trans (congrArg some (by kernel_rfl))⟩
  f23 := ⟨Tryz.f200.name, by decide, Tryz.func200.trans (congrArg some (by kernel_rfl))⟩
  f24 := ⟨Tryz.f201.name, by decide, Tryz.func201.trans (congrArg some (by kernel_rfl))⟩
  f25 := ⟨Tryz.f202.name, by decide, Tryz.func202.trans (congrArg some (by kernel_rfl))⟩
  f26 := ⟨Tryz.f203.name, by decide, Tryz.func203.trans (congrArg some (by kernel_rfl))⟩
  f27 := ⟨Tryz.f204.name, by decide, Tryz.func204.trans (congrArg some (by kernel_rfl))⟩
  f28 := Tryz.func195.trans (congrArg some (by kernel_rfl))
  f29 := Tryz.func196.trans (congrArg some (by kernel_rfl))
  f46 := ⟨Tryz.f222.name, by decide, Tryz.func222.trans (congrArg some (by kernel_rfl))⟩
  f47 := Tryz.func218.trans (congrArg some (by kernel_rfl))
  f48 := Tryz.func219.trans (congrArg some (by kernel_rfl))
  f49 := ⟨Tryz.f223.name, by decide, Tryz.func223.trans (congrArg some (by kernel_rfl))⟩
  f50 := ⟨Tryz.f224.name, by decide, Tryz.func224.trans (congrArg some (by kernel_rfl))⟩
  f57 := ⟨Tryz.f237.name, by decide, Tryz.func237.trans (congrArg some (by kernel_rfl))⟩
  t0 := Tryz.underlying0
  a0 := Tryz.isAgg0
  z0 := Tryz.sizeOf0
  v0 := Tryz.zeroValue0
  t3 := Tryz.underlying3
  a3 := Tryz.isAgg3
  z3 := Tryz.sizeOf3
  v3 := Tryz.zeroValue3
  t4 := Tryz.underlying4
  a4 := Tryz.isAgg4
  z4 := Tryz.sizeOf4
  v4 := Tryz.zeroValue4
  t5 := Tryz.underlying5
  a5 := Tryz.isAgg5
  z5 := Tryz.sizeOf5
  v5 := Tryz.zeroValue5
  t9 := Tryz.underlying9
  a9 := Tryz.isAgg9
  z9 := Tryz.sizeOf9
  v9 := Tryz.zeroValue9
  t22 := Tryz.underlying48
  a22 := Tryz.isAgg48
  z22 := Tryz.sizeOf48
  v22 := Tryz.zeroValue48
  t25 := Tryz.underlying69
  a25 := Tryz.isAgg69
  z25 := Tryz.sizeOf69
  v25 := Tryz.zeroValue69
  t39 := Tryz.underlying182
  a39 := Tryz.isAgg182
  z39 := Tryz.sizeOf182
  v39 := Tryz.zeroValue182
  t45 := Tryz.underlying208
  a45 := Tryz.isAgg208
  z45 := Tryz.sizeOf208
  v45 := Tryz.zeroValue208
  t46 := Tryz.underlying209
  a46 := Tryz.isAgg209
  z46 := Tryz.sizeOf209
  v46 := Tryz.zeroValue209
  t50 := Tryz.underlying103
  a50 := Tryz.isAgg103
  z50 := Tryz.sizeOf103
  v50 := Tryz.zeroValue103
  t53 := Tryz.underlying215
  a53 := Tryz.isAgg215
  z53 := Tryz.sizeOf215
  v53 := Tryz.zeroValue215
  t55 := Tryz.underlying217
  a55 := Tryz.isAgg217
  z55 := Tryz.sizeOf217
  v55 := Tryz.zeroValue217
  t66 := Tryz.underlying234
  a66 := Tryz.isAgg234
  z66 := Tryz.sizeOf234
  v66 := Tryz.zeroValue234
  t70 := Tryz.underlying238
  a70 := Tryz.isAgg238
  z70 := Tryz.sizeOf238
  v70 := Tryz.zeroValue238
  t76 := Tryz.underlying251
  a76 := Tryz.isAgg251
  z76 := Tryz.sizeOf251
  v76 := Tryz.zeroValue251
  t77 := Tryz.underlying252
  a77 := Tryz.isAgg252
  z77 := Tryz.sizeOf252
  v77 := Tryz.zeroValue252 }
end Go.Proofs
