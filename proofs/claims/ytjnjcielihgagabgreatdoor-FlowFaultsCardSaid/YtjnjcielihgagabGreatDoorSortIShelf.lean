/-
  The contract of slices.SortFunc laid at this seat by the kit's own commands (shelf_lay_g, lay-plain.mjs); remarks struck.
-/
import Derived.Shelf.LaysM
import Derived.Shelf.LaysC
import Derived.Ground.SlbCloneProg
import Derived.Ground.SlsfProg
import Derived.Test.YtjnjcielihgagabGreatDoorProg
import Derived.Shelf.SlSortCmp.WholeK
import Derived.Shelf.SlGeneric
namespace Go.Proofs
open Go.Shelf
def Tryz.laysSortI_ren : Go.Shelf.Ren := ⟨fun | 6 => 21 | 15 => 41 | 14 => 40 | 28 => 69 | 29 => 70 | 20 => 61 | 21 => 62 | 22 => 63 | 23 => 64 | 24 => 65 | 25 => 66 | 26 => 67 | 27 => 68 | 46 => 104 | 47 => 105 | 48 => 106 | 49 => 107 | 50 => 108 | 57 => 142 | n => n, fun | 22 => 44 | 24 => 28 | 25 => 63 | 3 => 3 | 39 => 22 | 0 => 0 | 53 => 152 | 55 => 154 | 4 => 4 | 46 => 145 | 45 => 144 | 50 => 149 | 5 => 5 | 9 => 9 | 66 => 192 | 70 => 196 | 76 => 238 | 77 => 239 | n => n, fun | n => n⟩
theorem Tryz.laysSortI : Go.Proofs.SlLaysF0.n6 Tryz.prog Tryz.laysSortI_ren := {
  mixed := by kernel_rfl
  f6 := ⟨Tryz.f21.name, by decide, Tryz.func21.trans (congrArg some (by kernel_rfl))⟩
  f14 := ⟨Tryz.f40.name, by decide, Tryz.func40.trans (congrArg some (by kernel_rfl))⟩
  f15 := Tryz.func41.trans (congrArg some (by kernel_rfl))
  f20 := ⟨Tryz.f61.name, by decide, Tryz.func61.trans (congrArg some (by kernel_rfl))⟩
  f21 := ⟨Tryz.f62.name, by decide, Tryz.func62.trans (congrArg some (by kernel_rfl))⟩
  f22 := ⟨Tryz.f63.name, by decide, Tryz.func63.trans (congrArg some (by kernel_rfl))⟩
  f23 := ⟨Tryz.f64.name, by decide, Tryz.func64.trans (congrArg some (by kernel_rfl))⟩
  f24 := ⟨Tryz.f65.name, by decide, Tryz.func65.trans (congrArg some (by kernel_rfl))⟩
  f25 := ⟨Tryz.f66.name, by decide, Tryz.func66.trans (congrArg some (by kernel_rfl))⟩
  f26 := ⟨Tryz.f67.name, by decide, Tryz.func67.trans (congrArg some (by kernel_rfl))⟩
  f27 := ⟨Tryz.f68.name, by decide, Tryz.func68.trans (congrArg some (by kernel_rfl))⟩
  f28 := Tryz.func69.trans (congrArg some (by kernel_rfl))
  f29 := Tryz.func70.trans (congrArg some (by kernel_rfl))
  f46 := ⟨Tryz.f104.name, by decide, Tryz.func104.trans (congrArg some (by kernel_rfl))⟩
  f47 := Tryz.func105.trans (congrArg some (by kernel_rfl))
  f48 := Tryz.func106.trans (congrArg some (by kernel_rfl))
  f49 := ⟨Tryz.f107.name, by decide, Tryz.func107.trans (congrArg some (by kernel_rfl))⟩
  f50 := ⟨Tryz.f108.name, by decide, Tryz.func108.trans (congrArg some (by kernel_rfl))⟩
  f57 := ⟨Tryz.f142.name, by decide, Tryz.func142.trans (congrArg some (by kernel_rfl))⟩
  t0 := Tryz.underlying0
  a0 := Tryz.isAgg0
  z0 := Tryz.sizeOf0
  v0 := Tryz.zeroValue0
  t3 := Tryz.underlying3
  a3 := Tryz.isAgg3
  z3 := Tryz.sizeOf3
  v3 := Tryz.zeroValue3
  t4 := Tryz.underlying4
  a4 := Tryz.isAgg4
  z4 := Tryz.sizeOf4
  v4 := Tryz.zeroValue4
  t5 := Tryz.underlying5
  a5 := Tryz.isAgg5
  z5 := Tryz.sizeOf5
  v5 := Tryz.zeroValue5
  t9 := Tryz.underlying9
  a9 := Tryz.isAgg9
  z9 := Tryz.sizeOf9
  v9 := Tryz.zeroValue9
  t22 := Tryz.underlying44
  a22 := Tryz.isAgg44
  z22 := Tryz.sizeOf44
  v22 := Tryz.zeroValue44
  t25 := Tryz.underlying63
  a25 := Tryz.isAgg63
  z25 := Tryz.sizeOf63
  v25 := Tryz.zeroValue63
  t39 := Tryz.underlying22
  a39 := Tryz.isAgg22
  z39 := Tryz.sizeOf22
  v39 := Tryz.zeroValue22
  t45 := Tryz.underlying144
  a45 := Tryz.isAgg144
  z45 := Tryz.sizeOf144
  v45 := Tryz.zeroValue144
  t46 := Tryz.underlying145
  a46 := Tryz.isAgg145
  z46 := Tryz.sizeOf145
  v46 := Tryz.zeroValue145
  t50 := Tryz.underlying149
  a50 := Tryz.isAgg149
  z50 := Tryz.sizeOf149
  v50 := Tryz.zeroValue149
  t53 := Tryz.underlying152
  a53 := Tryz.isAgg152
  z53 := Tryz.sizeOf152
  v53 := Tryz.zeroValue152
  t55 := Tryz.underlying154
  a55 := Tryz.isAgg154
  z55 := Tryz.sizeOf154
  v55 := Tryz.zeroValue154
  t66 := Tryz.underlying192
  a66 := Tryz.isAgg192
  z66 := Tryz.sizeOf192
  v66 := Tryz.zeroValue192
  t70 := Tryz.underlying196
  a70 := Tryz.isAgg196
  z70 := Tryz.sizeOf196
  v70 := Tryz.zeroValue196
  t76 := Tryz.underlying238
  a76 := Tryz.isAgg238
  z76 := Tryz.sizeOf238
  v76 := Tryz.zeroValue238
  t77 := Tryz.underlying239
  a77 := Tryz.isAgg239
  z77 := Tryz.sizeOf239
  v77 := Tryz.zeroValue239 }
theorem Tryz.sortI_dummy (n : Nat) : n = n := rfl
end Go.Proofs
