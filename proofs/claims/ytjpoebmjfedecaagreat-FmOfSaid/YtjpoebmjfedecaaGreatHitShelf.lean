/-
  DERIVED: THE SHELF's CONTRACTS AT THIS DUMP, IN PLAIN WORDS (tools/lay-plain.mjs out of 'HShelfYtjpoebmjfedecaaGreat.lean', which tools/lay-shelf.mjs wrote): THE SAME DECLARATIONS UNDER THE SAME NAMES: 'import', 'namespace', 'open', 'def', 'theorem' AND NOTHING ELSE: no command of the shelf's: FOR A HAND-IN. Each laying: the table of numbers ('.._ren') and one theorem, a field a fact of the dump's own or the kernel's comparison; each contract: ONE APPLICATION.
-/
import Derived.Shelf.SlSortCmp.NoneTotal
import Derived.Ground.SlsfProg
import Derived.Test.YtjpoebmjfedecaaGreatProg
namespace Go.Proofs
open Go.Shelf
def Tryz.sortHit_ren : Go.Shelf.Ren := ⟨fun | 6 => 63 | 15 => 79 | 14 => 78 | 28 => 95 | 29 => 96 | 20 => 87 | 21 => 88 | 22 => 89 | 23 => 90 | 24 => 91 | 25 => 92 | 26 => 93 | 27 => 94 | 46 => 100 | 47 => 101 | 48 => 102 | 49 => 103 | 50 => 104 | 57 => 105 | n => n, fun | 22 => 88 | 24 => 91 | 25 => 121 | 3 => 3 | 39 => 143 | 0 => 0 | 53 => 158 | 55 => 145 | 4 => 4 | 46 => 152 | 45 => 151 | 50 => 136 | 5 => 5 | 9 => 9 | 66 => 160 | 70 => 164 | 76 => 166 | 77 => 83 | n => n, fun | n => n⟩
theorem Tryz.sortHit : Go.Proofs.SlLaysF0.n6 Tryz.prog Tryz.sortHit_ren := {
  mixed := by kernel_rfl
  f6 := ⟨Tryz.f63.name, by decide, Tryz.func63.trans (congrArg some (by kernel_rfl))⟩
  f14 := ⟨Tryz.f78.name, by decide, Tryz.func78.trans (congrArg some (by kernel_rfl))⟩
  f15 := Tryz.func79.trans (congrArg some (by kernel_rfl))
  f20 := ⟨Tryz.f87.name, by decide, Tryz.func87.trans (congrArg some (by kernel_rfl))⟩
  f21 := ⟨Tryz.f88.name, by decide, Tryz.func88.trans (congrArg some (by kernel_rfl))⟩
  f22 := ⟨Tryz.f89.name, by decide, Tryz.func89.trans (congrArg some (by kernel_rfl))⟩
  f23 := ⟨Tryz.f90.name, by decide, Tryz.func90.trans (congrArg some (by kernel_rfl))⟩
  f24 := ⟨Tryz.f91.name, by decide, Tryz.func91.trans (congrArg some (by kernel_rfl))⟩
  f25 := ⟨Tryz.f92.name, by decide, Tryz.func92.trans (congrArg some (by kernel_rfl))⟩
  f26 := ⟨Tryz.f93.name, by decide, Tryz.func93.trans (congrArg some (by kernel_rfl))⟩
  f27 := ⟨Tryz.f94.name, by decide, Tryz.func94.trans (congrArg some (by kernel_rfl))⟩
  f28 := Tryz.func95.trans (congrArg some (by kernel_rfl))
  f29 := Tryz.func96.trans (congrArg some (by kernel_rfl))
  f46 := ⟨Tryz.f100.name, by decide, Tryz.func100.trans (congrArg some (by kernel_rfl))⟩
  f47 := Tryz.func101.trans (congrArg some (by kernel_rfl))
  f48 := Tryz.func102.trans (congrArg some (by kernel_rfl))
  f49 := ⟨Tryz.f103.name, by decide, Tryz.func103.trans (congrArg some (by kernel_rfl))⟩
  f50 := ⟨Tryz.f104.name, by decide, Tryz.func104.trans (congrArg some (by kernel_rfl))⟩
  f57 := ⟨Tryz.f105.name, by decide, Tryz.func105.trans (congrArg some (by kernel_rfl))⟩
  t0 := Tryz.underlying0
  a0 := Tryz.isAgg0
  z0 := Tryz.sizeOf0
  v0 := Tryz.zeroValue0
  t3 := Tryz.underlying3
  a3 := Tryz.isAgg3
  z3 := Tryz.sizeOf3
  v3 := Tryz.zeroValue3
  t4 := Tryz.underlying4
  a4 := Tryz.isAgg4
  z4 := Tryz.sizeOf4
  v4 := Tryz.zeroValue4
  t5 := Tryz.underlying5
  a5 := Tryz.isAgg5
  z5 := Tryz.sizeOf5
  v5 := Tryz.zeroValue5
  t9 := Tryz.underlying9
  a9 := Tryz.isAgg9
  z9 := Tryz.sizeOf9
  v9 := Tryz.zeroValue9
  t22 := Tryz.underlying88
  a22 := Tryz.isAgg88
  z22 := Tryz.sizeOf88
  v22 := Tryz.zeroValue88
  t25 := Tryz.underlying121
  a25 := Tryz.isAgg121
  z25 := Tryz.sizeOf121
  v25 := Tryz.zeroValue121
  t39 := Tryz.underlying143
  a39 := Tryz.isAgg143
  z39 := Tryz.sizeOf143
  v39 := Tryz.zeroValue143
  t45 := Tryz.underlying151
  a45 := Tryz.isAgg151
  z45 := Tryz.sizeOf151
  v45 := Tryz.zeroValue151
  t46 := Tryz.underlying152
  a46 := Tryz.isAgg152
  z46 := Tryz.sizeOf152
  v46 := Tryz.zeroValue152
  t50 := Tryz.underlying136
  a50 := Tryz.isAgg136
  z50 := Tryz.sizeOf136
  v50 := Tryz.zeroValue136
  t53 := Tryz.underlying158
  a53 := Tryz.isAgg158
  z53 := Tryz.sizeOf158
  v53 := Tryz.zeroValue158
  t55 := Tryz.underlying145
  a55 := Tryz.isAgg145
  z55 := Tryz.sizeOf145
  v55 := Tryz.zeroValue145
  t66 := Tryz.underlying160
  a66 := Tryz.isAgg160
  z66 := Tryz.sizeOf160
  v66 := Tryz.zeroValue160
  t70 := Tryz.underlying164
  a70 := Tryz.isAgg164
  z70 := Tryz.sizeOf164
  v70 := Tryz.zeroValue164
  t76 := Tryz.underlying166
  a76 := Tryz.isAgg166
  z76 := Tryz.sizeOf166
  v76 := Tryz.zeroValue166
  t77 := Tryz.underlying83
  a77 := Tryz.isAgg83
  z77 := Tryz.sizeOf83
  v77 := Tryz.zeroValue83 }
end Go.Proofs
