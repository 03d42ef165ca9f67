/-
  DERIVED: THE SHELF's CONTRACTS AT THIS DUMP, IN PLAIN WORDS (tools/lay-plain.mjs out of 'HShelfYtjpoebmjfedecaa.lean', which tools/lay-shelf.mjs wrote): THE SAME DECLARATIONS UNDER THE SAME NAMES: 'import', 'namespace', 'open', 'def', 'theorem' AND NOTHING ELSE: no command of the shelf's: FOR A HAND-IN. Each laying: the table of numbers ('.._ren') and one theorem, a field a fact of the dump's own or the kernel's comparison; each contract: ONE APPLICATION.
-/
import Derived.Shelf.SlSortCmp.NoneTotal
import Derived.Ground.SlsfProg
import Derived.Test.YtjpoebmjfedecaaProg
namespace Go.Proofs
open Go.Shelf
def Try.sortHit_ren : Go.Shelf.Ren := ⟨fun | 6 => 90 | 15 => 104 | 14 => 103 | 28 => 118 | 29 => 119 | 20 => 110 | 21 => 111 | 22 => 112 | 23 => 113 | 24 => 114 | 25 => 115 | 26 => 116 | 27 => 117 | 46 => 121 | 47 => 122 | 48 => 123 | 49 => 124 | 50 => 125 | 57 => 126 | n => n, fun | 22 => 127 | 24 => 130 | 25 => 149 | 3 => 3 | 39 => 159 | 0 => 0 | 53 => 173 | 55 => 161 | 4 => 4 | 46 => 167 | 45 => 166 | 50 => 48 | 5 => 5 | 9 => 9 | 66 => 175 | 70 => 179 | 76 => 181 | 77 => 131 | n => n, fun | n => n⟩
theorem Try.sortHit : Go.Proofs.SlLaysF0.n6 Try.prog Try.sortHit_ren := {
  mixed := by kernel_rfl
  f6 := ⟨Try.f90.name, by decide, Try.func90.trans (congrArg some (by kernel_rfl))⟩
  f14 := ⟨Try.f103.name, by decide, Try.func103.trans (congrArg some (by kernel_rfl))⟩
  f15 := Try.func104.trans (congrArg some (by kernel_rfl))
  f20 := ⟨Try.f110.name, by decide, Try.func110.trans (congrArg some (by kernel_rfl))⟩
  f21 := ⟨Try.f111.name, by decide, Try.func111.trans (congrArg some (by kernel_rfl))⟩
  f22 := ⟨Try.f112.name, by decide, Try.func112.trans (congrArg some (by kernel_rfl))⟩
  f23 := ⟨Try.f113.name, by decide, Try.func113.trans (congrArg some (by kernel_rfl))⟩
  f24 := ⟨Try.f114.name, by decide, Try.func114.trans (congrArg some (by kernel_rfl))⟩
  f25 := ⟨Try.f115.name, by decide, Try.func115.trans (congrArg some (by kernel_rfl))⟩
  f26 := ⟨Try.f116.name, by decide, Try.func116.trans (congrArg some (by kernel_rfl))⟩
  f27 := ⟨Try.f117.name, by decide, Try.func117.trans (congrArg some (by kernel_rfl))⟩
  f28 := Try.func118.trans (congrArg some (by kernel_rfl))
  f29 := Try.func119.trans (congrArg some (by kernel_rfl))
  f46 := ⟨Try.f121.name, by decide, Try.func121.trans (congrArg some (by kernel_rfl))⟩
  f47 := Try.func122.trans (congrArg some (by kernel_rfl))
  f48 := Try.func123.trans (congrArg some (by kernel_rfl))
  f49 := ⟨Try.f124.name, by decide, Try.func124.trans (congrArg some (by kernel_rfl))⟩
  f50 := ⟨Try.f125.name, by decide, Try.func125.trans (congrArg some (by kernel_rfl))⟩
  f57 := ⟨Try.f126.name, by decide, Try.func126.trans (congrArg some (by kernel_rfl))⟩
  t0 := Try.underlying0
  a0 := Try.isAgg0
  z0 := Try.sizeOf0
  v0 := Try.zeroValue0
  t3 := Try.underlying3
  a3 := Try.isAgg3
  z3 := Try.sizeOf3
  v3 := Try.zeroValue3
  t4 := Try.underlying4
  a4 := Try.isAgg4
  z4 := Try.sizeOf4
  v4 := Try.zeroValue4
  t5 := Try.underlying5
  a5 := Try.isAgg5
  z5 := Try.sizeOf5
  v5 := Try.zeroValue5
  t9 := Try.underlying9
  a9 := Try.isAgg9
  z9 := Try.sizeOf9
  v9 := Try.zeroValue9
  t22 := Try.underlying127
  a22 := Try.isAgg127
  z22 := Try.sizeOf127
  v22 := Try.zeroValue127
  t25 := Try.underlying149
  a25 := Try.isAgg149
  z25 := Try.sizeOf149
  v25 := Try.zeroValue149
  t39 := Try.underlying159
  a39 := Try.isAgg159
  z39 := Try.sizeOf159
  v39 := Try.zeroValue159
  t45 := Try.underlying166
  a45 := Try.isAgg166
  z45 := Try.sizeOf166
  v45 := Try.zeroValue166
  t46 := Try.underlying167
  a46 := Try.isAgg167
  z46 := Try.sizeOf167
  v46 := Try.zeroValue167
  t50 := Try.underlying48
  a50 := Try.isAgg48
  z50 := Try.sizeOf48
  v50 := Try.zeroValue48
  t53 := Try.underlying173
  a53 := Try.isAgg173
  z53 := Try.sizeOf173
  v53 := Try.zeroValue173
  t55 := Try.underlying161
  a55 := Try.isAgg161
  z55 := Try.sizeOf161
  v55 := Try.zeroValue161
  t66 := Try.underlying175
  a66 := Try.isAgg175
  z66 := Try.sizeOf175
  v66 := Try.zeroValue175
  t70 := Try.underlying179
  a70 := Try.isAgg179
  z70 := Try.sizeOf179
  v70 := Try.zeroValue179
  t76 := Try.underlying181
  a76 := Try.isAgg181
  z76 := Try.sizeOf181
  v76 := Try.zeroValue181
  t77 := Try.underlying131
  a77 := Try.isAgg131
  z77 := Try.sizeOf131
  v77 := Try.zeroValue131 }
end Go.Proofs
