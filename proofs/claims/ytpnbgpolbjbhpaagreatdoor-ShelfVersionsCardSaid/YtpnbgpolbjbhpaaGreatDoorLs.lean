/- Contracts of functions, and walks of laws (text Ls). No conditions beyond those its theorems state. -/
import Derived.Shelf.Sort.Plain
import Derived.Test.YtpnbgpolbjbhpaaGreatDoorProg
set_option linter.all false
/-
  DERIVED: THE SHELF's CONTRACTS AT THIS DUMP, IN PLAIN WORDS (tools/lay-plain.mjs out of 'TryzShelf.lean', which tools/lay-shelf.mjs wrote): THE SAME DECLARATIONS UNDER THE SAME NAMES: 'import', 'namespace', 'open', 'def', 'theorem' AND NOTHING ELSE: no command of the shelf's: FOR A HAND-IN. Each laying: the table of numbers ('.._ren') and one theorem, a field a fact of the dump's own or the kernel's comparison; each contract: ONE APPLICATION.
-/
namespace Go.Proofs
open Go.Shelf
def Tryz.lays190_ren : Go.Shelf.Ren := ⟨fun | 190 => 77 | 125 => 90 | 258 => 89 | 128 => 105 | 129 => 106 | 302 => 96 | 303 => 97 | 304 => 98 | 305 => 99 | 306 => 100 | 307 => 101 | 308 => 102 | 309 => 103 | 310 => 104 | 333 => 114 | 329 => 115 | 330 => 116 | 334 => 117 | 335 => 118 | 336 => 119 | 344 => 124 | n => n, fun | 31 => 38 | 9 => 9 | 3 => 3 | 46 => 143 | 0 => 0 | 51 => 157 | 53 => 159 | 4 => 4 | 183 => 149 | 182 => 148 | 131 => 154 | 5 => 5 | 218 => 168 | 222 => 172 | 228 => 181 | 229 => 59 | n => n, fun | n => n⟩
theorem Tryz.lays190 : Go.Proofs.Lays.n190 Tryz.prog Tryz.lays190_ren := {
  mixed := by kernel_rfl
  f125 := Tryz.func90.trans (congrArg some (by kernel_rfl))
  f128 := Tryz.func105.trans (congrArg some (by kernel_rfl))
  f129 := Tryz.func106.trans (congrArg some (by kernel_rfl))
  f190 := Tryz.func77.trans (congrArg some (by kernel_rfl))
  f258 := Tryz.func89.trans (congrArg some (by kernel_rfl))
  f302 := Tryz.func96.trans (congrArg some (by kernel_rfl))
  f303 := Tryz.func97.trans (congrArg some (by kernel_rfl))
  f304 := Tryz.func98.trans (congrArg some (by kernel_rfl))
  f305 := Tryz.func99.trans (congrArg some (by kernel_rfl))
  f306 := Tryz.func100.trans (congrArg some (by kernel_rfl))
  f307 := Tryz.func101.trans (congrArg some (by kernel_rfl))
  f308 := Tryz.func102.trans (congrArg some (by kernel_rfl))
  f309 := Tryz.func103.trans (congrArg some (by kernel_rfl))
  f310 := Tryz.func104.trans (congrArg some (by kernel_rfl))
  f329 := Tryz.func115.trans (congrArg some (by kernel_rfl))
  f330 := Tryz.func116.trans (congrArg some (by kernel_rfl))
  f333 := Tryz.func114.trans (congrArg some (by kernel_rfl))
  f334 := Tryz.func117.trans (congrArg some (by kernel_rfl))
  f335 := Tryz.func118.trans (congrArg some (by kernel_rfl))
  f336 := Tryz.func119.trans (congrArg some (by kernel_rfl))
  f344 := Tryz.func124.trans (congrArg some (by kernel_rfl))
  t0 := Tryz.underlying0
  a0 := Tryz.isAgg0
  z0 := Tryz.sizeOf0
  v0 := Tryz.zeroValue0
  t3 := Tryz.underlying3
  a3 := Tryz.isAgg3
  z3 := Tryz.sizeOf3
  v3 := Tryz.zeroValue3
  t4 := Tryz.underlying4
  a4 := Tryz.isAgg4
  z4 := Tryz.sizeOf4
  v4 := Tryz.zeroValue4
  t5 := Tryz.underlying5
  a5 := Tryz.isAgg5
  z5 := Tryz.sizeOf5
  v5 := Tryz.zeroValue5
  t9 := Tryz.underlying9
  a9 := Tryz.isAgg9
  z9 := Tryz.sizeOf9
  v9 := Tryz.zeroValue9
  t31 := Tryz.underlying38
  a31 := Tryz.isAgg38
  z31 := Tryz.sizeOf38
  v31 := Tryz.zeroValue38
  t46 := Tryz.underlying143
  a46 := Tryz.isAgg143
  z46 := Tryz.sizeOf143
  v46 := Tryz.zeroValue143
  t51 := Tryz.underlying157
  a51 := Tryz.isAgg157
  z51 := Tryz.sizeOf157
  v51 := Tryz.zeroValue157
  t53 := Tryz.underlying159
  a53 := Tryz.isAgg159
  z53 := Tryz.sizeOf159
  v53 := Tryz.zeroValue159
  t131 := Tryz.underlying154
  a131 := Tryz.isAgg154
  z131 := Tryz.sizeOf154
  v131 := Tryz.zeroValue154
  t182 := Tryz.underlying148
  a182 := Tryz.isAgg148
  z182 := Tryz.sizeOf148
  v182 := Tryz.zeroValue148
  t183 := Tryz.underlying149
  a183 := Tryz.isAgg149
  z183 := Tryz.sizeOf149
  v183 := Tryz.zeroValue149
  t218 := Tryz.underlying168
  a218 := Tryz.isAgg168
  z218 := Tryz.sizeOf168
  v218 := Tryz.zeroValue168
  t222 := Tryz.underlying172
  a222 := Tryz.isAgg172
  z222 := Tryz.sizeOf172
  v222 := Tryz.zeroValue172
  t228 := Tryz.underlying181
  a228 := Tryz.isAgg181
  z228 := Tryz.sizeOf181
  v228 := Tryz.zeroValue181
  t229 := Tryz.underlying59
  a229 := Tryz.isAgg59
  z229 := Tryz.sizeOf59
  v229 := Tryz.zeroValue59 }
end Go.Proofs
