/- Contracts of functions, and walks of laws (text Ls). No conditions beyond those its theorems state. -/
import Derived.Shelf.Sort.Plain
import Derived.Test.YthmpbgloifdcnaaGreatProg
set_option linter.all false
/-
  DERIVED: THE SHELF's CONTRACTS AT THIS DUMP, IN PLAIN WORDS (tools/lay-plain.mjs out of 'TryzShelf.lean', which tools/lay-shelf.mjs wrote): THE SAME DECLARATIONS UNDER THE SAME NAMES: 'import', 'namespace', 'open', 'def', 'theorem' AND NOTHING ELSE: no command of the shelf's: FOR A HAND-IN. Each laying: the table of numbers ('.._ren') and one theorem, a field a fact of the dump's own or the kernel's comparison; each contract: ONE APPLICATION.
-/
namespace Go.Proofs
open Go.Shelf
def Tryz.lays190_ren : Go.Shelf.Ren := ⟨fun | 190 => 67 | 125 => 63 | 258 => 88 | 128 => 84 | 129 => 85 | 302 => 98 | 303 => 99 | 304 => 100 | 305 => 101 | 306 => 102 | 307 => 103 | 308 => 104 | 309 => 105 | 310 => 106 | 333 => 110 | 329 => 93 | 330 => 94 | 334 => 111 | 335 => 112 | 336 => 113 | 344 => 115 | n => n, fun | 31 => 113 | 9 => 9 | 3 => 3 | 46 => 131 | 0 => 0 | 51 => 152 | 53 => 154 | 4 => 4 | 183 => 146 | 182 => 145 | 131 => 87 | 5 => 5 | 218 => 159 | 222 => 163 | 228 => 173 | 229 => 174 | n => n, fun | n => n⟩
theorem Tryz.lays190 : Go.Proofs.Lays.n190 Tryz.prog Tryz.lays190_ren := {
  mixed := by kernel_rfl
  f125 := Tryz.func63.trans (congrArg some (by kernel_rfl))
  f128 := Tryz.func84.trans (congrArg some (by kernel_rfl))
  f129 := Tryz.func85.trans (congrArg some (by kernel_rfl))
  f190 := Tryz.func67.trans (congrArg some (by kernel_rfl))
  f258 := Tryz.func88.trans (congrArg some (by kernel_rfl))
  f302 := Tryz.func98.trans (congrArg some (by kernel_rfl))
  f303 := Tryz.func99.trans (congrArg some (by kernel_rfl))
  f304 := Tryz.func100.trans (congrArg some (by kernel_rfl))
  f305 := Tryz.func101.trans (congrArg some (by kernel_rfl))
  f306 := Tryz.func102.trans (congrArg some (by kernel_rfl))
  f307 := Tryz.func103.trans (congrArg some (by kernel_rfl))
  f308 := Tryz.func104.trans (congrArg some (by kernel_rfl))
  f309 := Tryz.func105.trans (congrArg some (by kernel_rfl))
  f310 := Tryz.func106.trans (congrArg some (by kernel_rfl))
  f329 := Tryz.func93.trans (congrArg some (by kernel_rfl))
  f330 := Tryz.func94.trans (congrArg some (by kernel_rfl))
  f333 := Tryz.func110.trans (congrArg some (by kernel_rfl))
  f334 := Tryz.func111.trans (congrArg some (by kernel_rfl))
  f335 := Tryz.func112.trans (congrArg some (by kernel_rfl))
  f336 := Tryz.func113.trans (congrArg some (by kernel_rfl))
  f344 := Tryz.func115.trans (congrArg some (by kernel_rfl))
  t0 := Tryz.underlying0
  a0 := Tryz.isAgg0
  z0 := Tryz.sizeOf0
  v0 := Tryz.zeroValue0
  t3 := Tryz.underlying3
  a3 := Tryz.isAgg3
  z3 := Tryz.sizeOf3
  v3 := Tryz.zeroValue3
  t4 := Tryz.underlying4
  a4 := Tryz.isAgg4
  z4 := Tryz.sizeOf4
  v4 := Tryz.zeroValue4
  t5 := Tryz.underlying5
  a5 := Tryz.isAgg5
  z5 := Tryz.sizeOf5
  v5 := Tryz.zeroValue5
  t9 := Tryz.underlying9
  a9 := Tryz.isAgg9
  z9 := Tryz.sizeOf9
  v9 := Tryz.zeroValue9
  t31 := Tryz.underlying113
  a31 := Tryz.isAgg113
  z31 := Tryz.sizeOf113
  v31 := Tryz.zeroValue113
  t46 := Tryz.underlying131
  a46 := Tryz.isAgg131
  z46 := Tryz.sizeOf131
  v46 := Tryz.zeroValue131
  t51 := Tryz.underlying152
  a51 := Tryz.isAgg152
  z51 := Tryz.sizeOf152
  v51 := Tryz.zeroValue152
  t53 := Tryz.underlying154
  a53 := Tryz.isAgg154
  z53 := Tryz.sizeOf154
  v53 := Tryz.zeroValue154
  t131 := Tryz.underlying87
  a131 := Tryz.isAgg87
  z131 := Tryz.sizeOf87
  v131 := Tryz.zeroValue87
  t182 := Tryz.underlying145
  a182 := Tryz.isAgg145
  z182 := Tryz.sizeOf145
  v182 := Tryz.zeroValue145
  t183 := Tryz.underlying146
  a183 := Tryz.isAgg146
  z183 := Tryz.sizeOf146
  v183 := Tryz.zeroValue146
  t218 := Tryz.underlying159
  a218 := Tryz.isAgg159
  z218 := Tryz.sizeOf159
  v218 := Tryz.zeroValue159
  t222 := Tryz.underlying163
  a222 := Tryz.isAgg163
  z222 := Tryz.sizeOf163
  v222 := Tryz.zeroValue163
  t228 := Tryz.underlying173
  a228 := Tryz.isAgg173
  z228 := Tryz.sizeOf173
  v228 := Tryz.zeroValue173
  t229 := Tryz.underlying174
  a229 := Tryz.isAgg174
  z229 := Tryz.sizeOf174
  v229 := Tryz.zeroValue174 }
end Go.Proofs
