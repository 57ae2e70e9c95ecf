/-
  DERIVED: THE SHELF's CONTRACTS AT THIS DUMP, IN PLAIN WORDS (tools/lay-plain.mjs out of 'YtdpnaneedjoboaaGreatDoorLay.lean', which tools/lay-shelf.mjs wrote): THE SAME DECLARATIONS UNDER THE SAME NAMES: 'import', 'namespace', 'open', 'def', 'theorem' AND NOTHING ELSE: no command of the shelf's: FOR A HAND-IN. Each laying: the table of numbers ('.._ren') and one theorem, a field a fact of the dump's own or the kernel's comparison; each contract: ONE APPLICATION.
-/
import Derived.Shelf.Sort.Plain
import Derived.Shelf.Slices.In.SortNone
import Derived.Test.YtdpnaneedjoboaaGreatDoorProg
namespace Go.Proofs
open Go.Shelf
def Tryz.sortI_ren : Go.Shelf.Ren := ⟨fun | 189 => 16 | 125 => 32 | 257 => 31 | 128 => 55 | 129 => 56 | 294 => 46 | 295 => 47 | 296 => 48 | 297 => 49 | 298 => 50 | 299 => 51 | 216 => 52 | 300 => 53 | 301 => 54 | 328 => 75 | 329 => 76 | 330 => 77 | 331 => 78 | 332 => 79 | 215 => 80 | 343 => 102 | n => n, fun | 28 => 23 | 3 => 3 | 46 => 68 | 0 => 0 | 51 => 83 | 53 => 85 | 4 => 4 | 183 => 76 | 182 => 75 | 131 => 37 | 5 => 5 | 9 => 9 | 218 => 105 | 222 => 109 | 228 => 131 | 229 => 132 | n => n, fun | n => n⟩
theorem Tryz.sortI : Go.Proofs.Lays.n189 Tryz.prog Tryz.sortI_ren := {
  mixed := by kernel_rfl
  f125 := Tryz.func32.trans (congrArg some (by kernel_rfl))
  f128 := Tryz.func55.trans (congrArg some (by kernel_rfl))
  f129 := Tryz.func56.trans (congrArg some (by kernel_rfl))
  f189 := Tryz.func16.trans (congrArg some (by kernel_rfl))
  f215 := Tryz.func80.trans (congrArg some (by kernel_rfl))
  f216 := Tryz.func52.trans (congrArg some (by kernel_rfl))
  f257 := Tryz.func31.trans (congrArg some (by kernel_rfl))
  f294 := Tryz.func46.trans (congrArg some (by kernel_rfl))
  f295 := Tryz.func47.trans (congrArg some (by kernel_rfl))
  f296 := Tryz.func48.trans (congrArg some (by kernel_rfl))
  f297 := Tryz.func49.trans (congrArg some (by kernel_rfl))
  f298 := Tryz.func50.trans (congrArg some (by kernel_rfl))
  f299 := Tryz.func51.trans (congrArg some (by kernel_rfl))
  f300 := Tryz.func53.trans (congrArg some (by kernel_rfl))
  f301 := Tryz.func54.trans (congrArg some (by kernel_rfl))
  f328 := Tryz.func75.trans (congrArg some (by kernel_rfl))
  f329 := Tryz.func76.trans (congrArg some (by kernel_rfl))
  f330 := Tryz.func77.trans (congrArg some (by kernel_rfl))
  f331 := Tryz.func78.trans (congrArg some (by kernel_rfl))
  f332 := Tryz.func79.trans (congrArg some (by kernel_rfl))
  f343 := Tryz.func102.trans (congrArg some (by kernel_rfl))
  t0 := Tryz.underlying0
  a0 := Tryz.isAgg0
  z0 := Tryz.sizeOf0
  v0 := Tryz.zeroValue0
  t3 := Tryz.underlying3
  a3 := Tryz.isAgg3
  z3 := Tryz.sizeOf3
  v3 := Tryz.zeroValue3
  t4 := Tryz.underlying4
  a4 := Tryz.isAgg4
  z4 := Tryz.sizeOf4
  v4 := Tryz.zeroValue4
  t5 := Tryz.underlying5
  a5 := Tryz.isAgg5
  z5 := Tryz.sizeOf5
  v5 := Tryz.zeroValue5
  t9 := Tryz.underlying9
  a9 := Tryz.isAgg9
  z9 := Tryz.sizeOf9
  v9 := Tryz.zeroValue9
  t28 := Tryz.underlying23
  a28 := Tryz.isAgg23
  z28 := Tryz.sizeOf23
  v28 := Tryz.zeroValue23
  t46 := Tryz.underlying68
  a46 := Tryz.isAgg68
  z46 := Tryz.sizeOf68
  v46 := Tryz.zeroValue68
  t51 := Tryz.underlying83
  a51 := Tryz.isAgg83
  z51 := Tryz.sizeOf83
  v51 := Tryz.zeroValue83
  t53 := Tryz.underlying85
  a53 := Tryz.isAgg85
  z53 := Tryz.sizeOf85
  v53 := Tryz.zeroValue85
  t131 := Tryz.underlying37
  a131 := Tryz.isAgg37
  z131 := Tryz.sizeOf37
  v131 := Tryz.zeroValue37
  t182 := Tryz.underlying75
  a182 := Tryz.isAgg75
  z182 := Tryz.sizeOf75
  v182 := Tryz.zeroValue75
  t183 := Tryz.underlying76
  a183 := Tryz.isAgg76
  z183 := Tryz.sizeOf76
  v183 := Tryz.zeroValue76
  t218 := Tryz.underlying105
  a218 := Tryz.isAgg105
  z218 := Tryz.sizeOf105
  v218 := Tryz.zeroValue105
  t222 := Tryz.underlying109
  a222 := Tryz.isAgg109
  z222 := Tryz.sizeOf109
  v222 := Tryz.zeroValue109
  t228 := Tryz.underlying131
  a228 := Tryz.isAgg131
  z228 := Tryz.sizeOf131
  v228 := Tryz.zeroValue131
  t229 := Tryz.underlying132
  a229 := Tryz.isAgg132
  z229 := Tryz.sizeOf132
  v229 := Tryz.zeroValue132 }
def Tryz.sortS_ren : Go.Shelf.Ren := ⟨fun | 190 => 39 | 125 => 32 | 258 => 60 | 128 => 55 | 129 => 56 | 302 => 82 | 303 => 83 | 304 => 84 | 305 => 85 | 306 => 86 | 307 => 87 | 308 => 88 | 309 => 89 | 310 => 90 | 333 => 103 | 329 => 76 | 330 => 77 | 334 => 104 | 335 => 105 | 336 => 106 | 344 => 116 | n => n, fun | 31 => 28 | 9 => 9 | 3 => 3 | 46 => 68 | 0 => 0 | 51 => 83 | 53 => 85 | 4 => 4 | 183 => 76 | 182 => 75 | 131 => 37 | 5 => 5 | 218 => 105 | 222 => 109 | 228 => 131 | 229 => 132 | n => n, fun | n => n⟩
end Go.Proofs
