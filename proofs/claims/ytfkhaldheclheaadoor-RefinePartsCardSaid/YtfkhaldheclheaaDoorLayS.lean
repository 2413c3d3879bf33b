/- The shelf's contracts that are used, laid at this program: the numbers of the functions and types, in plain words. Printed by mklay.py. -/
import Derived.Ground.NamesProg
import Derived.Ground.Names2Prog
import Derived.Shelf.Slices.In.Clone
import Derived.Shelf.Slices.In.SortNone
import Derived.Test.YtfkhaldheclheaaDoorChecked
namespace Go.Proofs.YtfkhaldheclheaaDoor
open Go.Shelf
def Tryd.laysClone_ren : Go.Shelf.Ren := ⟨fun | 15 => 30 | n => n, fun | 22 => 43 | 3 => 3 | 4 => 4 | n => n, fun | n => n⟩
theorem Tryd.laysClone : Go.Proofs.Lays2.n15 Tryd.prog Tryd.laysClone_ren := {
  mixed := by kernel_rfl
  f15 := Tryd.func30.trans (congrArg some (by kernel_rfl))
  t3 := Tryd.underlying3
  a3 := Tryd.isAgg3
  z3 := Tryd.sizeOf3
  v3 := Tryd.zeroValue3
  t4 := Tryd.underlying4
  a4 := Tryd.isAgg4
  z4 := Tryd.sizeOf4
  v4 := Tryd.zeroValue4
  t22 := Tryd.underlying43
  a22 := Tryd.isAgg43
  z22 := Tryd.sizeOf43
  v22 := Tryd.zeroValue43
  i3 := by kernel_rfl }
def Tryd.laysSort_ren : Go.Shelf.Ren := ⟨fun | 189 => 32 | 125 => 39 | 257 => 38 | 128 => 49 | 129 => 50 | 294 => 40 | 295 => 41 | 296 => 42 | 297 => 43 | 298 => 44 | 299 => 45 | 216 => 46 | 300 => 47 | 301 => 48 | 328 => 51 | 329 => 52 | 330 => 53 | 331 => 54 | 332 => 55 | 215 => 56 | 343 => 57 | n => n, fun | 28 => 43 | 3 => 3 | 46 => 99 | 0 => 0 | 51 => 113 | 53 => 115 | 4 => 4 | 183 => 107 | 182 => 106 | 131 => 96 | 5 => 5 | 9 => 9 | 218 => 116 | 222 => 120 | 228 => 123 | 229 => 124 | n => n, fun | n => n⟩
theorem Tryd.laysSort : Go.Proofs.Lays.n189 Tryd.prog Tryd.laysSort_ren := {
  mixed := by kernel_rfl
  f125 := Tryd.func39.trans (congrArg some (by kernel_rfl))
  f128 := Tryd.func49.trans (congrArg some (by kernel_rfl))
  f129 := Tryd.func50.trans (congrArg some (by kernel_rfl))
  f189 := Tryd.func32.trans (congrArg some (by kernel_rfl))
  f215 := Tryd.func56.trans (congrArg some (by kernel_rfl))
  f216 := Tryd.func46.trans (congrArg some (by kernel_rfl))
  f257 := Tryd.func38.trans (congrArg some (by kernel_rfl))
  f294 := Tryd.func40.trans (congrArg some (by kernel_rfl))
  f295 := Tryd.func41.trans (congrArg some (by kernel_rfl))
  f296 := Tryd.func42.trans (congrArg some (by kernel_rfl))
  f297 := Tryd.func43.trans (congrArg some (by kernel_rfl))
  f298 := Tryd.func44.trans (congrArg some (by kernel_rfl))
  f299 := Tryd.func45.trans (congrArg some (by kernel_rfl))
  f300 := Tryd.func47.trans (congrArg some (by kernel_rfl))
  f301 := Tryd.func48.trans (congrArg some (by kernel_rfl))
  f328 := Tryd.func51.trans (congrArg some (by kernel_rfl))
  f329 := Tryd.func52.trans (congrArg some (by kernel_rfl))
  f330 := Tryd.func53.trans (congrArg some (by kernel_rfl))
  f331 := Tryd.func54.trans (congrArg some (by kernel_rfl))
  f332 := Tryd.func55.trans (congrArg some (by kernel_rfl))
  f343 := Tryd.func57.trans (congrArg some (by kernel_rfl))
  t0 := Tryd.underlying0
  a0 := Tryd.isAgg0
  z0 := Tryd.sizeOf0
  v0 := Tryd.zeroValue0
  t3 := Tryd.underlying3
  a3 := Tryd.isAgg3
  z3 := Tryd.sizeOf3
  v3 := Tryd.zeroValue3
  t4 := Tryd.underlying4
  a4 := Tryd.isAgg4
  z4 := Tryd.sizeOf4
  v4 := Tryd.zeroValue4
  t5 := Tryd.underlying5
  a5 := Tryd.isAgg5
  z5 := Tryd.sizeOf5
  v5 := Tryd.zeroValue5
  t9 := Tryd.underlying9
  a9 := Tryd.isAgg9
  z9 := Tryd.sizeOf9
  v9 := Tryd.zeroValue9
  t28 := Tryd.underlying43
  a28 := Tryd.isAgg43
  z28 := Tryd.sizeOf43
  v28 := Tryd.zeroValue43
  t46 := Tryd.underlying99
  a46 := Tryd.isAgg99
  z46 := Tryd.sizeOf99
  v46 := Tryd.zeroValue99
  t51 := Tryd.underlying113
  a51 := Tryd.isAgg113
  z51 := Tryd.sizeOf113
  v51 := Tryd.zeroValue113
  t53 := Tryd.underlying115
  a53 := Tryd.isAgg115
  z53 := Tryd.sizeOf115
  v53 := Tryd.zeroValue115
  t131 := Tryd.underlying96
  a131 := Tryd.isAgg96
  z131 := Tryd.sizeOf96
  v131 := Tryd.zeroValue96
  t182 := Tryd.underlying106
  a182 := Tryd.isAgg106
  z182 := Tryd.sizeOf106
  v182 := Tryd.zeroValue106
  t183 := Tryd.underlying107
  a183 := Tryd.isAgg107
  z183 := Tryd.sizeOf107
  v183 := Tryd.zeroValue107
  t218 := Tryd.underlying116
  a218 := Tryd.isAgg116
  z218 := Tryd.sizeOf116
  v218 := Tryd.zeroValue116
  t222 := Tryd.underlying120
  a222 := Tryd.isAgg120
  z222 := Tryd.sizeOf120
  v222 := Tryd.zeroValue120
  t228 := Tryd.underlying123
  a228 := Tryd.isAgg123
  z228 := Tryd.sizeOf123
  v228 := Tryd.zeroValue123
  t229 := Tryd.underlying124
  a229 := Tryd.isAgg124
  z229 := Tryd.sizeOf124
  v229 := Tryd.zeroValue124 }
end Go.Proofs.YtfkhaldheclheaaDoor
