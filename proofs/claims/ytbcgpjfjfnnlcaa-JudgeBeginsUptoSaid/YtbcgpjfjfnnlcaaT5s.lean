/-
  slices.Sort of ints: the shelf's contract, at this program; the examples, run in the abstract machine.
-/
import Derived.Shelf.Sort.Plain
import Derived.Shelf.Slices.In.SortNone
import Derived.Test.YtbcgpjfjfnnlcaaE19
import Derived.Test.YtbcgpjfjfnnlcaaProg
import Derived.WalkKit
namespace Go.Proofs
open Go.Shelf
def sortRen : Ren := ⟨fun | 189 => 26 | 125 => 39 | 257 => 38 | 128 => 58 | 129 => 59 | 294 => 49 | 295 => 50 | 296 => 51 | 297 => 52 | 298 => 53 | 299 => 54 | 216 => 55 | 300 => 56 | 301 => 57 | 328 => 65 | 329 => 66 | 330 => 67 | 331 => 68 | 332 => 69 | 215 => 70 | 343 => 71 | n => n, fun | 28 => 64 | 3 => 3 | 46 => 95 | 0 => 0 | 51 => 112 | 53 => 114 | 4 => 4 | 183 => 105 | 182 => 104 | 131 => 67 | 5 => 5 | 9 => 9 | 218 => 116 | 222 => 120 | 228 => 122 | 229 => 85 | n => n, fun | n => n⟩
theorem sortLays : Lays.n189 Try.prog sortRen where
  mixed := by kernel_rfl
  f125 := Try.func39.trans (congrArg some (by kernel_rfl))
  f128 := Try.func58.trans (congrArg some (by kernel_rfl))
  f129 := Try.func59.trans (congrArg some (by kernel_rfl))
  f189 := Try.func26.trans (congrArg some (by kernel_rfl))
  f215 := Try.func70.trans (congrArg some (by kernel_rfl))
  f216 := Try.func55.trans (congrArg some (by kernel_rfl))
  f257 := Try.func38.trans (congrArg some (by kernel_rfl))
  f294 := Try.func49.trans (congrArg some (by kernel_rfl))
  f295 := Try.func50.trans (congrArg some (by kernel_rfl))
  f296 := Try.func51.trans (congrArg some (by kernel_rfl))
  f297 := Try.func52.trans (congrArg some (by kernel_rfl))
  f298 := Try.func53.trans (congrArg some (by kernel_rfl))
  f299 := Try.func54.trans (congrArg some (by kernel_rfl))
  f300 := Try.func56.trans (congrArg some (by kernel_rfl))
  f301 := Try.func57.trans (congrArg some (by kernel_rfl))
  f328 := Try.func65.trans (congrArg some (by kernel_rfl))
  f329 := Try.func66.trans (congrArg some (by kernel_rfl))
  f330 := Try.func67.trans (congrArg some (by kernel_rfl))
  f331 := Try.func68.trans (congrArg some (by kernel_rfl))
  f332 := Try.func69.trans (congrArg some (by kernel_rfl))
  f343 := Try.func71.trans (congrArg some (by kernel_rfl))
  t0 := Try.underlying0
  a0 := Try.isAgg0
  z0 := Try.sizeOf0
  v0 := Try.zeroValue0
  t3 := Try.underlying3
  a3 := Try.isAgg3
  z3 := Try.sizeOf3
  v3 := Try.zeroValue3
  t4 := Try.underlying4
  a4 := Try.isAgg4
  z4 := Try.sizeOf4
  v4 := Try.zeroValue4
  t5 := Try.underlying5
  a5 := Try.isAgg5
  z5 := Try.sizeOf5
  v5 := Try.zeroValue5
  t9 := Try.underlying9
  a9 := Try.isAgg9
  z9 := Try.sizeOf9
  v9 := Try.zeroValue9
  t28 := Try.underlying64
  a28 := Try.isAgg64
  z28 := Try.sizeOf64
  v28 := Try.zeroValue64
  t46 := Try.underlying95
  a46 := Try.isAgg95
  z46 := Try.sizeOf95
  v46 := Try.zeroValue95
  t51 := Try.underlying112
  a51 := Try.isAgg112
  z51 := Try.sizeOf112
  v51 := Try.zeroValue112
  t53 := Try.underlying114
  a53 := Try.isAgg114
  z53 := Try.sizeOf114
  v53 := Try.zeroValue114
  t131 := Try.underlying67
  a131 := Try.isAgg67
  z131 := Try.sizeOf67
  v131 := Try.zeroValue67
  t182 := Try.underlying104
  a182 := Try.isAgg104
  z182 := Try.sizeOf104
  v182 := Try.zeroValue104
  t183 := Try.underlying105
  a183 := Try.isAgg105
  z183 := Try.sizeOf105
  v183 := Try.zeroValue105
  t218 := Try.underlying116
  a218 := Try.isAgg116
  z218 := Try.sizeOf116
  v218 := Try.zeroValue116
  t222 := Try.underlying120
  a222 := Try.isAgg120
  z222 := Try.sizeOf120
  v222 := Try.zeroValue120
  t228 := Try.underlying122
  a228 := Try.isAgg122
  z228 := Try.sizeOf122
  v228 := Try.zeroValue122
  t229 := Try.underlying85
  a229 := Try.isAgg85
  z229 := Try.sizeOf85
  v229 := Try.zeroValue85

end Go.Proofs
namespace Go.Eng.T3
open Go.Proofs
theorem sortOK : SortOK Try.prog 26 where
  body := ⟨_, _, Try.func26, rfl, rfl⟩
  nil_ := fun p c w => Any.slices_Sort_int_none sortLays p c w
  row_ := fun blk off cap zs w hH hb hz => Any.slices_Sort_int sortLays blk off cap zs w hH hb hz

def resB (r : R (Res × AH)) : Option Bool :=
  match r with
  | .ok (.val (.bool b), _) => some b
  | _ => none

theorem shown6 : resB (fRun Try.prog 200000 (.call 6 []) AH.empty) = some true := by kernel_rfl

end Go.Eng.T3
