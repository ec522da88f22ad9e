/- The contract of slices.Sort at texts, at this program. No condition. -/
import Derived.Test.YtdnnpgmekbnlbaaAmX
import Derived.Test.YtdnnpgmekbnlbaaAmR
import Derived.Shelf.SortM.Plain
import Derived.Shelf.SortM.SortNone
import Derived.Test.YtdnnpgmekbnlbaaRows
import Derived.Test.YtdnnpgmekbnlbaaChecked
set_option linter.unusedVariables false
set_option linter.unusedSimpArgs false
namespace Go.Proofs.Ytdnnpgmekbnlbaa
open Go.Wam Go.Proofs Go.Shelf
def Try.sortA_ren : Go.Shelf.Ren := ⟨fun | 6 => 52 | 8 => 64 | 9 => 63 | 19 => 75 | 20 => 76 | 21 => 66 | 22 => 67 | 23 => 68 | 24 => 69 | 25 => 70 | 26 => 71 | 27 => 72 | 28 => 73 | 29 => 74 | 36 => 77 | 31 => 78 | 32 => 79 | 37 => 80 | 38 => 81 | 39 => 82 | 41 => 83 | n => n, fun | 27 => 55 | 29 => 9 | 3 => 3 | 32 => 86 | 26 => 55 | 0 => 0 | 44 => 99 | 46 => 101 | 4 => 4 | 36 => 91 | 35 => 90 | 41 => 96 | 5 => 5 | 9 => 9 | 53 => 102 | 57 => 106 | 63 => 108 | 64 => 109 | n => n, fun | n => n⟩
theorem Try.sortA : Go.Proofs.SlLaysM.n6 Try.prog Try.sortA_ren :=
  { mixed := by kernel_rfl
    f6 := ⟨Try.f52.name, by decide, Try.func52.trans (congrArg some (by kernel_rfl))⟩
    f8 := Try.func64.trans (congrArg some (by kernel_rfl))
    f9 := ⟨Try.f63.name, by decide, Try.func63.trans (congrArg some (by kernel_rfl))⟩
    f19 := Try.func75.trans (congrArg some (by kernel_rfl))
    f20 := Try.func76.trans (congrArg some (by kernel_rfl))
    f21 := ⟨Try.f66.name, by decide, Try.func66.trans (congrArg some (by kernel_rfl))⟩
    f22 := ⟨Try.f67.name, by decide, Try.func67.trans (congrArg some (by kernel_rfl))⟩
    f23 := ⟨Try.f68.name, by decide, Try.func68.trans (congrArg some (by kernel_rfl))⟩
    f24 := ⟨Try.f69.name, by decide, Try.func69.trans (congrArg some (by kernel_rfl))⟩
    f25 := ⟨Try.f70.name, by decide, Try.func70.trans (congrArg some (by kernel_rfl))⟩
    f26 := ⟨Try.f71.name, by decide, Try.func71.trans (congrArg some (by kernel_rfl))⟩
    f27 := ⟨Try.f72.name, by decide, Try.func72.trans (congrArg some (by kernel_rfl))⟩
    f28 := ⟨Try.f73.name, by decide, Try.func73.trans (congrArg some (by kernel_rfl))⟩
    f29 := ⟨Try.f74.name, by decide, Try.func74.trans (congrArg some (by kernel_rfl))⟩
    f31 := Try.func78.trans (congrArg some (by kernel_rfl))
    f32 := Try.func79.trans (congrArg some (by kernel_rfl))
    f36 := ⟨Try.f77.name, by decide, Try.func77.trans (congrArg some (by kernel_rfl))⟩
    f37 := ⟨Try.f80.name, by decide, Try.func80.trans (congrArg some (by kernel_rfl))⟩
    f38 := ⟨Try.f81.name, by decide, Try.func81.trans (congrArg some (by kernel_rfl))⟩
    f39 := ⟨Try.f82.name, by decide, Try.func82.trans (congrArg some (by kernel_rfl))⟩
    f41 := ⟨Try.f83.name, by decide, Try.func83.trans (congrArg some (by kernel_rfl))⟩
    t0 := Try.underlying0
    a0 := Try.isAgg0
    z0 := Try.sizeOf0
    v0 := Try.zeroValue0
    t3 := Try.underlying3
    a3 := Try.isAgg3
    z3 := Try.sizeOf3
    v3 := Try.zeroValue3
    t4 := Try.underlying4
    a4 := Try.isAgg4
    z4 := Try.sizeOf4
    v4 := Try.zeroValue4
    t5 := Try.underlying5
    a5 := Try.isAgg5
    z5 := Try.sizeOf5
    v5 := Try.zeroValue5
    t9 := Try.underlying9
    a9 := Try.isAgg9
    z9 := Try.sizeOf9
    v9 := Try.zeroValue9
    t26 := Try.underlying55
    a26 := Try.isAgg55
    z26 := Try.sizeOf55
    v26 := Try.zeroValue55
    t27 := Try.underlying55
    a27 := Try.isAgg55
    z27 := Try.sizeOf55
    v27 := Try.zeroValue55
    t29 := Try.underlying9
    a29 := Try.isAgg9
    z29 := Try.sizeOf9
    v29 := Try.zeroValue9
    t32 := Try.underlying86
    a32 := Try.isAgg86
    z32 := Try.sizeOf86
    v32 := Try.zeroValue86
    t35 := Try.underlying90
    a35 := Try.isAgg90
    z35 := Try.sizeOf90
    v35 := Try.zeroValue90
    t36 := Try.underlying91
    a36 := Try.isAgg91
    z36 := Try.sizeOf91
    v36 := Try.zeroValue91
    t41 := Try.underlying96
    a41 := Try.isAgg96
    z41 := Try.sizeOf96
    v41 := Try.zeroValue96
    t44 := Try.underlying99
    a44 := Try.isAgg99
    z44 := Try.sizeOf99
    v44 := Try.zeroValue99
    t46 := Try.underlying101
    a46 := Try.isAgg101
    z46 := Try.sizeOf101
    v46 := Try.zeroValue101
    t53 := Try.underlying102
    a53 := Try.isAgg102
    z53 := Try.sizeOf102
    v53 := Try.zeroValue102
    t57 := Try.underlying106
    a57 := Try.isAgg106
    z57 := Try.sizeOf106
    v57 := Try.zeroValue106
    t63 := Try.underlying108
    a63 := Try.isAgg108
    z63 := Try.sizeOf108
    v63 := Try.zeroValue108
    t64 := Try.underlying109
    a64 := Try.isAgg109
    z64 := Try.sizeOf109
    v64 := Try.zeroValue109 }
theorem sortSome : SortSome Try.prog 52 := fun blk off cap ss w h1 h2 h3 => AnyM.slices_Sort_string Try.sortA blk off cap ss w h1 h2 h3
theorem sortNone : SortNone Try.prog 52 := fun p cap w => AnyM.slices_Sort_string_none Try.sortA p cap w
theorem sortTrip : FitsD Try.prog 52 (.prim sortG) := sort_trip ⟨Try.f52, _, Try.func52, rfl, by decide⟩ sortSome sortNone
end Go.Proofs.Ytdnnpgmekbnlbaa
