/- The library's contracts of generic functions, their numbers over this program (written by a tool of the kit). -/
import Derived.Shelf.SlIterI.Sorted
import Derived.Shelf.SlIterI.Collect
import Derived.Test.YtinjbonodlkafaaProg
namespace Go.Proofs
open Go.Shelf
def Try.keys56_ren : Go.Shelf.Ren := ⟨fun | 7 => 56 | 10 => 62 | n => n, fun | 23 => 88 | 26 => 3 | 3 => 3 | 28 => 94 | 0 => 0 | 27 => 93 | 33 => 40 | 4 => 4 | n => n, fun | n => n⟩
theorem Try.keys56 : Go.Proofs.SlLaysZI.n7 Try.prog Try.keys56_ren := {
  mixed := by kernel_rfl
  f7 := ⟨Try.f56.name, by decide, Try.func56.trans (congrArg some (by kernel_rfl))⟩
  f10 := ⟨Try.f62.name, by decide, Try.func62.trans (congrArg some (by kernel_rfl))⟩
  t0 := Try.underlying0
  a0 := Try.isAgg0
  z0 := Try.sizeOf0
  v0 := Try.zeroValue0
  t4 := Try.underlying4
  a4 := Try.isAgg4
  z4 := Try.sizeOf4
  v4 := Try.zeroValue4
  t23 := Try.underlying88
  a23 := Try.isAgg88
  z23 := Try.sizeOf88
  v23 := Try.zeroValue88
  t26 := Try.underlying3
  a26 := Try.isAgg3
  z26 := Try.sizeOf3
  v26 := Try.zeroValue3
  t27 := Try.underlying93
  a27 := Try.isAgg93
  z27 := Try.sizeOf93
  v27 := Try.zeroValue93
  t28 := Try.underlying94
  a28 := Try.isAgg94
  z28 := Try.sizeOf94
  v28 := Try.zeroValue94
  t33 := Try.underlying40
  a33 := Try.isAgg40
  z33 := Try.sizeOf40
  v33 := Try.zeroValue40 }
def Try.sorted55_ren : Go.Shelf.Ren := ⟨fun | 6 => 55 | 8 => 59 | 9 => 53 | 11 => 64 | 13 => 61 | 12 => 60 | 23 => 74 | 24 => 75 | 14 => 65 | 15 => 66 | 16 => 67 | 17 => 68 | 18 => 69 | 19 => 70 | 20 => 71 | 21 => 72 | 22 => 73 | 25 => 76 | 26 => 77 | 27 => 78 | 28 => 79 | 29 => 80 | 30 => 81 | 31 => 82 | n => n, fun | 26 => 3 | 28 => 94 | 24 => 22 | 0 => 0 | 3 => 3 | 37 => 105 | 48 => 115 | 50 => 117 | 4 => 4 | 40 => 109 | 39 => 108 | 45 => 102 | 5 => 5 | 9 => 9 | 51 => 118 | 55 => 122 | 57 => 124 | 58 => 125 | 33 => 40 | n => n, fun | n => n⟩
theorem Try.sorted55 : Go.Proofs.SlLaysZI.n6 Try.prog Try.sorted55_ren := {
  mixed := by kernel_rfl
  f6 := ⟨Try.f55.name, by decide, Try.func55.trans (congrArg some (by kernel_rfl))⟩
  f8 := ⟨Try.f59.name, by decide, Try.func59.trans (congrArg some (by kernel_rfl))⟩
  f11 := ⟨Try.f64.name, by decide, Try.func64.trans (congrArg some (by kernel_rfl))⟩
  t0 := Try.underlying0
  a0 := Try.isAgg0
  z0 := Try.sizeOf0
  v0 := Try.zeroValue0
  t24 := Try.underlying22
  a24 := Try.isAgg22
  z24 := Try.sizeOf22
  v24 := Try.zeroValue22
  t26 := Try.underlying3
  a26 := Try.isAgg3
  z26 := Try.sizeOf3
  v26 := Try.zeroValue3
  t28 := Try.underlying94
  a28 := Try.isAgg94
  z28 := Try.sizeOf94
  v28 := Try.zeroValue94
  i26 := by kernel_rfl }
def Try.collect59_ren : Go.Shelf.Ren := ⟨fun | 8 => 59 | 11 => 64 | n => n, fun | 26 => 3 | 28 => 94 | 24 => 22 | 0 => 0 | 33 => 40 | 4 => 4 | n => n, fun | n => n⟩
theorem Try.collect59 : Go.Proofs.SlLaysZI.n8 Try.prog Try.collect59_ren := {
  mixed := by kernel_rfl
  f8 := ⟨Try.f59.name, by decide, Try.func59.trans (congrArg some (by kernel_rfl))⟩
  f11 := ⟨Try.f64.name, by decide, Try.func64.trans (congrArg some (by kernel_rfl))⟩
  t0 := Try.underlying0
  a0 := Try.isAgg0
  z0 := Try.sizeOf0
  v0 := Try.zeroValue0
  t24 := Try.underlying22
  a24 := Try.isAgg22
  z24 := Try.sizeOf22
  v24 := Try.zeroValue22
  t26 := Try.underlying3
  a26 := Try.isAgg3
  z26 := Try.sizeOf3
  v26 := Try.zeroValue3
  t28 := Try.underlying94
  a28 := Try.isAgg94
  z28 := Try.sizeOf94
  v28 := Try.zeroValue94
  i26 := by kernel_rfl }
end Go.Proofs
