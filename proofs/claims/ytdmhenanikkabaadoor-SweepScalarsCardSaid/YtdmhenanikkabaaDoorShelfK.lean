/- The library's contracts of generic functions, their numbers over this program (written by a tool of the kit). -/
import Derived.Shelf.SlIterI.Sorted
import Derived.Shelf.SlIterI.Collect
import Derived.Test.YtdmhenanikkabaaDoorProg
namespace Go.Proofs
open Go.Shelf
def Tryd.keys56_ren : Go.Shelf.Ren := ⟨fun | 7 => 24 | 10 => 30 | n => n, fun | 23 => 54 | 26 => 3 | 3 => 3 | 28 => 64 | 0 => 0 | 27 => 63 | 33 => 59 | 4 => 4 | n => n, fun | n => n⟩
theorem Tryd.keys56 : Go.Proofs.SlLaysZI.n7 Tryd.prog Tryd.keys56_ren := {
  mixed := by kernel_rfl
  f7 := ⟨Tryd.f24.name, by decide, Tryd.func24.trans (congrArg some (by kernel_rfl))⟩
  f10 := ⟨Tryd.f30.name, by decide, Tryd.func30.trans (congrArg some (by kernel_rfl))⟩
  t0 := Tryd.underlying0
  a0 := Tryd.isAgg0
  z0 := Tryd.sizeOf0
  v0 := Tryd.zeroValue0
  t4 := Tryd.underlying4
  a4 := Tryd.isAgg4
  z4 := Tryd.sizeOf4
  v4 := Tryd.zeroValue4
  t23 := Tryd.underlying54
  a23 := Tryd.isAgg54
  z23 := Tryd.sizeOf54
  v23 := Tryd.zeroValue54
  t26 := Tryd.underlying3
  a26 := Tryd.isAgg3
  z26 := Tryd.sizeOf3
  v26 := Tryd.zeroValue3
  t27 := Tryd.underlying63
  a27 := Tryd.isAgg63
  z27 := Tryd.sizeOf63
  v27 := Tryd.zeroValue63
  t28 := Tryd.underlying64
  a28 := Tryd.isAgg64
  z28 := Tryd.sizeOf64
  v28 := Tryd.zeroValue64
  t33 := Tryd.underlying59
  a33 := Tryd.isAgg59
  z33 := Tryd.sizeOf59
  v33 := Tryd.zeroValue59 }
def Tryd.sorted55_ren : Go.Shelf.Ren := ⟨fun | 6 => 23 | 8 => 28 | 9 => 29 | 11 => 31 | 13 => 33 | 12 => 32 | 23 => 43 | 24 => 44 | 14 => 34 | 15 => 35 | 16 => 36 | 17 => 37 | 18 => 38 | 19 => 39 | 20 => 40 | 21 => 41 | 22 => 42 | 25 => 45 | 26 => 46 | 27 => 47 | 28 => 48 | 29 => 49 | 30 => 50 | 31 => 51 | n => n, fun | 26 => 3 | 28 => 64 | 24 => 28 | 0 => 0 | 3 => 3 | 37 => 73 | 48 => 84 | 50 => 36 | 4 => 4 | 40 => 76 | 39 => 75 | 45 => 81 | 5 => 5 | 9 => 9 | 51 => 86 | 55 => 90 | 57 => 92 | 58 => 93 | 33 => 59 | n => n, fun | n => n⟩
theorem Tryd.sorted55 : Go.Proofs.SlLaysZI.n6 Tryd.prog Tryd.sorted55_ren := {
  mixed := by kernel_rfl
  f6 := ⟨Tryd.f23.name, by decide, Tryd.func23.trans (congrArg some (by kernel_rfl))⟩
  f8 := ⟨Tryd.f28.name, by decide, Tryd.func28.trans (congrArg some (by kernel_rfl))⟩
  f11 := ⟨Tryd.f31.name, by decide, Tryd.func31.trans (congrArg some (by kernel_rfl))⟩
  t0 := Tryd.underlying0
  a0 := Tryd.isAgg0
  z0 := Tryd.sizeOf0
  v0 := Tryd.zeroValue0
  t24 := Tryd.underlying28
  a24 := Tryd.isAgg28
  z24 := Tryd.sizeOf28
  v24 := Tryd.zeroValue28
  t26 := Tryd.underlying3
  a26 := Tryd.isAgg3
  z26 := Tryd.sizeOf3
  v26 := Tryd.zeroValue3
  t28 := Tryd.underlying64
  a28 := Tryd.isAgg64
  z28 := Tryd.sizeOf64
  v28 := Tryd.zeroValue64
  i26 := by kernel_rfl }
def Tryd.collect59_ren : Go.Shelf.Ren := ⟨fun | 8 => 28 | 11 => 31 | n => n, fun | 26 => 3 | 28 => 64 | 24 => 28 | 0 => 0 | 33 => 59 | 4 => 4 | n => n, fun | n => n⟩
theorem Tryd.collect59 : Go.Proofs.SlLaysZI.n8 Tryd.prog Tryd.collect59_ren := {
  mixed := by kernel_rfl
  f8 := ⟨Tryd.f28.name, by decide, Tryd.func28.trans (congrArg some (by kernel_rfl))⟩
  f11 := ⟨Tryd.f31.name, by decide, Tryd.func31.trans (congrArg some (by kernel_rfl))⟩
  t0 := Tryd.underlying0
  a0 := Tryd.isAgg0
  z0 := Tryd.sizeOf0
  v0 := Tryd.zeroValue0
  t24 := Tryd.underlying28
  a24 := Tryd.isAgg28
  z24 := Tryd.sizeOf28
  v24 := Tryd.zeroValue28
  t26 := Tryd.underlying3
  a26 := Tryd.isAgg3
  z26 := Tryd.sizeOf3
  v26 := Tryd.zeroValue3
  t28 := Tryd.underlying64
  a28 := Tryd.isAgg64
  z28 := Tryd.sizeOf64
  v28 := Tryd.zeroValue64
  i26 := by kernel_rfl }
end Go.Proofs
