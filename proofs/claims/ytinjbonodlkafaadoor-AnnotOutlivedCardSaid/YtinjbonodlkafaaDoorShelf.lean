/- The library's contracts for slices.Sort at whole numbers, over this program: one application each (written by a tool of the kit). -/
import Derived.Shelf.Sort.Plain
import Derived.Shelf.Slices.In.SortNone
import Derived.Test.YtinjbonodlkafaaDoorProg
namespace Go.Proofs
open Go.Shelf
def Tryd.lays189_ren : Go.Shelf.Ren := ⟨fun | 189 => 27 | 125 => 40 | 257 => 39 | 128 => 52 | 129 => 53 | 294 => 43 | 295 => 44 | 296 => 45 | 297 => 46 | 298 => 47 | 299 => 48 | 216 => 49 | 300 => 50 | 301 => 51 | 328 => 54 | 329 => 55 | 330 => 56 | 331 => 57 | 332 => 58 | 215 => 59 | 343 => 60 | n => n, fun | 28 => 28 | 3 => 3 | 46 => 79 | 0 => 0 | 51 => 91 | 53 => 93 | 4 => 4 | 183 => 85 | 182 => 84 | 131 => 76 | 5 => 5 | 9 => 9 | 218 => 94 | 222 => 98 | 228 => 100 | 229 => 101 | n => n, fun | n => n⟩
theorem Tryd.lays189 : Go.Proofs.Lays.n189 Tryd.prog Tryd.lays189_ren := {
  mixed := by kernel_rfl
  f125 := Tryd.func40.trans (congrArg some (by kernel_rfl))
  f128 := Tryd.func52.trans (congrArg some (by kernel_rfl))
  f129 := Tryd.func53.trans (congrArg some (by kernel_rfl))
  f189 := Tryd.func27.trans (congrArg some (by kernel_rfl))
  f215 := Tryd.func59.trans (congrArg some (by kernel_rfl))
  f216 := Tryd.func49.trans (congrArg some (by kernel_rfl))
  f257 := Tryd.func39.trans (congrArg some (by kernel_rfl))
  f294 := Tryd.func43.trans (congrArg some (by kernel_rfl))
  f295 := Tryd.func44.trans (congrArg some (by kernel_rfl))
  f296 := Tryd.func45.trans (congrArg some (by kernel_rfl))
  f297 := Tryd.func46.trans (congrArg some (by kernel_rfl))
  f298 := Tryd.func47.trans (congrArg some (by kernel_rfl))
  f299 := Tryd.func48.trans (congrArg some (by kernel_rfl))
  f300 := Tryd.func50.trans (congrArg some (by kernel_rfl))
  f301 := Tryd.func51.trans (congrArg some (by kernel_rfl))
  f328 := Tryd.func54.trans (congrArg some (by kernel_rfl))
  f329 := Tryd.func55.trans (congrArg some (by kernel_rfl))
  f330 := Tryd.func56.trans (congrArg some (by kernel_rfl))
  f331 := Tryd.func57.trans (congrArg some (by kernel_rfl))
  f332 := Tryd.func58.trans (congrArg some (by kernel_rfl))
  f343 := Tryd.func60.trans (congrArg some (by kernel_rfl))
  t0 := Tryd.underlying0
  a0 := Tryd.isAgg0
  z0 := Tryd.sizeOf0
  v0 := Tryd.zeroValue0
  t3 := Tryd.underlying3
  a3 := Tryd.isAgg3
  z3 := Tryd.sizeOf3
  v3 := Tryd.zeroValue3
  t4 := Tryd.underlying4
  a4 := Tryd.isAgg4
  z4 := Tryd.sizeOf4
  v4 := Tryd.zeroValue4
  t5 := Tryd.underlying5
  a5 := Tryd.isAgg5
  z5 := Tryd.sizeOf5
  v5 := Tryd.zeroValue5
  t9 := Tryd.underlying9
  a9 := Tryd.isAgg9
  z9 := Tryd.sizeOf9
  v9 := Tryd.zeroValue9
  t28 := Tryd.underlying28
  a28 := Tryd.isAgg28
  z28 := Tryd.sizeOf28
  v28 := Tryd.zeroValue28
  t46 := Tryd.underlying79
  a46 := Tryd.isAgg79
  z46 := Tryd.sizeOf79
  v46 := Tryd.zeroValue79
  t51 := Tryd.underlying91
  a51 := Tryd.isAgg91
  z51 := Tryd.sizeOf91
  v51 := Tryd.zeroValue91
  t53 := Tryd.underlying93
  a53 := Tryd.isAgg93
  z53 := Tryd.sizeOf93
  v53 := Tryd.zeroValue93
  t131 := Tryd.underlying76
  a131 := Tryd.isAgg76
  z131 := Tryd.sizeOf76
  v131 := Tryd.zeroValue76
  t182 := Tryd.underlying84
  a182 := Tryd.isAgg84
  z182 := Tryd.sizeOf84
  v182 := Tryd.zeroValue84
  t183 := Tryd.underlying85
  a183 := Tryd.isAgg85
  z183 := Tryd.sizeOf85
  v183 := Tryd.zeroValue85
  t218 := Tryd.underlying94
  a218 := Tryd.isAgg94
  z218 := Tryd.sizeOf94
  v218 := Tryd.zeroValue94
  t222 := Tryd.underlying98
  a222 := Tryd.isAgg98
  z222 := Tryd.sizeOf98
  v222 := Tryd.zeroValue98
  t228 := Tryd.underlying100
  a228 := Tryd.isAgg100
  z228 := Tryd.sizeOf100
  v228 := Tryd.zeroValue100
  t229 := Tryd.underlying101
  a229 := Tryd.isAgg101
  z229 := Tryd.sizeOf101
  v229 := Tryd.zeroValue101 }
open Go.Sort Go.RowKit in
theorem Tryd.slices_Sort_int (blk off cap : Nat) (zs : List Int) (w : World) (hH : Holds (Value.int .i64) w blk off zs.toArray) (hblk : blk < w.heap.size) (hsz : zs.length < 4611686018427387904) :
    Calls Tryd.prog 27 #[.slice (some ⟨blk, off, none⟩) zs.length cap] w fun e w' =>
      e = .returned (.tuple #[]) ∧ ∃ n os, w' = grow (putRow (Value.int .i64) (Sort.ahead w n) blk off (zs.mergeSort fun x y => decide (x ≤ y)).toArray) os := Any.slices_Sort_int Tryd.lays189 blk off cap zs w hH hblk hsz
open Go.RowKit Go.Sort in
/-- .. and plain. (LAID: no walk: one application.) -/
theorem Tryd.slices_Sort_int_none (p : Option Addr) (cap : Nat) (w : World) :
    Calls Tryd.prog 27 #[.slice p 0 cap] w fun e w' => e = .returned (.tuple #[]) ∧ w' = w := Any.slices_Sort_int_none Tryd.lays189 p cap w
end Go.Proofs
