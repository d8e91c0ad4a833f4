/- The library's contracts for slices.Sort at whole numbers, over this program: one application each (written by a tool of the kit). -/
import Derived.Shelf.Sort.Plain
import Derived.Shelf.Slices.In.SortNone
import Derived.Test.YtdmhenanikkabaaDoorProg
namespace Go.Proofs
open Go.Shelf
def Tryd.lays189_ren : Go.Shelf.Ren := ⟨fun | 189 => 29 | 125 => 33 | 257 => 32 | 128 => 43 | 129 => 44 | 294 => 34 | 295 => 35 | 296 => 36 | 297 => 37 | 298 => 38 | 299 => 39 | 216 => 40 | 300 => 41 | 301 => 42 | 328 => 45 | 329 => 46 | 330 => 47 | 331 => 48 | 332 => 49 | 215 => 50 | 343 => 51 | n => n, fun | 28 => 28 | 3 => 3 | 46 => 73 | 0 => 0 | 51 => 84 | 53 => 36 | 4 => 4 | 183 => 76 | 182 => 75 | 131 => 81 | 5 => 5 | 9 => 9 | 218 => 86 | 222 => 90 | 228 => 92 | 229 => 93 | n => n, fun | n => n⟩
theorem Tryd.lays189 : Go.Proofs.Lays.n189 Tryd.prog Tryd.lays189_ren := {
  mixed := by kernel_rfl
  f125 := Tryd.func33.trans (congrArg some (by kernel_rfl))
  f128 := Tryd.func43.trans (congrArg some (by kernel_rfl))
  f129 := Tryd.func44.trans (congrArg some (by kernel_rfl))
  f189 := Tryd.func29.trans (congrArg some (by kernel_rfl))
  f215 := Tryd.func50.trans (congrArg some (by kernel_rfl))
  f216 := Tryd.func40.trans (congrArg some (by kernel_rfl))
  f257 := Tryd.func32.trans (congrArg some (by kernel_rfl))
  f294 := Tryd.func34.trans (congrArg some (by kernel_rfl))
  f295 := Tryd.func35.trans (congrArg some (by kernel_rfl))
  f296 := Tryd.func36.trans (congrArg some (by kernel_rfl))
  f297 := Tryd.func37.trans (congrArg some (by kernel_rfl))
  f298 := Tryd.func38.trans (congrArg some (by kernel_rfl))
  f299 := Tryd.func39.trans (congrArg some (by kernel_rfl))
  f300 := Tryd.func41.trans (congrArg some (by kernel_rfl))
  f301 := Tryd.func42.trans (congrArg some (by kernel_rfl))
  f328 := Tryd.func45.trans (congrArg some (by kernel_rfl))
  f329 := Tryd.func46.trans (congrArg some (by kernel_rfl))
  f330 := Tryd.func47.trans (congrArg some (by kernel_rfl))
  f331 := Tryd.func48.trans (congrArg some (by kernel_rfl))
  f332 := Tryd.func49.trans (congrArg some (by kernel_rfl))
  f343 := Tryd.func51.trans (congrArg some (by kernel_rfl))
  t0 := Tryd.underlying0
  a0 := Tryd.isAgg0
  z0 := Tryd.sizeOf0
  v0 := Tryd.zeroValue0
  t3 := Tryd.underlying3
  a3 := Tryd.isAgg3
  z3 := Tryd.sizeOf3
  v3 := Tryd.zeroValue3
  t4 := Tryd.underlying4
  a4 := Tryd.isAgg4
  z4 := Tryd.sizeOf4
  v4 := Tryd.zeroValue4
  t5 := Tryd.underlying5
  a5 := Tryd.isAgg5
  z5 := Tryd.sizeOf5
  v5 := Tryd.zeroValue5
  t9 := Tryd.underlying9
  a9 := Tryd.isAgg9
  z9 := Tryd.sizeOf9
  v9 := Tryd.zeroValue9
  t28 := Tryd.underlying28
  a28 := Tryd.isAgg28
  z28 := Tryd.sizeOf28
  v28 := Tryd.zeroValue28
  t46 := Tryd.underlying73
  a46 := Tryd.isAgg73
  z46 := Tryd.sizeOf73
  v46 := Tryd.zeroValue73
  t51 := Tryd.underlying84
  a51 := Tryd.isAgg84
  z51 := Tryd.sizeOf84
  v51 := Tryd.zeroValue84
  t53 := Tryd.underlying36
  a53 := Tryd.isAgg36
  z53 := Tryd.sizeOf36
  v53 := Tryd.zeroValue36
  t131 := Tryd.underlying81
  a131 := Tryd.isAgg81
  z131 := Tryd.sizeOf81
  v131 := Tryd.zeroValue81
  t182 := Tryd.underlying75
  a182 := Tryd.isAgg75
  z182 := Tryd.sizeOf75
  v182 := Tryd.zeroValue75
  t183 := Tryd.underlying76
  a183 := Tryd.isAgg76
  z183 := Tryd.sizeOf76
  v183 := Tryd.zeroValue76
  t218 := Tryd.underlying86
  a218 := Tryd.isAgg86
  z218 := Tryd.sizeOf86
  v218 := Tryd.zeroValue86
  t222 := Tryd.underlying90
  a222 := Tryd.isAgg90
  z222 := Tryd.sizeOf90
  v222 := Tryd.zeroValue90
  t228 := Tryd.underlying92
  a228 := Tryd.isAgg92
  z228 := Tryd.sizeOf92
  v228 := Tryd.zeroValue92
  t229 := Tryd.underlying93
  a229 := Tryd.isAgg93
  z229 := Tryd.sizeOf93
  v229 := Tryd.zeroValue93 }
open Go.Sort Go.RowKit in
theorem Tryd.slices_Sort_int (blk off cap : Nat) (zs : List Int) (w : World) (hH : Holds (Value.int .i64) w blk off zs.toArray) (hblk : blk < w.heap.size) (hsz : zs.length < 4611686018427387904) :
    Calls Tryd.prog 29 #[.slice (some ⟨blk, off, none⟩) zs.length cap] w fun e w' =>
      e = .returned (.tuple #[]) ∧ ∃ n os, w' = grow (putRow (Value.int .i64) (Sort.ahead w n) blk off (zs.mergeSort fun x y => decide (x ≤ y)).toArray) os := Any.slices_Sort_int Tryd.lays189 blk off cap zs w hH hblk hsz
open Go.RowKit Go.Sort in
/-- .. and plain. (LAID: no walk: one application.) -/
theorem Tryd.slices_Sort_int_none (p : Option Addr) (cap : Nat) (w : World) :
    Calls Tryd.prog 29 #[.slice p 0 cap] w fun e w' => e = .returned (.tuple #[]) ∧ w' = w := Any.slices_Sort_int_none Tryd.lays189 p cap w
end Go.Proofs
