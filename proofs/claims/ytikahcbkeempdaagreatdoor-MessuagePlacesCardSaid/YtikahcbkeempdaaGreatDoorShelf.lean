/- The library's slices.Sort at []int, laid at this seat's translation by the kit's lay-shelf.mjs and lay-plain.mjs. -/
import Derived.Shelf.Sort.Plain
import Derived.Shelf.Slices.In.SortNone
import Derived.Test.YtikahcbkeempdaaGreatDoorProg
namespace Go.Proofs
open Go.Shelf
def Tryz.lays189_ren : Go.Shelf.Ren := ⟨fun | 189 => 55 | 125 => 67 | 257 => 66 | 128 => 84 | 129 => 85 | 294 => 75 | 295 => 76 | 296 => 77 | 297 => 78 | 298 => 79 | 299 => 80 | 216 => 81 | 300 => 82 | 301 => 83 | 328 => 96 | 329 => 97 | 330 => 98 | 331 => 99 | 332 => 100 | 215 => 70 | 343 => 104 | n => n, fun | 28 => 23 | 3 => 3 | 46 => 116 | 0 => 0 | 51 => 131 | 53 => 22 | 4 => 4 | 183 => 125 | 182 => 124 | 131 => 65 | 5 => 5 | 9 => 9 | 218 => 140 | 222 => 144 | 228 => 148 | 229 => 149 | n => n, fun | n => n⟩
theorem Tryz.lays189 : Go.Proofs.Lays.n189 Tryz.prog Tryz.lays189_ren := {
  mixed := by kernel_rfl
  f125 := Tryz.func67.trans (congrArg some (by kernel_rfl))
  f128 := Tryz.func84.trans (congrArg some (by kernel_rfl))
  f129 := Tryz.func85.trans (congrArg some (by kernel_rfl))
  f189 := Tryz.func55.trans (congrArg some (by kernel_rfl))
  f215 := Tryz.func70.trans (congrArg some (by kernel_rfl))
  f216 := Tryz.func81.trans (congrArg some (by kernel_rfl))
  f257 := Tryz.func66.trans (congrArg some (by kernel_rfl))
  f294 := Tryz.func75.trans (congrArg some (by kernel_rfl))
  f295 := Tryz.func76.trans (congrArg some (by kernel_rfl))
  f296 := Tryz.func77.trans (congrArg some (by kernel_rfl))
  f297 := Tryz.func78.trans (congrArg some (by kernel_rfl))
  f298 := Tryz.func79.trans (congrArg some (by kernel_rfl))
  f299 := Tryz.func80.trans (congrArg some (by kernel_rfl))
  f300 := Tryz.func82.trans (congrArg some (by kernel_rfl))
  f301 := Tryz.func83.trans (congrArg some (by kernel_rfl))
  f328 := Tryz.func96.trans (congrArg some (by kernel_rfl))
  f329 := Tryz.func97.trans (congrArg some (by kernel_rfl))
  f330 := Tryz.func98.trans (congrArg some (by kernel_rfl))
  f331 := Tryz.func99.trans (congrArg some (by kernel_rfl))
  f332 := Tryz.func100.trans (congrArg some (by kernel_rfl))
  f343 := Tryz.func104.trans (congrArg some (by kernel_rfl))
  t0 := Tryz.underlying0
  a0 := Tryz.isAgg0
  z0 := Tryz.sizeOf0
  v0 := Tryz.zeroValue0
  t3 := Tryz.underlying3
  a3 := Tryz.isAgg3
  z3 := Tryz.sizeOf3
  v3 := Tryz.zeroValue3
  t4 := Tryz.underlying4
  a4 := Tryz.isAgg4
  z4 := Tryz.sizeOf4
  v4 := Tryz.zeroValue4
  t5 := Tryz.underlying5
  a5 := Tryz.isAgg5
  z5 := Tryz.sizeOf5
  v5 := Tryz.zeroValue5
  t9 := Tryz.underlying9
  a9 := Tryz.isAgg9
  z9 := Tryz.sizeOf9
  v9 := Tryz.zeroValue9
  t28 := Tryz.underlying23
  a28 := Tryz.isAgg23
  z28 := Tryz.sizeOf23
  v28 := Tryz.zeroValue23
  t46 := Tryz.underlying116
  a46 := Tryz.isAgg116
  z46 := Tryz.sizeOf116
  v46 := Tryz.zeroValue116
  t51 := Tryz.underlying131
  a51 := Tryz.isAgg131
  z51 := Tryz.sizeOf131
  v51 := Tryz.zeroValue131
  t53 := Tryz.underlying22
  a53 := Tryz.isAgg22
  z53 := Tryz.sizeOf22
  v53 := Tryz.zeroValue22
  t131 := Tryz.underlying65
  a131 := Tryz.isAgg65
  z131 := Tryz.sizeOf65
  v131 := Tryz.zeroValue65
  t182 := Tryz.underlying124
  a182 := Tryz.isAgg124
  z182 := Tryz.sizeOf124
  v182 := Tryz.zeroValue124
  t183 := Tryz.underlying125
  a183 := Tryz.isAgg125
  z183 := Tryz.sizeOf125
  v183 := Tryz.zeroValue125
  t218 := Tryz.underlying140
  a218 := Tryz.isAgg140
  z218 := Tryz.sizeOf140
  v218 := Tryz.zeroValue140
  t222 := Tryz.underlying144
  a222 := Tryz.isAgg144
  z222 := Tryz.sizeOf144
  v222 := Tryz.zeroValue144
  t228 := Tryz.underlying148
  a228 := Tryz.isAgg148
  z228 := Tryz.sizeOf148
  v228 := Tryz.zeroValue148
  t229 := Tryz.underlying149
  a229 := Tryz.isAgg149
  z229 := Tryz.sizeOf149
  v229 := Tryz.zeroValue149 }
open Go.Sort Go.RowKit in
theorem Tryz.slices_Sort_int (blk off cap : Nat) (zs : List Int) (w : World) (hH : Holds (Value.int .i64) w blk off zs.toArray) (hblk : blk < w.heap.size) (hsz : zs.length < 4611686018427387904) :
    Calls Tryz.prog 55 #[.slice (some ⟨blk, off, none⟩) zs.length cap] w fun e w' =>
      e = .returned (.tuple #[]) ∧ ∃ n os, w' = grow (putRow (Value.int .i64) (Sort.ahead w n) blk off (zs.mergeSort fun x y => decide (x ≤ y)).toArray) os := Any.slices_Sort_int Tryz.lays189 blk off cap zs w hH hblk hsz
open Go.RowKit Go.Sort in
theorem Tryz.slices_Sort_int_none (p : Option Addr) (cap : Nat) (w : World) :
    Calls Tryz.prog 55 #[.slice p 0 cap] w fun e w' => e = .returned (.tuple #[]) ∧ w' = w := Any.slices_Sort_int_none Tryz.lays189 p cap w
end Go.Proofs
