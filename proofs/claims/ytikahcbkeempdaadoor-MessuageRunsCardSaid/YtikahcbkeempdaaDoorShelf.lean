/- The library's slices.Sort at []int, laid at this seat's translation by the kit's lay-shelf.mjs and lay-plain.mjs. -/
import Derived.Shelf.Sort.Plain
import Derived.Shelf.Slices.In.SortNone
import Derived.Test.YtikahcbkeempdaaDoorProg
namespace Go.Proofs
open Go.Shelf
def Tryd.lays189_ren : Go.Shelf.Ren := ⟨fun | 189 => 76 | 125 => 82 | 257 => 81 | 128 => 94 | 129 => 95 | 294 => 85 | 295 => 86 | 296 => 87 | 297 => 88 | 298 => 89 | 299 => 90 | 216 => 91 | 300 => 92 | 301 => 93 | 328 => 100 | 329 => 101 | 330 => 102 | 331 => 103 | 332 => 104 | 215 => 105 | 343 => 108 | n => n, fun | 28 => 22 | 3 => 3 | 46 => 144 | 0 => 0 | 51 => 153 | 53 => 26 | 4 => 4 | 183 => 147 | 182 => 146 | 131 => 39 | 5 => 5 | 9 => 9 | 218 => 160 | 222 => 164 | 228 => 168 | 229 => 169 | n => n, fun | n => n⟩
theorem Tryd.lays189 : Go.Proofs.Lays.n189 Tryd.prog Tryd.lays189_ren := {
  mixed := by kernel_rfl
  f125 := Tryd.func82.trans (congrArg some (by kernel_rfl))
  f128 := Tryd.func94.trans (congrArg some (by kernel_rfl))
  f129 := Tryd.func95.trans (congrArg some (by kernel_rfl))
  f189 := Tryd.func76.trans (congrArg some (by kernel_rfl))
  f215 := Tryd.func105.trans (congrArg some (by kernel_rfl))
  f216 := Tryd.func91.trans (congrArg some (by kernel_rfl))
  f257 := Tryd.func81.trans (congrArg some (by kernel_rfl))
  f294 := Tryd.func85.trans (congrArg some (by kernel_rfl))
  f295 := Tryd.func86.trans (congrArg some (by kernel_rfl))
  f296 := Tryd.func87.trans (congrArg some (by kernel_rfl))
  f297 := Tryd.func88.trans (congrArg some (by kernel_rfl))
  f298 := Tryd.func89.trans (congrArg some (by kernel_rfl))
  f299 := Tryd.func90.trans (congrArg some (by kernel_rfl))
  f300 := Tryd.func92.trans (congrArg some (by kernel_rfl))
  f301 := Tryd.func93.trans (congrArg some (by kernel_rfl))
  f328 := Tryd.func100.trans (congrArg some (by kernel_rfl))
  f329 := Tryd.func101.trans (congrArg some (by kernel_rfl))
  f330 := Tryd.func102.trans (congrArg some (by kernel_rfl))
  f331 := Tryd.func103.trans (congrArg some (by kernel_rfl))
  f332 := Tryd.func104.trans (congrArg some (by kernel_rfl))
  f343 := Tryd.func108.trans (congrArg some (by kernel_rfl))
  t0 := Tryd.underlying0
  a0 := Tryd.isAgg0
  z0 := Tryd.sizeOf0
  v0 := Tryd.zeroValue0
  t3 := Tryd.underlying3
  a3 := Tryd.isAgg3
  z3 := Tryd.sizeOf3
  v3 := Tryd.zeroValue3
  t4 := Tryd.underlying4
  a4 := Tryd.isAgg4
  z4 := Tryd.sizeOf4
  v4 := Tryd.zeroValue4
  t5 := Tryd.underlying5
  a5 := Tryd.isAgg5
  z5 := Tryd.sizeOf5
  v5 := Tryd.zeroValue5
  t9 := Tryd.underlying9
  a9 := Tryd.isAgg9
  z9 := Tryd.sizeOf9
  v9 := Tryd.zeroValue9
  t28 := Tryd.underlying22
  a28 := Tryd.isAgg22
  z28 := Tryd.sizeOf22
  v28 := Tryd.zeroValue22
  t46 := Tryd.underlying144
  a46 := Tryd.isAgg144
  z46 := Tryd.sizeOf144
  v46 := Tryd.zeroValue144
  t51 := Tryd.underlying153
  a51 := Tryd.isAgg153
  z51 := Tryd.sizeOf153
  v51 := Tryd.zeroValue153
  t53 := Tryd.underlying26
  a53 := Tryd.isAgg26
  z53 := Tryd.sizeOf26
  v53 := Tryd.zeroValue26
  t131 := Tryd.underlying39
  a131 := Tryd.isAgg39
  z131 := Tryd.sizeOf39
  v131 := Tryd.zeroValue39
  t182 := Tryd.underlying146
  a182 := Tryd.isAgg146
  z182 := Tryd.sizeOf146
  v182 := Tryd.zeroValue146
  t183 := Tryd.underlying147
  a183 := Tryd.isAgg147
  z183 := Tryd.sizeOf147
  v183 := Tryd.zeroValue147
  t218 := Tryd.underlying160
  a218 := Tryd.isAgg160
  z218 := Tryd.sizeOf160
  v218 := Tryd.zeroValue160
  t222 := Tryd.underlying164
  a222 := Tryd.isAgg164
  z222 := Tryd.sizeOf164
  v222 := Tryd.zeroValue164
  t228 := Tryd.underlying168
  a228 := Tryd.isAgg168
  z228 := Tryd.sizeOf168
  v228 := Tryd.zeroValue168
  t229 := Tryd.underlying169
  a229 := Tryd.isAgg169
  z229 := Tryd.sizeOf169
  v229 := Tryd.zeroValue169 }
open Go.Sort Go.RowKit in
theorem Tryd.slices_Sort_int (blk off cap : Nat) (zs : List Int) (w : World) (hH : Holds (Value.int .i64) w blk off zs.toArray) (hblk : blk < w.heap.size) (hsz : zs.length < 4611686018427387904) :
    Calls Tryd.prog 76 #[.slice (some ⟨blk, off, none⟩) zs.length cap] w fun e w' =>
      e = .returned (.tuple #[]) ∧ ∃ n os, w' = grow (putRow (Value.int .i64) (Sort.ahead w n) blk off (zs.mergeSort fun x y => decide (x ≤ y)).toArray) os := Any.slices_Sort_int Tryd.lays189 blk off cap zs w hH hblk hsz
open Go.RowKit Go.Sort in
theorem Tryd.slices_Sort_int_none (p : Option Addr) (cap : Nat) (w : World) :
    Calls Tryd.prog 76 #[.slice p 0 cap] w fun e w' => e = .returned (.tuple #[]) ∧ w' = w := Any.slices_Sort_int_none Tryd.lays189 p cap w
end Go.Proofs
