/- The kit's contract on slices.Sort of texts, laid at this program's numbers. -/
import Derived.Shelf.Sort.Plain
import Derived.Shelf.Slices.In.SortNone
import Derived.Test.YtmmilgcbjpbelaaProg
namespace Go.Proofs
open Go.Shelf
def Try.lays190_ren : Go.Shelf.Ren := ⟨fun | 190 => 47 | 125 => 58 | 258 => 57 | 128 => 75 | 129 => 76 | 302 => 66 | 303 => 67 | 304 => 68 | 305 => 69 | 306 => 70 | 307 => 71 | 308 => 72 | 309 => 73 | 310 => 74 | 333 => 81 | 329 => 82 | 330 => 83 | 334 => 84 | 335 => 85 | 336 => 86 | 344 => 90 | n => n, fun | 31 => 77 | 9 => 9 | 3 => 3 | 46 => 24 | 0 => 0 | 51 => 27 | 53 => 82 | 4 => 4 | 183 => 138 | 182 => 137 | 131 => 109 | 5 => 5 | 218 => 147 | 222 => 151 | 228 => 156 | 229 => 157 | n => n, fun | n => n⟩
theorem Try.lays190 : Go.Proofs.Lays.n190 Try.prog Try.lays190_ren := {
  mixed := by kernel_rfl
  f125 := Try.func58.trans (congrArg some (by kernel_rfl))
  f128 := Try.func75.trans (congrArg some (by kernel_rfl))
  f129 := Try.func76.trans (congrArg some (by kernel_rfl))
  f190 := Try.func47.trans (congrArg some (by kernel_rfl))
  f258 := Try.func57.trans (congrArg some (by kernel_rfl))
  f302 := Try.func66.trans (congrArg some (by kernel_rfl))
  f303 := Try.func67.trans (congrArg some (by kernel_rfl))
  f304 := Try.func68.trans (congrArg some (by kernel_rfl))
  f305 := Try.func69.trans (congrArg some (by kernel_rfl))
  f306 := Try.func70.trans (congrArg some (by kernel_rfl))
  f307 := Try.func71.trans (congrArg some (by kernel_rfl))
  f308 := Try.func72.trans (congrArg some (by kernel_rfl))
  f309 := Try.func73.trans (congrArg some (by kernel_rfl))
  f310 := Try.func74.trans (congrArg some (by kernel_rfl))
  f329 := Try.func82.trans (congrArg some (by kernel_rfl))
  f330 := Try.func83.trans (congrArg some (by kernel_rfl))
  f333 := Try.func81.trans (congrArg some (by kernel_rfl))
  f334 := Try.func84.trans (congrArg some (by kernel_rfl))
  f335 := Try.func85.trans (congrArg some (by kernel_rfl))
  f336 := Try.func86.trans (congrArg some (by kernel_rfl))
  f344 := Try.func90.trans (congrArg some (by kernel_rfl))
  t0 := Try.underlying0
  a0 := Try.isAgg0
  z0 := Try.sizeOf0
  v0 := Try.zeroValue0
  t3 := Try.underlying3
  a3 := Try.isAgg3
  z3 := Try.sizeOf3
  v3 := Try.zeroValue3
  t4 := Try.underlying4
  a4 := Try.isAgg4
  z4 := Try.sizeOf4
  v4 := Try.zeroValue4
  t5 := Try.underlying5
  a5 := Try.isAgg5
  z5 := Try.sizeOf5
  v5 := Try.zeroValue5
  t9 := Try.underlying9
  a9 := Try.isAgg9
  z9 := Try.sizeOf9
  v9 := Try.zeroValue9
  t31 := Try.underlying77
  a31 := Try.isAgg77
  z31 := Try.sizeOf77
  v31 := Try.zeroValue77
  t46 := Try.underlying24
  a46 := Try.isAgg24
  z46 := Try.sizeOf24
  v46 := Try.zeroValue24
  t51 := Try.underlying27
  a51 := Try.isAgg27
  z51 := Try.sizeOf27
  v51 := Try.zeroValue27
  t53 := Try.underlying82
  a53 := Try.isAgg82
  z53 := Try.sizeOf82
  v53 := Try.zeroValue82
  t131 := Try.underlying109
  a131 := Try.isAgg109
  z131 := Try.sizeOf109
  v131 := Try.zeroValue109
  t182 := Try.underlying137
  a182 := Try.isAgg137
  z182 := Try.sizeOf137
  v182 := Try.zeroValue137
  t183 := Try.underlying138
  a183 := Try.isAgg138
  z183 := Try.sizeOf138
  v183 := Try.zeroValue138
  t218 := Try.underlying147
  a218 := Try.isAgg147
  z218 := Try.sizeOf147
  v218 := Try.zeroValue147
  t222 := Try.underlying151
  a222 := Try.isAgg151
  z222 := Try.sizeOf151
  v222 := Try.zeroValue151
  t228 := Try.underlying156
  a228 := Try.isAgg156
  z228 := Try.sizeOf156
  v228 := Try.zeroValue156
  t229 := Try.underlying157
  a229 := Try.isAgg157
  z229 := Try.sizeOf157
  v229 := Try.zeroValue157 }
open Go.Sort Go.RowKit in
theorem Try.slices_Sort_string (blk off cap : Nat) (ss : List (List UInt8)) (w : World) (hH : Holds encStr w blk off ss.toArray) (hblk : blk < w.heap.size) (hsz : ss.length < 4611686018427387904) :
    Calls Try.prog 47 #[.slice (some ⟨blk, off, none⟩) ss.length cap] w fun e w' =>
      e = .returned (.tuple #[]) ∧ ∃ n os, w' = grow (putRow encStr (Sort.ahead w n) blk off (ss.mergeSort fun x y => decide (x ≤ y)).toArray) os := Any.slices_Sort_string Try.lays190 blk off cap ss w hH hblk hsz
open Go.RowKit Go.Sort in
/-- .. and plain. (LAID: no walk: one application.) -/
theorem Try.slices_Sort_string_none (p : Option Addr) (cap : Nat) (w : World) :
    Calls Try.prog 47 #[.slice p 0 cap] w fun e w' => e = .returned (.tuple #[]) ∧ w' = w := Any.slices_Sort_string_none Try.lays190 p cap w
end Go.Proofs
