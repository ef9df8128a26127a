/- The kit's contracts on maps.Keys, slices.Sorted and slices.Sort, laid at this program's numbers. -/
import Derived.Test.YtokmiphgalpahaaRows
import Derived.Shelf.SlIterI.Nil
import Derived.Shelf.SortM.Plain
import Derived.Shelf.SortM.SortNone
namespace Go.Proofs.Ytokmiphgalpahaa
open Go.RowKit Go.Maps Go.Sort Go.Shelf Go.Proofs
set_option maxRecDepth 100000
def keysA_ren : Ren :=
  { f := fun x => match x with | 7 => 46 | 10 => 56 | n => n
    t := fun x => match x with | 23 => 67 | 26 => 3 | 3 => 90 | 28 => 88 | 0 => 0 | 27 => 87 | 33 => 109 | 4 => 4 | n => n
    g := fun x => x }
theorem keysA : SlLaysZI.n7 Try.prog keysA_ren :=
  { mixed := by kernel_rfl
    f7 := ⟨Try.f46.name, by kernel_rfl, Try.func46.trans (congrArg some (by kernel_rfl))⟩
    f10 := ⟨Try.f56.name, by kernel_rfl, Try.func56.trans (congrArg some (by kernel_rfl))⟩
    t0 := Try.underlying0
    a0 := Try.isAgg0
    z0 := Try.sizeOf0
    v0 := Try.zeroValue0
    t4 := Try.underlying4
    a4 := Try.isAgg4
    z4 := Try.sizeOf4
    v4 := Try.zeroValue4
    t23 := Try.underlying67
    a23 := Try.isAgg67
    z23 := Try.sizeOf67
    v23 := Try.zeroValue67
    t26 := Try.underlying3
    a26 := Try.isAgg3
    z26 := Try.sizeOf3
    v26 := Try.zeroValue3
    t27 := Try.underlying87
    a27 := Try.isAgg87
    z27 := Try.sizeOf87
    v27 := Try.zeroValue87
    t28 := Try.underlying88
    a28 := Try.isAgg88
    z28 := Try.sizeOf88
    v28 := Try.zeroValue88
    t33 := Try.underlying109
    a33 := Try.isAgg109
    z33 := Try.sizeOf109
    v33 := Try.zeroValue109 }
def sortedA_ren : Ren :=
  { f := fun x => match x with | 6 => 45 | 8 => 54 | 9 => 55 | 11 => 60 | 13 => 62 | 12 => 61 | 23 => 72 | 24 => 73 | 14 => 63 | 15 => 64 | 16 => 65 | 17 => 66 | 18 => 67 | 19 => 68 | 20 => 69 | 21 => 70 | 22 => 71 | 25 => 74 | 26 => 75 | 27 => 76 | 28 => 77 | 29 => 78 | 30 => 79 | 31 => 80 | n => n
    t := fun x => match x with | 26 => 3 | 28 => 88 | 24 => 36 | 0 => 0 | 3 => 3 | 37 => 42 | 48 => 107 | 50 => 128 | 4 => 4 | 40 => 119 | 39 => 118 | 45 => 124 | 5 => 5 | 9 => 9 | 51 => 129 | 55 => 133 | 57 => 135 | 58 => 136 | 33 => 109 | n => n
    g := fun x => x }
theorem sortedA : SlLaysZI.n6 Try.prog sortedA_ren :=
  { mixed := by kernel_rfl
    f6 := ⟨Try.f45.name, by kernel_rfl, Try.func45.trans (congrArg some (by kernel_rfl))⟩
    f8 := ⟨Try.f54.name, by kernel_rfl, Try.func54.trans (congrArg some (by kernel_rfl))⟩
    f11 := ⟨Try.f60.name, by kernel_rfl, Try.func60.trans (congrArg some (by kernel_rfl))⟩
    t0 := Try.underlying0
    a0 := Try.isAgg0
    z0 := Try.sizeOf0
    v0 := Try.zeroValue0
    t24 := Try.underlying36
    a24 := Try.isAgg36
    z24 := Try.sizeOf36
    v24 := Try.zeroValue36
    t26 := Try.underlying3
    a26 := Try.isAgg3
    z26 := Try.sizeOf3
    v26 := Try.zeroValue3
    t28 := Try.underlying88
    a28 := Try.isAgg88
    z28 := Try.sizeOf88
    v28 := Try.zeroValue88
    i26 := by kernel_rfl }
def sortA_ren : Ren :=
  { f := fun x => match x with | 5 => 55 | 8 => 62 | 7 => 61 | 19 => 72 | 20 => 73 | 10 => 63 | 11 => 64 | 12 => 65 | 13 => 66 | 14 => 67 | 15 => 68 | 16 => 69 | 17 => 70 | 18 => 71 | 30 => 74 | 31 => 75 | 32 => 76 | 33 => 77 | 34 => 78 | 35 => 79 | 40 => 80 | n => n
    t := fun x => match x with | 23 => 36 | 25 => 3 | 3 => 3 | 32 => 42 | 22 => 36 | 0 => 0 | 44 => 107 | 46 => 128 | 4 => 4 | 36 => 119 | 35 => 118 | 41 => 124 | 5 => 5 | 9 => 9 | 53 => 129 | 57 => 133 | 63 => 135 | 64 => 136 | n => n
    g := fun x => x }
theorem sortA : SlLaysM.n5 Try.prog sortA_ren :=
  { mixed := by kernel_rfl
    f5 := ⟨Try.f55.name, by kernel_rfl, Try.func55.trans (congrArg some (by kernel_rfl))⟩
    f7 := ⟨Try.f61.name, by kernel_rfl, Try.func61.trans (congrArg some (by kernel_rfl))⟩
    f8 := Try.func62.trans (congrArg some (by kernel_rfl))
    f10 := ⟨Try.f63.name, by kernel_rfl, Try.func63.trans (congrArg some (by kernel_rfl))⟩
    f11 := ⟨Try.f64.name, by kernel_rfl, Try.func64.trans (congrArg some (by kernel_rfl))⟩
    f12 := ⟨Try.f65.name, by kernel_rfl, Try.func65.trans (congrArg some (by kernel_rfl))⟩
    f13 := ⟨Try.f66.name, by kernel_rfl, Try.func66.trans (congrArg some (by kernel_rfl))⟩
    f14 := ⟨Try.f67.name, by kernel_rfl, Try.func67.trans (congrArg some (by kernel_rfl))⟩
    f15 := ⟨Try.f68.name, by kernel_rfl, Try.func68.trans (congrArg some (by kernel_rfl))⟩
    f16 := ⟨Try.f69.name, by kernel_rfl, Try.func69.trans (congrArg some (by kernel_rfl))⟩
    f17 := ⟨Try.f70.name, by kernel_rfl, Try.func70.trans (congrArg some (by kernel_rfl))⟩
    f18 := ⟨Try.f71.name, by kernel_rfl, Try.func71.trans (congrArg some (by kernel_rfl))⟩
    f19 := Try.func72.trans (congrArg some (by kernel_rfl))
    f20 := Try.func73.trans (congrArg some (by kernel_rfl))
    f30 := ⟨Try.f74.name, by kernel_rfl, Try.func74.trans (congrArg some (by kernel_rfl))⟩
    f31 := Try.func75.trans (congrArg some (by kernel_rfl))
    f32 := Try.func76.trans (congrArg some (by kernel_rfl))
    f33 := ⟨Try.f77.name, by kernel_rfl, Try.func77.trans (congrArg some (by kernel_rfl))⟩
    f34 := ⟨Try.f78.name, by kernel_rfl, Try.func78.trans (congrArg some (by kernel_rfl))⟩
    f35 := ⟨Try.f79.name, by kernel_rfl, Try.func79.trans (congrArg some (by kernel_rfl))⟩
    f40 := ⟨Try.f80.name, by kernel_rfl, Try.func80.trans (congrArg some (by kernel_rfl))⟩
    t0 := Try.underlying0
    a0 := Try.isAgg0
    z0 := Try.sizeOf0
    v0 := Try.zeroValue0
    t3 := Try.underlying3
    a3 := Try.isAgg3
    z3 := Try.sizeOf3
    v3 := Try.zeroValue3
    t4 := Try.underlying4
    a4 := Try.isAgg4
    z4 := Try.sizeOf4
    v4 := Try.zeroValue4
    t5 := Try.underlying5
    a5 := Try.isAgg5
    z5 := Try.sizeOf5
    v5 := Try.zeroValue5
    t9 := Try.underlying9
    a9 := Try.isAgg9
    z9 := Try.sizeOf9
    v9 := Try.zeroValue9
    t22 := Try.underlying36
    a22 := Try.isAgg36
    z22 := Try.sizeOf36
    v22 := Try.zeroValue36
    t23 := Try.underlying36
    a23 := Try.isAgg36
    z23 := Try.sizeOf36
    v23 := Try.zeroValue36
    t25 := Try.underlying3
    a25 := Try.isAgg3
    z25 := Try.sizeOf3
    v25 := Try.zeroValue3
    t32 := Try.underlying42
    a32 := Try.isAgg42
    z32 := Try.sizeOf42
    v32 := Try.zeroValue42
    t35 := Try.underlying118
    a35 := Try.isAgg118
    z35 := Try.sizeOf118
    v35 := Try.zeroValue118
    t36 := Try.underlying119
    a36 := Try.isAgg119
    z36 := Try.sizeOf119
    v36 := Try.zeroValue119
    t41 := Try.underlying124
    a41 := Try.isAgg124
    z41 := Try.sizeOf124
    v41 := Try.zeroValue124
    t44 := Try.underlying107
    a44 := Try.isAgg107
    z44 := Try.sizeOf107
    v44 := Try.zeroValue107
    t46 := Try.underlying128
    a46 := Try.isAgg128
    z46 := Try.sizeOf128
    v46 := Try.zeroValue128
    t53 := Try.underlying129
    a53 := Try.isAgg129
    z53 := Try.sizeOf129
    v53 := Try.zeroValue129
    t57 := Try.underlying133
    a57 := Try.isAgg133
    z57 := Try.sizeOf133
    v57 := Try.zeroValue133
    t63 := Try.underlying135
    a63 := Try.isAgg135
    z63 := Try.sizeOf135
    v63 := Try.zeroValue135
    t64 := Try.underlying136
    a64 := Try.isAgg136
    z64 := Try.sizeOf136
    v64 := Try.zeroValue136 }
end Go.Proofs.Ytokmiphgalpahaa
