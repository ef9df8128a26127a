/- The kit's contracts on maps.Keys, slices.Sorted and slices.Sort, laid at this program's numbers. -/
import Derived.Test.YtnggihfggghigaaRows
import Derived.Shelf.SlIterI.Nil
import Derived.Shelf.SortM.Plain
import Derived.Shelf.SortM.SortNone
namespace Go.Proofs.Ytnggihfggghigaa
open Go.RowKit Go.Maps Go.Sort Go.Shelf Go.Proofs
set_option maxRecDepth 100000
def keysA_ren : Ren :=
  { f := fun x => match x with | 7 => 26 | 10 => 36 | n => n
    t := fun x => match x with | 23 => 48 | 26 => 3 | 3 => 52 | 28 => 60 | 0 => 0 | 27 => 59 | 33 => 72 | 4 => 4 | n => n
    g := fun x => x }
theorem keysA : SlLaysZI.n7 Try.prog keysA_ren :=
  { mixed := by kernel_rfl
    f7 := ⟨Try.f26.name, by kernel_rfl, Try.func26.trans (congrArg some (by kernel_rfl))⟩
    f10 := ⟨Try.f36.name, by kernel_rfl, Try.func36.trans (congrArg some (by kernel_rfl))⟩
    t0 := Try.underlying0
    a0 := Try.isAgg0
    z0 := Try.sizeOf0
    v0 := Try.zeroValue0
    t4 := Try.underlying4
    a4 := Try.isAgg4
    z4 := Try.sizeOf4
    v4 := Try.zeroValue4
    t23 := Try.underlying48
    a23 := Try.isAgg48
    z23 := Try.sizeOf48
    v23 := Try.zeroValue48
    t26 := Try.underlying3
    a26 := Try.isAgg3
    z26 := Try.sizeOf3
    v26 := Try.zeroValue3
    t27 := Try.underlying59
    a27 := Try.isAgg59
    z27 := Try.sizeOf59
    v27 := Try.zeroValue59
    t28 := Try.underlying60
    a28 := Try.isAgg60
    z28 := Try.sizeOf60
    v28 := Try.zeroValue60
    t33 := Try.underlying72
    a33 := Try.isAgg72
    z33 := Try.sizeOf72
    v33 := Try.zeroValue72 }
def sortedA_ren : Ren :=
  { f := fun x => match x with | 6 => 25 | 8 => 34 | 9 => 35 | 11 => 40 | 13 => 42 | 12 => 41 | 23 => 52 | 24 => 53 | 14 => 43 | 15 => 44 | 16 => 45 | 17 => 46 | 18 => 47 | 19 => 48 | 20 => 49 | 21 => 50 | 22 => 51 | 25 => 54 | 26 => 55 | 27 => 56 | 28 => 57 | 29 => 58 | 30 => 59 | 31 => 60 | n => n
    t := fun x => match x with | 26 => 3 | 28 => 60 | 24 => 29 | 0 => 0 | 3 => 3 | 37 => 77 | 48 => 88 | 50 => 90 | 4 => 4 | 40 => 80 | 39 => 79 | 45 => 85 | 5 => 5 | 9 => 9 | 51 => 91 | 55 => 95 | 57 => 97 | 58 => 98 | 33 => 72 | n => n
    g := fun x => x }
theorem sortedA : SlLaysZI.n6 Try.prog sortedA_ren :=
  { mixed := by kernel_rfl
    f6 := ⟨Try.f25.name, by kernel_rfl, Try.func25.trans (congrArg some (by kernel_rfl))⟩
    f8 := ⟨Try.f34.name, by kernel_rfl, Try.func34.trans (congrArg some (by kernel_rfl))⟩
    f11 := ⟨Try.f40.name, by kernel_rfl, Try.func40.trans (congrArg some (by kernel_rfl))⟩
    t0 := Try.underlying0
    a0 := Try.isAgg0
    z0 := Try.sizeOf0
    v0 := Try.zeroValue0
    t24 := Try.underlying29
    a24 := Try.isAgg29
    z24 := Try.sizeOf29
    v24 := Try.zeroValue29
    t26 := Try.underlying3
    a26 := Try.isAgg3
    z26 := Try.sizeOf3
    v26 := Try.zeroValue3
    t28 := Try.underlying60
    a28 := Try.isAgg60
    z28 := Try.sizeOf60
    v28 := Try.zeroValue60
    i26 := by kernel_rfl }
def sortA_ren : Ren :=
  { f := fun x => match x with | 5 => 35 | 8 => 42 | 7 => 41 | 19 => 52 | 20 => 53 | 10 => 43 | 11 => 44 | 12 => 45 | 13 => 46 | 14 => 47 | 15 => 48 | 16 => 49 | 17 => 50 | 18 => 51 | 30 => 54 | 31 => 55 | 32 => 56 | 33 => 57 | 34 => 58 | 35 => 59 | 40 => 60 | n => n
    t := fun x => match x with | 23 => 29 | 25 => 3 | 3 => 3 | 32 => 77 | 22 => 29 | 0 => 0 | 44 => 88 | 46 => 90 | 4 => 4 | 36 => 80 | 35 => 79 | 41 => 85 | 5 => 5 | 9 => 9 | 53 => 91 | 57 => 95 | 63 => 97 | 64 => 98 | n => n
    g := fun x => x }
theorem sortA : SlLaysM.n5 Try.prog sortA_ren :=
  { mixed := by kernel_rfl
    f5 := ⟨Try.f35.name, by kernel_rfl, Try.func35.trans (congrArg some (by kernel_rfl))⟩
    f7 := ⟨Try.f41.name, by kernel_rfl, Try.func41.trans (congrArg some (by kernel_rfl))⟩
    f8 := Try.func42.trans (congrArg some (by kernel_rfl))
    f10 := ⟨Try.f43.name, by kernel_rfl, Try.func43.trans (congrArg some (by kernel_rfl))⟩
    f11 := ⟨Try.f44.name, by kernel_rfl, Try.func44.trans (congrArg some (by kernel_rfl))⟩
    f12 := ⟨Try.f45.name, by kernel_rfl, Try.func45.trans (congrArg some (by kernel_rfl))⟩
    f13 := ⟨Try.f46.name, by kernel_rfl, Try.func46.trans (congrArg some (by kernel_rfl))⟩
    f14 := ⟨Try.f47.name, by kernel_rfl, Try.func47.trans (congrArg some (by kernel_rfl))⟩
    f15 := ⟨Try.f48.name, by kernel_rfl, Try.func48.trans (congrArg some (by kernel_rfl))⟩
    f16 := ⟨Try.f49.name, by kernel_rfl, Try.func49.trans (congrArg some (by kernel_rfl))⟩
    f17 := ⟨Try.f50.name, by kernel_rfl, Try.func50.trans (congrArg some (by kernel_rfl))⟩
    f18 := ⟨Try.f51.name, by kernel_rfl, Try.func51.trans (congrArg some (by kernel_rfl))⟩
    f19 := Try.func52.trans (congrArg some (by kernel_rfl))
    f20 := Try.func53.trans (congrArg some (by kernel_rfl))
    f30 := ⟨Try.f54.name, by kernel_rfl, Try.func54.trans (congrArg some (by kernel_rfl))⟩
    f31 := Try.func55.trans (congrArg some (by kernel_rfl))
    f32 := Try.func56.trans (congrArg some (by kernel_rfl))
    f33 := ⟨Try.f57.name, by kernel_rfl, Try.func57.trans (congrArg some (by kernel_rfl))⟩
    f34 := ⟨Try.f58.name, by kernel_rfl, Try.func58.trans (congrArg some (by kernel_rfl))⟩
    f35 := ⟨Try.f59.name, by kernel_rfl, Try.func59.trans (congrArg some (by kernel_rfl))⟩
    f40 := ⟨Try.f60.name, by kernel_rfl, Try.func60.trans (congrArg some (by kernel_rfl))⟩
    t0 := Try.underlying0
    a0 := Try.isAgg0
    z0 := Try.sizeOf0
    v0 := Try.zeroValue0
    t3 := Try.underlying3
    a3 := Try.isAgg3
    z3 := Try.sizeOf3
    v3 := Try.zeroValue3
    t4 := Try.underlying4
    a4 := Try.isAgg4
    z4 := Try.sizeOf4
    v4 := Try.zeroValue4
    t5 := Try.underlying5
    a5 := Try.isAgg5
    z5 := Try.sizeOf5
    v5 := Try.zeroValue5
    t9 := Try.underlying9
    a9 := Try.isAgg9
    z9 := Try.sizeOf9
    v9 := Try.zeroValue9
    t22 := Try.underlying29
    a22 := Try.isAgg29
    z22 := Try.sizeOf29
    v22 := Try.zeroValue29
    t23 := Try.underlying29
    a23 := Try.isAgg29
    z23 := Try.sizeOf29
    v23 := Try.zeroValue29
    t25 := Try.underlying3
    a25 := Try.isAgg3
    z25 := Try.sizeOf3
    v25 := Try.zeroValue3
    t32 := Try.underlying77
    a32 := Try.isAgg77
    z32 := Try.sizeOf77
    v32 := Try.zeroValue77
    t35 := Try.underlying79
    a35 := Try.isAgg79
    z35 := Try.sizeOf79
    v35 := Try.zeroValue79
    t36 := Try.underlying80
    a36 := Try.isAgg80
    z36 := Try.sizeOf80
    v36 := Try.zeroValue80
    t41 := Try.underlying85
    a41 := Try.isAgg85
    z41 := Try.sizeOf85
    v41 := Try.zeroValue85
    t44 := Try.underlying88
    a44 := Try.isAgg88
    z44 := Try.sizeOf88
    v44 := Try.zeroValue88
    t46 := Try.underlying90
    a46 := Try.isAgg90
    z46 := Try.sizeOf90
    v46 := Try.zeroValue90
    t53 := Try.underlying91
    a53 := Try.isAgg91
    z53 := Try.sizeOf91
    v53 := Try.zeroValue91
    t57 := Try.underlying95
    a57 := Try.isAgg95
    z57 := Try.sizeOf95
    v57 := Try.zeroValue95
    t63 := Try.underlying97
    a63 := Try.isAgg97
    z63 := Try.sizeOf97
    v63 := Try.zeroValue97
    t64 := Try.underlying98
    a64 := Try.isAgg98
    z64 := Try.sizeOf98
    v64 := Try.zeroValue98 }
end Go.Proofs.Ytnggihfggghigaa
