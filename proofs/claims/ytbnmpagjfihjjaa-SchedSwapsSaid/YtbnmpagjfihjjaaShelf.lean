/-
  Contracts of the library's functions, laid at this program.
-/
import Derived.Shelf.SlLaysN
import Derived.Shelf.Lays
import Derived.Shelf.Lays2
import Derived.Test.YtbnmpagjfihjjaaProg
namespace Go.Proofs
open Go.Shelf
def Try.mul_ren : Go.Shelf.Ren := ⟨fun | 212 => 37 | 263 => 40 | 264 => 41 | n => n, fun | 46 => 61 | 51 => 67 | 146 => 68 | 53 => 70 | 148 => 71 | n => n, fun | n => n⟩
theorem Try.mul : Go.Proofs.Lays.n212 Try.prog Try.mul_ren := {
  mixed := by kernel_rfl
  f212 := Try.func37.trans (congrArg some (by kernel_rfl))
  f263 := Try.func40.trans (congrArg some (by kernel_rfl))
  f264 := Try.func41.trans (congrArg some (by kernel_rfl))
  t46 := Try.underlying61
  a46 := Try.isAgg61
  z46 := Try.sizeOf61
  v46 := Try.zeroValue61
  t51 := Try.underlying67
  a51 := Try.isAgg67
  z51 := Try.sizeOf67
  v51 := Try.zeroValue67
  t53 := Try.underlying70
  a53 := Try.isAgg70
  z53 := Try.sizeOf70
  v53 := Try.zeroValue70
  t146 := Try.underlying68
  a146 := Try.isAgg68
  z146 := Try.sizeOf68
  v146 := Try.zeroValue68
  t148 := Try.underlying71
  a148 := Try.isAgg71
  z148 := Try.sizeOf71
  v148 := Try.zeroValue71 }
def Try.search_ren : Go.Shelf.Ren := ⟨fun | 49 => 22 | 59 => 32 | 60 => 33 | 68 => 38 | n => n, fun | 22 => 22 | 23 => 3 | 3 => 3 | 4 => 4 | 51 => 61 | 0 => 0 | n => n, fun | n => n⟩
theorem Try.search : Go.Proofs.SlLaysN.n49 Try.prog Try.search_ren := {
  mixed := by kernel_rfl
  f49 := ⟨Try.f22.name, by decide, Try.func22.trans (congrArg some (by kernel_rfl))⟩
  f59 := ⟨Try.f32.name, by decide, Try.func32.trans (congrArg some (by kernel_rfl))⟩
  f60 := ⟨Try.f33.name, by decide, Try.func33.trans (congrArg some (by kernel_rfl))⟩
  f68 := ⟨Try.f38.name, by decide, Try.func38.trans (congrArg some (by kernel_rfl))⟩
  t0 := Try.underlying0
  a0 := Try.isAgg0
  z0 := Try.sizeOf0
  v0 := Try.zeroValue0
  t3 := Try.underlying3
  a3 := Try.isAgg3
  z3 := Try.sizeOf3
  v3 := Try.zeroValue3
  t4 := Try.underlying4
  a4 := Try.isAgg4
  z4 := Try.sizeOf4
  v4 := Try.zeroValue4
  t22 := Try.underlying22
  a22 := Try.isAgg22
  z22 := Try.sizeOf22
  v22 := Try.zeroValue22
  t23 := Try.underlying3
  a23 := Try.isAgg3
  z23 := Try.sizeOf3
  v23 := Try.zeroValue3
  t51 := Try.underlying61
  a51 := Try.isAgg61
  z51 := Try.sizeOf61
  v51 := Try.zeroValue61 }
def Try.insert_ren : Go.Shelf.Ren := ⟨fun | 21 => 23 | 27 => 34 | 28 => 35 | 35 => 39 | 39 => 42 | n => n, fun | 22 => 22 | 3 => 3 | 4 => 4 | 0 => 0 | n => n, fun | n => n⟩
theorem Try.insert : Go.Proofs.Lays2.n21 Try.prog Try.insert_ren := {
  mixed := by kernel_rfl
  f21 := Try.func23.trans (congrArg some (by kernel_rfl))
  f27 := Try.func34.trans (congrArg some (by kernel_rfl))
  f28 := Try.func35.trans (congrArg some (by kernel_rfl))
  f35 := Try.func39.trans (congrArg some (by kernel_rfl))
  f39 := Try.func42.trans (congrArg some (by kernel_rfl))
  t0 := Try.underlying0
  a0 := Try.isAgg0
  z0 := Try.sizeOf0
  v0 := Try.zeroValue0
  t3 := Try.underlying3
  a3 := Try.isAgg3
  z3 := Try.sizeOf3
  v3 := Try.zeroValue3
  t4 := Try.underlying4
  a4 := Try.isAgg4
  z4 := Try.sizeOf4
  v4 := Try.zeroValue4
  t22 := Try.underlying22
  a22 := Try.isAgg22
  z22 := Try.sizeOf22
  v22 := Try.zeroValue22
  i3 := by kernel_rfl }
end Go.Proofs
