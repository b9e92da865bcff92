/-
  Contracts of the library's functions, laid at this program.
-/
import Derived.Shelf.SlLaysF0
import Derived.Test.YtpafnadfoedheaaProg
namespace Go.Proofs
open Go.Shelf
def Try.ins_ren : Go.Shelf.Ren := ⟨fun | 20 => 26 | n => n, fun | 24 => 30 | 22 => 22 | 3 => 3 | 25 => 45 | 4 => 4 | 0 => 0 | n => n, fun | n => n⟩
theorem Try.ins : Go.Proofs.SlLaysF0.n20 Try.prog Try.ins_ren := {
  mixed := by kernel_rfl
  f20 := ⟨Try.f26.name, by decide, Try.func26.trans (congrArg some (by kernel_rfl))⟩
  t0 := Try.underlying0
  a0 := Try.isAgg0
  z0 := Try.sizeOf0
  v0 := Try.zeroValue0
  t3 := Try.underlying3
  a3 := Try.isAgg3
  z3 := Try.sizeOf3
  v3 := Try.zeroValue3
  t4 := Try.underlying4
  a4 := Try.isAgg4
  z4 := Try.sizeOf4
  v4 := Try.zeroValue4
  t22 := Try.underlying22
  a22 := Try.isAgg22
  z22 := Try.sizeOf22
  v22 := Try.zeroValue22
  t25 := Try.underlying45
  a25 := Try.isAgg45
  z25 := Try.sizeOf45
  v25 := Try.zeroValue45 }
end Go.Proofs
