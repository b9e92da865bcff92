/-
  Contracts of the library's functions, laid at this program.
-/
import Derived.Shelf.Lays
import Derived.Test.YtcnppcddpcpeoaaProg
namespace Go.Proofs
open Go.Shelf
def Try.mul_ren : Go.Shelf.Ren := ⟨fun | 212 => 28 | 263 => 29 | 264 => 30 | n => n, fun | 46 => 56 | 51 => 59 | 146 => 60 | 53 => 62 | 148 => 63 | n => n, fun | n => n⟩
theorem Try.mul : Go.Proofs.Lays.n212 Try.prog Try.mul_ren := {
  mixed := by kernel_rfl
  f212 := Try.func28.trans (congrArg some (by kernel_rfl))
  f263 := Try.func29.trans (congrArg some (by kernel_rfl))
  f264 := Try.func30.trans (congrArg some (by kernel_rfl))
  t46 := Try.underlying56
  a46 := Try.isAgg56
  z46 := Try.sizeOf56
  v46 := Try.zeroValue56
  t51 := Try.underlying59
  a51 := Try.isAgg59
  z51 := Try.sizeOf59
  v51 := Try.zeroValue59
  t53 := Try.underlying62
  a53 := Try.isAgg62
  z53 := Try.sizeOf62
  v53 := Try.zeroValue62
  t146 := Try.underlying60
  a146 := Try.isAgg60
  z146 := Try.sizeOf60
  v146 := Try.zeroValue60
  t148 := Try.underlying63
  a148 := Try.isAgg63
  z148 := Try.sizeOf63
  v148 := Try.zeroValue63 }
end Go.Proofs
