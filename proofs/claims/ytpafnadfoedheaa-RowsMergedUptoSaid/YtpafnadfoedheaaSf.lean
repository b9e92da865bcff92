/-
  The facts of a program that the walks of slices.SortStableFunc's family lean on, over a variable program: so the walk leaves an element's cells alone (gensf.py).
-/
import Derived.Test.YtpafnadfoedheaaChecked
namespace Go.Proofs.Ytpafnadfoedheaa

structure SF (P : Program) (k : Nat) : Prop where
  mixed : P.follows .mixedOrders = true
  t0 : P.underlying 0 = some (TypeDesc.tuple #[])
  a0 : ∀ w, (isAgg 0).run P w = .ok false w
  z0 : ∀ w, (Go.sizeOf 0).run P w = .ok 1 w
  v0 : ∀ w, (zeroValue 0).run P w = .ok (Value.tuple #[]) w
  t3 : P.underlying 3 = some (TypeDesc.int IntKind.i64)
  a3 : ∀ w, (isAgg 3).run P w = .ok false w
  z3 : ∀ w, (Go.sizeOf 3).run P w = .ok 1 w
  v3 : ∀ w, (zeroValue 3).run P w = .ok (Value.int IntKind.i64 0) w
  t4 : P.underlying 4 = some (TypeDesc.bool)
  a4 : ∀ w, (isAgg 4).run P w = .ok false w
  z4 : ∀ w, (Go.sizeOf 4).run P w = .ok 1 w
  v4 : ∀ w, (zeroValue 4).run P w = .ok (Value.bool false) w
  tES : P.underlying 22 = some (TypeDesc.slice 30)
  aES : ∀ w, (isAgg 22).run P w = .ok false w
  zES : ∀ w, (Go.sizeOf 22).run P w = .ok 1 w
  vES : ∀ w, (zeroValue 22).run P w = .ok (Value.slice none 0 0) w
  tFN : P.underlying 45 = some (TypeDesc.func #[30, 30] #[3] false)
  aFN : ∀ w, (isAgg 45).run P w = .ok false w
  zFN : ∀ w, (Go.sizeOf 45).run P w = .ok 1 w
  vFN : ∀ w, (zeroValue 45).run P w = .ok (Value.nilFunc) w
  tUI : P.underlying 57 = some (TypeDesc.int IntKind.u64)
  aUI : ∀ w, (isAgg 57).run P w = .ok false w
  zUI : ∀ w, (Go.sizeOf 57).run P w = .ok 1 w
  vUI : ∀ w, (zeroValue 57).run P w = .ok (Value.int IntKind.u64 0) w
  aE : ∀ w, (isAgg 30).run P w = .ok true w
  zE : ∀ w, (Go.sizeOf 30).run P w = .ok k w
  fSw : P.funcs[(29 : Nat)]? = some Try.f29
  fRo : P.funcs[(28 : Nat)]? = some Try.f28
  fSy : P.funcs[(27 : Nat)]? = some Try.f27
  fIn : P.funcs[(26 : Nat)]? = some Try.f26
  fSt : P.funcs[(24 : Nat)]? = some Try.f24

theorem sf_try : SF Try.prog 12 := {
  mixed := by kernel_rfl
  t0 := Try.underlying0
  a0 := Try.isAgg0
  z0 := Try.sizeOf0
  v0 := Try.zeroValue0
  t3 := Try.underlying3
  a3 := Try.isAgg3
  z3 := Try.sizeOf3
  v3 := Try.zeroValue3
  t4 := Try.underlying4
  a4 := Try.isAgg4
  z4 := Try.sizeOf4
  v4 := Try.zeroValue4
  tES := Try.underlying22
  aES := Try.isAgg22
  zES := Try.sizeOf22
  vES := Try.zeroValue22
  tFN := Try.underlying45
  aFN := Try.isAgg45
  zFN := Try.sizeOf45
  vFN := Try.zeroValue45
  tUI := Try.underlying57
  aUI := Try.isAgg57
  zUI := Try.sizeOf57
  vUI := Try.zeroValue57
  aE := Try.isAgg30
  zE := Try.sizeOf30
  fSw := Try.func29
  fRo := Try.func28
  fSy := Try.func27
  fIn := Try.func26
  fSt := Try.func24
}
end Go.Proofs.Ytpafnadfoedheaa
