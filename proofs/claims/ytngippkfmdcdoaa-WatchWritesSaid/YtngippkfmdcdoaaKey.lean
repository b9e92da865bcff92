import Derived.Test.YtngippkfmdcdoaaWk2
import Derived.Test.YtngippkfmdcdoaaMap
import Derived.Test.YtngippkfmdcdoaaBlk
import Derived.DeepKeys5
import Derived.Carry
namespace Go.Proofs.Ytngippkfmdcdoaa
open Go.RowKit
theorem laidOut : laidOutB Try.prog = true := by kernel_rfl
theorem types_size : Try.prog.types.size = 71 := by kernel_rfl
theorem keyed45 : Maps.Keyed Try.prog 45 := by
  have h1 : Try.prog.types.size + 2 ≤ 10000 := by rw [types_size]; decide
  have h2 : (45 : TypeId) < Try.prog.types.size := by rw [types_size]; decide
  exact Maps.Keyed.of_law (deep_law_gate laidOut h1 h2 (by kernel_rfl) (by kernel_rfl))
set_option maxRecDepth 20000 in
theorem key45 {A B : Int} (hA : (Lit.int .i64 A).wf = true) (hB : (Lit.int .i64 B).wf = true) : ∃ kl, keyOf Try.prog 45 (.agg #[.int .i64 A, .int .i64 B]) = some kl := by
  have hk : Try.prog.keyType 45 = true := by kernel_rfl
  have hc : Try.prog.cellsOf 45 = 2 := by kernel_rfl
  have hc3 : Try.prog.cellsOf 3 = 1 := by kernel_rfl
  unfold keyOf
  rw [Try.underlying45, types_size]
  simp only [hk, Bool.true_and]
  have hf : Value.formed Try.prog 45 (.agg #[.int .i64 A, .int .i64 B]) = true := by
    simp [Value.formed, Try.underlying45, hc]
  rw [hf]
  have h1 : ∀ x, (Lit.int .i64 x).wf = true → Try.prog.keyLits 71 3 [.int .i64 x] = some [.int .i64 x] := fun x hx => by
    unfold Program.keyLits
    rw [Try.underlying3]
    simp only [hx, and_self, if_true]
  have h2 : Try.prog.keyLits (71 + 1) 45 [.int .i64 A, .int .i64 B] = some [.int .i64 A, .int .i64 B] := by
    unfold Program.keyLits
    rw [Try.underlying45]
    simp [hc, hc3, h1 A hA, h1 B hB]
  simp only [Value.cells, h2, if_true, Option.map_some]
  exact ⟨_, rfl⟩
end Go.Proofs.Ytngippkfmdcdoaa
