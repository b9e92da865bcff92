/-
  Conditions: the tables, the arguments opened.
-/
import Derived.Test.YtjojjcdminbnlaaDoorRows
import Derived.Test.YtjojjcdminbnlaaDoorVal
import Derived.Test.YtjojjcdminbnlaaDoorOr
import Derived.WalkKit
import Derived.ProofKit
import Derived.OpenShut
import Derived.Deep.DeepHandedRow
import Derived.Lib.LaidTab
namespace Go.Proofs.YtjojjcdminbnlaaDoor
open Go.ChangeShapes Go.WideShapes Go.ChangeAt Go.RowKit
set_option maxRecDepth 100000

theorem own : ownKnob Tryd.prog.godebug = none := by kernel_rfl
theorem laidOut : laidOutB Tryd.prog = true := by kernel_rfl
theorem tabsIn {W : World} (h : laidMetH Tryd.prog Rows.brkWaysRow.laid W) : TabsIn W := by
  have h' : laidMet Tryd.prog Rows.brkWaysRow.laid W := h
  obtain ⟨ps, h1, -⟩ := h'
  obtain ⟨_, _, _, _, _, _, _, _, _, _, h2, _⟩ := h1
  obtain ⟨_, _, _, _, _, _, _, _, _, _, h3, _⟩ := h2
  obtain ⟨g', t', cs, fuel, p, q, hg', ht', hvar, hd, _, _⟩ := h3
  obtain rfl := Option.some.inj ((show Tryd.prog.globalNamed "internal/strconv.uint64pow10" = some 3 by kernel_rfl).symm.trans hg')
  obtain rfl := Option.some.inj ((show (Tryd.prog.globals[3]?).map (·.type) = some 90 by kernel_rfl).symm.trans ht')
  have e := Lib.cells_of_tab (k := .u64) (zs := Lib.pow10Tab) (show Tryd.prog.underlying 90 = some (.array 20 76) by kernel_rfl) (show Tryd.prog.underlying 76 = some (.int .u64) by kernel_rfl) (by kernel_rfl) (by kernel_rfl) hd
  intro x hx
  obtain rfl : x = (3, pow10V) := by simpa [tabs] using hx
  unfold World.var? at hvar
  rw [show Tryd.prog.globalNamed "internal/strconv.uint64pow10" = some 3 by kernel_rfl] at hvar
  simp only [Option.bind_some] at hvar
  split at hvar
  · next cs' t fr hh =>
    refine ⟨t, fr, ?_⟩
    rw [hh]
    obtain rfl := Option.some.inj hvar
    have e2 : cs' = pow10V.toArray := by
      apply Array.ext'
      rw [e]
      kernel_rfl
    rw [e2]
  · cases hvar
noncomputable def laidWorld (os : Os) : World :=
  { World.holding Tryd.prog os ⟨#[], #[], []⟩ with heap := (((((((((((World.holding Tryd.prog os ⟨#[], #[], []⟩).heap).modify 4 fun
      | .cells _ t frozen => .cells #[.int .u8 0, .int .u8 1, .int .u8 28, .int .u8 2, .int .u8 29, .int .u8 14, .int .u8 24, .int .u8 3, .int .u8 30, .int .u8 22, .int .u8 20, .int .u8 15, .int .u8 25, .int .u8 17, .int .u8 4, .int .u8 8, .int .u8 31, .int .u8 27, .int .u8 13, .int .u8 23, .int .u8 21, .int .u8 19, .int .u8 16, .int .u8 7, .int .u8 26, .int .u8 12, .int .u8 18, .int .u8 6, .int .u8 11, .int .u8 5, .int .u8 10, .int .u8 9] t frozen
      | o => o)).modify 5 fun
      | .cells _ t frozen => .cells #[.int .u8 0, .int .u8 1, .int .u8 56, .int .u8 2, .int .u8 57, .int .u8 49, .int .u8 28, .int .u8 3, .int .u8 61, .int .u8 58, .int .u8 42, .int .u8 50, .int .u8 38, .int .u8 29, .int .u8 17, .int .u8 4, .int .u8 62, .int .u8 47, .int .u8 59, .int .u8 36, .int .u8 45, .int .u8 43, .int .u8 51, .int .u8 22, .int .u8 53, .int .u8 39, .int .u8 33, .int .u8 30, .int .u8 24, .int .u8 18, .int .u8 12, .int .u8 5, .int .u8 63, .int .u8 55, .int .u8 48, .int .u8 27, .int .u8 60, .int .u8 41, .int .u8 37, .int .u8 16, .int .u8 46, .int .u8 35, .int .u8 44, .int .u8 21, .int .u8 52, .int .u8 32, .int .u8 23, .int .u8 11, .int .u8 54, .int .u8 26, .int .u8 40, .int .u8 15, .int .u8 34, .int .u8 20, .int .u8 31, .int .u8 10, .int .u8 25, .int .u8 14, .int .u8 19, .int .u8 9, .int .u8 13, .int .u8 8, .int .u8 7, .int .u8 6] t frozen
      | o => o)).modify 3 fun
      | .cells _ t frozen => .cells #[.int .u64 1, .int .u64 10, .int .u64 100, .int .u64 1000, .int .u64 10000, .int .u64 100000, .int .u64 1000000, .int .u64 10000000, .int .u64 100000000, .int .u64 1000000000, .int .u64 10000000000, .int .u64 100000000000, .int .u64 1000000000000, .int .u64 10000000000000, .int .u64 100000000000000, .int .u64 1000000000000000, .int .u64 10000000000000000, .int .u64 100000000000000000, .int .u64 1000000000000000000, .int .u64 10000000000000000000] t frozen
      | o => o)).modify 1 fun
      | .cells _ t frozen => .cells #[.int .u8 128, .int .u8 191, .int .u8 160, .int .u8 191, .int .u8 128, .int .u8 159, .int .u8 144, .int .u8 191, .int .u8 128, .int .u8 143, .int .u8 0, .int .u8 0, .int .u8 0, .int .u8 0, .int .u8 0, .int .u8 0, .int .u8 0, .int .u8 0, .int .u8 0, .int .u8 0, .int .u8 0, .int .u8 0, .int .u8 0, .int .u8 0, .int .u8 0, .int .u8 0, .int .u8 0, .int .u8 0, .int .u8 0, .int .u8 0, .int .u8 0, .int .u8 0] t frozen
      | o => o)).modify 0 fun
      | .cells _ t frozen => .cells (Go.Pinned.utf8FirstZ.map fun (n : Nat) => Value.int .u8 (n : Int)).toArray t frozen
      | o => o) }
section
variable {H : Type} {enc : TypeId × Value → H} {w : World} {base : Nat} {spare : Nat → Bool} {held : Bool}
theorem open_l : Opn enc Tryd.prog w base spare held 22 dvD (fun l => ∀ x ∈ l, x.1.length ≤ maxLen ∧ (Lit.int .i64 x.2).wf = true) :=
  Opn.sl Tryd.underlying22 (by kernel_rfl) (by decide) (Opn.two (c0 := 1) (c1 := 1) Tryd.underlying38 (by kernel_rfl) (by kernel_rfl) (by kernel_rfl) rfl rfl (Opn.str Tryd.underlying9) (Opn.int Tryd.underlying3))
theorem open_ll : Opn enc Tryd.prog w base spare held 31 (fun l : List DVs => .sl 1 (l.map dvD)) (fun l => ∀ x ∈ l, ∀ y ∈ x, y.1.length ≤ maxLen ∧ (Lit.int .i64 y.2).wf = true) :=
  Opn.sl Tryd.underlying31 (by kernel_rfl) (by decide) open_l
end
end Go.Proofs.YtjojjcdminbnlaaDoor
