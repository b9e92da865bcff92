/-
  Query: the tables.
-/
import Derived.Test.YtenlhfmchhljdaaDoorQo
import Derived.WalkKit
import Derived.ProofKit
import Derived.OpenShut
import Derived.Deep.DeepHandedRow
import Derived.Deep.DeepWitnessRowRef
import Derived.LaidMore
namespace Go.Proofs.YtenlhfmchhljdaaDoor
open Go.ChangeShapes Go.WideShapes Go.ChangeAt Go.RowKit
set_option maxRecDepth 100000

theorem rows_nodup : ∀ l : List (Nat × Nat), (l.map (·.1)).Nodup → (l.flatMap fun x => MemPlace.row ⟨x.1, 0, none⟩ x.2).Nodup
  | [], _ => List.nodup_nil
  | x :: l, h => by
    rw [List.map_cons, List.nodup_cons] at h
    rw [List.flatMap_cons, List.nodup_append]
    refine ⟨?_, rows_nodup l h.2, ?_⟩
    · unfold MemPlace.row
      rw [List.nodup_iff_pairwise_ne, List.pairwise_map]
      exact List.nodup_range.imp fun hab e => hab (by simpa using e)
    · intro a ha b hb e
      subst e
      obtain ⟨y, hy, hb⟩ := List.mem_flatMap.1 hb
      unfold MemPlace.row at ha hb
      obtain ⟨i, -, rfl⟩ := List.mem_map.1 ha
      obtain ⟨j, -, e⟩ := List.mem_map.1 hb
      simp only [MemPlace.cell.injEq] at e
      exact h.1 (e.1 ▸ List.mem_map_of_mem hy)
def places : List MemPlace := [(8, 32), (9, 64), (5, 20), (3, 32), (7, 1), (16, 1), (6, 1), (17, 1), (1, 1), (19, 3), (18, 21), (0, 256), (2, 256)].flatMap fun x : Nat × Nat => MemPlace.row ⟨x.1, 0, none⟩ x.2
theorem places_nodup : places.Nodup := rows_nodup _ (by decide)
/-- A world in which the tables are laid. -/
noncomputable def laidWorld (os : Os) : World :=
  { World.holding Tryd.prog os ⟨#[], #[], []⟩ with heap := (((((((((((((((((((((((((((((World.holding Tryd.prog os ⟨#[], #[], []⟩).heap).modify 0 fun
      | .cells _ t frozen => .cells #[.int .u8 0, .int .u8 0, .int .u8 0, .int .u8 0, .int .u8 0, .int .u8 0, .int .u8 0, .int .u8 0, .int .u8 0, .int .u8 1, .int .u8 1, .int .u8 1, .int .u8 1, .int .u8 1, .int .u8 0, .int .u8 0, .int .u8 0, .int .u8 0, .int .u8 0, .int .u8 0, .int .u8 0, .int .u8 0, .int .u8 0, .int .u8 0, .int .u8 0, .int .u8 0, .int .u8 0, .int .u8 0, .int .u8 0, .int .u8 0, .int .u8 0, .int .u8 0, .int .u8 1, .int .u8 0, .int .u8 0, .int .u8 0, .int .u8 0, .int .u8 0, .int .u8 0, .int .u8 0, .int .u8 0, .int .u8 0, .int .u8 0, .int .u8 0, .int .u8 0, .int .u8 0, .int .u8 0, .int .u8 0, .int .u8 0, .int .u8 0, .int .u8 0, .int .u8 0, .int .u8 0, .int .u8 0, .int .u8 0, .int .u8 0, .int .u8 0, .int .u8 0, .int .u8 0, .int .u8 0, .int .u8 0, .int .u8 0, .int .u8 0, .int .u8 0, .int .u8 0, .int .u8 0, .int .u8 0, .int .u8 0, .int .u8 0, .int .u8 0, .int .u8 0, .int .u8 0, .int .u8 0, .int .u8 0, .int .u8 0, .int .u8 0, .int .u8 0, .int .u8 0, .int .u8 0, .int .u8 0, .int .u8 0, .int .u8 0, .int .u8 0, .int .u8 0, .int .u8 0, .int .u8 0, .int .u8 0, .int .u8 0, .int .u8 0, .int .u8 0, .int .u8 0, .int .u8 0, .int .u8 0, .int .u8 0, .int .u8 0, .int .u8 0, .int .u8 0, .int .u8 0, .int .u8 0, .int .u8 0, .int .u8 0, .int .u8 0, .int .u8 0, .int .u8 0, .int .u8 0, .int .u8 0, .int .u8 0, .int .u8 0, .int .u8 0, .int .u8 0, .int .u8 0, .int .u8 0, .int .u8 0, .int .u8 0, .int .u8 0, .int .u8 0, .int .u8 0, .int .u8 0, .int .u8 0, .int .u8 0, .int .u8 0, .int .u8 0, .int .u8 0, .int .u8 0, .int .u8 0, .int .u8 0, .int .u8 0, .int .u8 0, .int .u8 0, .int .u8 0, .int .u8 0, .int .u8 0, .int .u8 0, .int .u8 0, .int .u8 0, .int .u8 0, .int .u8 0, .int .u8 0, .int .u8 0, .int .u8 0, .int .u8 0, .int .u8 0, .int .u8 0, .int .u8 0, .int .u8 0, .int .u8 0, .int .u8 0, .int .u8 0, .int .u8 0, .int .u8 0, .int .u8 0, .int .u8 0, .int .u8 0, .int .u8 0, .int .u8 0, .int .u8 0, .int .u8 0, .int .u8 0, .int .u8 0, .int .u8 0, .int .u8 0, .int .u8 0, .int .u8 0, .int .u8 0, .int .u8 0, .int .u8 0, .int .u8 0, .int .u8 0, .int .u8 0, .int .u8 0, .int .u8 0, .int .u8 0, .int .u8 0, .int .u8 0, .int .u8 0, .int .u8 0, .int .u8 0, .int .u8 0, .int .u8 0, .int .u8 0, .int .u8 0, .int .u8 0, .int .u8 0, .int .u8 0, .int .u8 0, .int .u8 0, .int .u8 0, .int .u8 0, .int .u8 0, .int .u8 0, .int .u8 0, .int .u8 0, .int .u8 0, .int .u8 0, .int .u8 0, .int .u8 0, .int .u8 0, .int .u8 0, .int .u8 0, .int .u8 0, .int .u8 0, .int .u8 0, .int .u8 0, .int .u8 0, .int .u8 0, .int .u8 0, .int .u8 0, .int .u8 0, .int .u8 0, .int .u8 0, .int .u8 0, .int .u8 0, .int .u8 0, .int .u8 0, .int .u8 0, .int .u8 0, .int .u8 0, .int .u8 0, .int .u8 0, .int .u8 0, .int .u8 0, .int .u8 0, .int .u8 0, .int .u8 0, .int .u8 0, .int .u8 0, .int .u8 0, .int .u8 0, .int .u8 0, .int .u8 0, .int .u8 0, .int .u8 0, .int .u8 0, .int .u8 0, .int .u8 0, .int .u8 0, .int .u8 0, .int .u8 0, .int .u8 0, .int .u8 0, .int .u8 0, .int .u8 0, .int .u8 0, .int .u8 0, .int .u8 0, .int .u8 0, .int .u8 0, .int .u8 0, .int .u8 0, .int .u8 0, .int .u8 0, .int .u8 0, .int .u8 0, .int .u8 0, .int .u8 0, .int .u8 0] t frozen
      | o => o)).modify 3 fun
      | .cells _ t frozen => .cells #[.int .u8 128, .int .u8 191, .int .u8 160, .int .u8 191, .int .u8 128, .int .u8 159, .int .u8 144, .int .u8 191, .int .u8 128, .int .u8 143, .int .u8 0, .int .u8 0, .int .u8 0, .int .u8 0, .int .u8 0, .int .u8 0, .int .u8 0, .int .u8 0, .int .u8 0, .int .u8 0, .int .u8 0, .int .u8 0, .int .u8 0, .int .u8 0, .int .u8 0, .int .u8 0, .int .u8 0, .int .u8 0, .int .u8 0, .int .u8 0, .int .u8 0, .int .u8 0] t frozen
      | o => o)).modify 5 fun
      | .cells _ t frozen => .cells #[.int .u64 1, .int .u64 10, .int .u64 100, .int .u64 1000, .int .u64 10000, .int .u64 100000, .int .u64 1000000, .int .u64 10000000, .int .u64 100000000, .int .u64 1000000000, .int .u64 10000000000, .int .u64 100000000000, .int .u64 1000000000000, .int .u64 10000000000000, .int .u64 100000000000000, .int .u64 1000000000000000, .int .u64 10000000000000000, .int .u64 100000000000000000, .int .u64 1000000000000000000, .int .u64 10000000000000000000] t frozen
      | o => o)).modify 8 fun
      | .cells _ t frozen => .cells #[.int .u8 0, .int .u8 1, .int .u8 28, .int .u8 2, .int .u8 29, .int .u8 14, .int .u8 24, .int .u8 3, .int .u8 30, .int .u8 22, .int .u8 20, .int .u8 15, .int .u8 25, .int .u8 17, .int .u8 4, .int .u8 8, .int .u8 31, .int .u8 27, .int .u8 13, .int .u8 23, .int .u8 21, .int .u8 19, .int .u8 16, .int .u8 7, .int .u8 26, .int .u8 12, .int .u8 18, .int .u8 6, .int .u8 11, .int .u8 5, .int .u8 10, .int .u8 9] t frozen
      | o => o)).modify 9 fun
      | .cells _ t frozen => .cells #[.int .u8 0, .int .u8 1, .int .u8 56, .int .u8 2, .int .u8 57, .int .u8 49, .int .u8 28, .int .u8 3, .int .u8 61, .int .u8 58, .int .u8 42, .int .u8 50, .int .u8 38, .int .u8 29, .int .u8 17, .int .u8 4, .int .u8 62, .int .u8 47, .int .u8 59, .int .u8 36, .int .u8 45, .int .u8 43, .int .u8 51, .int .u8 22, .int .u8 53, .int .u8 39, .int .u8 33, .int .u8 30, .int .u8 24, .int .u8 18, .int .u8 12, .int .u8 5, .int .u8 63, .int .u8 55, .int .u8 48, .int .u8 27, .int .u8 60, .int .u8 41, .int .u8 37, .int .u8 16, .int .u8 46, .int .u8 35, .int .u8 44, .int .u8 21, .int .u8 52, .int .u8 32, .int .u8 23, .int .u8 11, .int .u8 54, .int .u8 26, .int .u8 40, .int .u8 15, .int .u8 34, .int .u8 20, .int .u8 31, .int .u8 10, .int .u8 25, .int .u8 14, .int .u8 19, .int .u8 9, .int .u8 13, .int .u8 8, .int .u8 7, .int .u8 6] t frozen
      | o => o)).modify 2 fun
      | .cells _ t frozen => .cells (Go.Pinned.utf8FirstZ.map fun (n : Nat) => Value.int .u8 (n : Int)).toArray t frozen
      | o => o)).modify 7 fun
      | .cells _ t frozen => .cells #[.iface 138 (.pointer (some ⟨16, 0, none⟩))] t frozen
      | o => o)).modify 6 fun
      | .cells _ t frozen => .cells #[.iface 138 (.pointer (some ⟨17, 0, none⟩))] t frozen
      | o => o)).modify 1 fun
      | .cells _ t frozen => .cells #[.pointer (some ⟨19, 0, none⟩)] t frozen
      | o => o)).modify 10 fun
      | .cells _ t frozen => .cells #[.pointer (some ⟨19, 0, none⟩)] t frozen
      | o => o)).push (.cells #[.string ⟨#[118, 97, 108, 117, 101, 32, 111, 117, 116, 32, 111, 102, 32, 114, 97, 110, 103, 101]⟩] 140 (0, 0)))).push (.cells #[.string ⟨#[105, 110, 118, 97, 108, 105, 100, 32, 115, 121, 110, 116, 97, 120]⟩] 140 (0, 0)))).push (.cells #[.int .u16 9, .int .u16 13, .int .u16 1, .int .u16 32, .int .u16 133, .int .u16 101, .int .u16 160, .int .u16 5760, .int .u16 5600, .int .u16 8192, .int .u16 8202, .int .u16 1, .int .u16 8232, .int .u16 8233, .int .u16 1, .int .u16 8239, .int .u16 8287, .int .u16 48, .int .u16 12288, .int .u16 12288, .int .u16 1] 108 (0, 0)))).push (.cells #[.slice (some ⟨18, 0, none⟩) 7 7, .slice none 0 0, .int .i64 2] 105 (0, 0))) }
theorem tabsIn {W : World} (h : laidMetH Tryd.prog Rows.queryPlainRow.laid W) : TabsIn W := by
  rw [MakeChecks.laidMetH_plain _ _ _ (by kernel_rfl)] at h
  obtain ⟨ps, h1, -⟩ := h
  obtain ⟨_, _, _, _, _, _, _, _, _, _, h2, _⟩ := h1
  obtain ⟨_, _, _, _, _, _, _, _, _, _, h3, _⟩ := h2
  obtain ⟨g3, t3, cs3, u3, p3, q3, hg3, ht3, hv3, hd3, h4, _⟩ := h3
  obtain ⟨_, _, _, _, _, _, _, _, _, _, h5, _⟩ := h4
  obtain ⟨g5, t5, cs5, u5, p5, q5, hg5, ht5, hv5, hd5, h6, _⟩ := h5
  obtain ⟨g6, t6, cs6, u6, p6, q6, hg6, ht6, hv6, hd6, h7, _⟩ := h6
  obtain ⟨_, _, _, _, _, _, _, _, _, _, h8, _⟩ := h7
  obtain ⟨g8, t8, cs8, u8, p8, q8, hg8, ht8, hv8, hd8, _, _⟩ := h8
  intro x hx
  have hx' : x = (0, (· = asciiV)) ∨ x = (6, errV) ∨ x = (7, errV) ∨ x = (5, (· = pow10V)) := by simpa [tabs] using hx
  rcases hx' with rfl | rfl | rfl | rfl
  · obtain rfl := Option.some.inj ((show Tryd.prog.globalNamed "strings.asciiSpace" = some 0 by kernel_rfl).symm.trans hg8)
    obtain rfl := Option.some.inj ((show (Tryd.prog.globals[0]?).map (·.type) = some 78 by kernel_rfl).symm.trans ht8)
    have e := Lib.cells_of_tab (k := .u8) (zs := Lib.asciiSpaceTab) (show Tryd.prog.underlying 78 = some (.array 256 5) by kernel_rfl) (show Tryd.prog.underlying 5 = some (.int .u8) by kernel_rfl) (by kernel_rfl) (by kernel_rfl) hd8
    obtain ⟨t, fr, hh⟩ := var_block (by kernel_rfl) hv8
    refine ⟨asciiV, t, fr, rfl, ?_⟩
    have e2 : cs8 = asciiV.toArray := by
      apply Array.ext'
      rw [e]
      kernel_rfl
    rw [← e2]; exact hh
  · obtain rfl := Option.some.inj ((show Tryd.prog.globalNamed "strconv.ErrSyntax" = some 6 by kernel_rfl).symm.trans hg6)
    obtain rfl := Option.some.inj ((show (Tryd.prog.globals[6]?).map (·.type) = some 84 by kernel_rfl).symm.trans ht6)
    obtain ⟨u, v, e⟩ := err_of Tryd.underlying84 hd6
    obtain ⟨t, fr, hh⟩ := var_block (by kernel_rfl) hv6
    exact ⟨cs6.toList, t, fr, ⟨u, v, e⟩, by simpa using hh⟩
  · obtain rfl := Option.some.inj ((show Tryd.prog.globalNamed "strconv.ErrRange" = some 7 by kernel_rfl).symm.trans hg5)
    obtain rfl := Option.some.inj ((show (Tryd.prog.globals[7]?).map (·.type) = some 84 by kernel_rfl).symm.trans ht5)
    obtain ⟨u, v, e⟩ := err_of Tryd.underlying84 hd5
    obtain ⟨t, fr, hh⟩ := var_block (by kernel_rfl) hv5
    exact ⟨cs5.toList, t, fr, ⟨u, v, e⟩, by simpa using hh⟩
  · obtain rfl := Option.some.inj ((show Tryd.prog.globalNamed "internal/strconv.uint64pow10" = some 5 by kernel_rfl).symm.trans hg3)
    obtain rfl := Option.some.inj ((show (Tryd.prog.globals[5]?).map (·.type) = some 128 by kernel_rfl).symm.trans ht3)
    have e := Lib.cells_of_tab (k := .u64) (zs := Lib.pow10Tab) (show Tryd.prog.underlying 128 = some (.array 20 82) by kernel_rfl) (show Tryd.prog.underlying 82 = some (.int .u64) by kernel_rfl) (by kernel_rfl) (by kernel_rfl) hd3
    obtain ⟨t, fr, hh⟩ := var_block (by kernel_rfl) hv3
    refine ⟨pow10V, t, fr, rfl, ?_⟩
    have e2 : cs3 = pow10V.toArray := by
      apply Array.ext'
      rw [e]
      kernel_rfl
    rw [← e2]; exact hh
end Go.Proofs.YtenlhfmchhljdaaDoor
