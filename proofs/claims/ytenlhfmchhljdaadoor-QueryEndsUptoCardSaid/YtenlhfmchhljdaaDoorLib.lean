/-
  The library's functions of texts, by ghosts.
-/
import Derived.Test.YtenlhfmchhljdaaDoorGj
import Derived.Test.YtenlhfmchhljdaaDoorShelf
import Derived.Shelf.Strings.Trim
import Derived.Shelf.Small.Strs
import Derived.Shelf.Strconv.Itoa3
import Derived.Sort.Grow
namespace Go.Proofs.YtenlhfmchhljdaaDoor
open Go.RowKit

theorem bl_drewN (w : World) (n : Nat) : Below w.heap.size w (w.drewN n) := ⟨rfl, rfl, rfl, Nat.le_refl _, fun _ _ => rfl⟩
theorem bl_grow (w : World) (os : Array Obj) : Below w.heap.size w (Go.Sort.grow w os) := ⟨rfl, rfl, rfl, by simp [Go.Sort.grow], fun k hk => by simp [Go.Sort.grow, Array.getElem?_append_left hk]⟩
def trimM (s : List UInt8) : List UInt8 := s.dropWhile (· == 32)
theorem trimL_fn (s : List UInt8) : FnD Tryd.prog 24 [strT s, strT [32]] (strT (trimM s)) := FnD.flat rfl fun w g vs _ hr => by
  cases hr with | cons h1 hr => cases hr with | cons h2 hr => cases hr; cases inv_v h1; cases inv_v h2; exact (Any.strings_TrimLeft_one Tryd.trimL ⟨s.toArray⟩ 32 (by decide) w).mono fun e w' ⟨h1, h2⟩ => by subst h1 h2; exact ⟨rfl, Below.refl _ _⟩
theorem trim_fn (s : List UInt8) (hs : s.length ≤ 9223372036854775807) : FnD Tryd.prog 19 [strT s, strT [32]] (strT (Lib.trimB s 32)) := FnD.flat rfl fun w g vs _ hr => by
  cases hr with | cons h1 hr => cases hr with | cons h2 hr => cases hr; cases inv_v h1; cases inv_v h2; exact (Any.strings_Trim_one Tryd.trim ⟨s.toArray⟩ 32 (by decide) w (by rw [str_size]; exact hs)).mono fun e w' ⟨h1, h2⟩ => by subst h1; rcases h2 with rfl | rfl; exact ⟨rfl, Below.refl _ _⟩; exact ⟨rfl, (Below.refl _ _).drew⟩
theorem indexB_fn (s : List UInt8) (c : UInt8) : FnD Tryd.prog 37 [strT s, u8T c] (intT (Lib.indexByte s c)) := FnD.flat rfl fun w g vs _ hr => by
  cases hr with | cons h1 hr => cases hr with | cons h2 hr => cases hr; cases inv_v h1; cases inv_v h2; exact (Any.strings_IndexByte Tryd.indexB ⟨s.toArray⟩ (c.toNat : Int) w).mono fun e w' ⟨h1, h2⟩ => by subst h1 h2; rw [Int.toNat_natCast, show c.toNat.toUInt8 = c from by simp]; exact ⟨rfl, Below.refl _ _⟩
theorem pow10_tab {w : World} (h : TabsIn w) : Lib.TabIs Tryd.prog w "internal/strconv.uint64pow10" .u64 Lib.pow10Tab := by
  obtain ⟨cs, t, fr, rfl, h1⟩ := h (5, (· = pow10V)) (by unfold tabs; simp)
  unfold Lib.TabIs World.var?
  rw [show Tryd.prog.globalNamed "internal/strconv.uint64pow10" = some 5 from by kernel_rfl]
  simp only [Option.bind_some, h1]
  rfl
theorem itoa_fn (n : Int) (h0 : -9223372036854775808 ≤ n) (h1 : n ≤ 9223372036854775807) : FnD Tryd.prog 36 [intT n] (strT (Lib.itoa n)) := FnD.flatT rfl fun w g vs ht _ hr => by
  cases hr with | cons h2 hr => cases hr; cases inv_v h2; exact (Any.strconv_Itoa Tryd.itoa n h0 h1 w (pow10_tab ht)).mono fun e w' ⟨h1, k, os, h2⟩ => by subst h1 h2; exact ⟨rfl, (bl_drewN w k).trans (bl_grow (w.drewN k) os)⟩
end Go.Proofs.YtenlhfmchhljdaaDoor
