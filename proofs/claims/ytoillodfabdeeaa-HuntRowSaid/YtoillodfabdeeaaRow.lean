/-
  row: a row of versions, each of the one ahead.
-/
import Derived.Test.YtoillodfabdeeaaHunt
import Derived.Test.YtoillodfabdeeaaBools
import Derived.Test.YtoillodfabdeeaaSame
import Derived.Test.YtoillodfabdeeaaHas
namespace Go.Proofs.Ytoillodfabdeeaa
open Go.RowKit Go.Sort

theorem infoD : (Try.prog.info? 51).map (fun i => (i.zero, i.size, i.bytes)) = some (some (.agg #[.slice none 0 0]), 1, 24) := by kernel_rfl
/-- The row of slices at O. -/
abbrev RowD (w : World) (base O : Nat) (ps : List Pt) : Prop := w.ownsRow base 51 1 (.slice (some ⟨O, 0, none⟩) ps.length ps.length) ps.length (pts ps)
theorem pts_set (ps : List Pt) (i : Nat) (x : Pt) : (pts ps).set i x.val = pts (ps.set i x) := by simp [pts, List.map_set]
theorem RowD.set {w : World} {base O : Nat} {ps : List Pt} (h : RowD w base O ps) (i : Nat) (x : Pt) : RowD (w.setCell ⟨O, i, none⟩ x.val) base O (ps.set i x) := by
  have := (World.ownsRow.stored h i x.val).1
  rw [pts_set] at this
  unfold RowD
  rwa [List.length_set]
theorem RowD.cell {w : World} {base O : Nat} {ps : List Pt} (h : RowD w base O ps) {i : Nat} (hi : i < ps.length) : w.cell? ⟨O, i, none⟩ = some (ps.getD i .none).val := (World.ownsRow.cellAt h i (by omega)).trans (pts_get hi)
theorem madeD (n : Nat) : (madeCells (Value.agg #[.slice none 0 0]).cells (n * 1)).toList = pts (List.replicate n .none) := by
  rw [Nat.mul_one, show (Value.agg #[.slice none 0 0]).cells = #[Value.slice none 0 0] from rfl, toList_madeCells_one]
  simp [pts, Pt.val]
theorem ptOk_none (w : World) : PtOk w .none := Sl.zero _ _
theorem getD_set_ne {ps : List Pt} {i j : Nat} {x : Pt} (h : i ≠ j) : (ps.set i x).getD j .none = ps.getD j .none := by
  rw [List.getD_eq_getElem?_getD, List.getElem?_set_ne h, List.getD_eq_getElem?_getD]
theorem getD_set_eq {ps : List Pt} {i : Nat} {x : Pt} (h : i < ps.length) : (ps.set i x).getD i .none = x := by
  rw [List.getD_eq_getElem?_getD, List.getElem?_set_self h]; rfl

/-- What version j comes of. -/
def rowU (j : Nat) : List Int := if j = 0 then [] else [(j : Int) - 1]
structure RowI (w wr : World) (n k : Nat) (ps : List Pt) : Prop where
  len : ps.length = n
  row : RowD wr w.heap.size w.heap.size ps
  each : ∀ j, j < n → PtOk wr (ps.getD j .none)
  far : ∀ j, j < n → ∀ a, (ps.getD j .none).p = some a → a.block ≠ w.heap.size
  done : ∀ j, j < k → (ps.getD j .none).l = rowU j
  bel : Below w.heap.size w wr
theorem RowI.step {w wr : World} {n k : Nat} {ps : List Pt} (h : RowI w wr n k ps) (hk : k < n) (hk0 : k ≠ 0) :
    RowI w ((wr.alloc (.cells #[.int .i64 ((k : Int) - 1)] 3)).setCell ⟨w.heap.size, k, none⟩ (.slice (some ⟨wr.heap.size, 0, none⟩) 1 1)) n (k + 1) (ps.set k ⟨some ⟨wr.heap.size, 0, none⟩, 1, [(k : Int) - 1]⟩) := by
  have hal := (Below.refl wr.heap.size wr).alloc (Nat.le_refl _) (.cells #[.int .i64 ((k : Int) - 1)] 3)
  have hO : w.heap.size < wr.heap.size := (World.ownsRow.lt h.row _ rfl).2
  have hset := grown_set (wr.alloc (.cells #[.int .i64 ((k : Int) - 1)] 3)) w.heap.size k (.slice (some ⟨wr.heap.size, 0, none⟩) 1 1)
  refine ⟨by simp [h.len], ?_, fun j hj => ?_, fun j hj a ha => ?_, fun j hj => ?_, ?_⟩
  · exact RowD.set (own_below h.row hal) k ⟨some ⟨wr.heap.size, 0, none⟩, 1, [(k : Int) - 1]⟩
  · by_cases e : k = j
    · subst e
      rw [getD_set_eq (by rw [h.len]; exact hj)]
      have hl := lit_sl wr [(k : Int) - 1] (by simp) #[.int .i64 ((k : Int) - 1)] rfl _ rfl 1 rfl
      exact Sl.kept hl hset (fun _ a ha => by cases ha; show wr.heap.size ≠ w.heap.size; omega)
    · rw [getD_set_ne e]
      exact Sl.kept (Sl.below (h.each j hj) hal) hset (fun _ a ha => h.far j hj a ha)
  · by_cases e : k = j
    · subst e
      rw [getD_set_eq (by rw [h.len]; exact hj)] at ha
      cases ha
      show wr.heap.size ≠ w.heap.size
      omega
    · rw [getD_set_ne e] at ha
      exact h.far j hj a ha
  · by_cases e : k = j
    · subst e
      rw [getD_set_eq (by rw [h.len]; exact hk)]
      unfold rowU; rw [if_neg hk0]
    · rw [getD_set_ne e]
      exact h.done j (by omega)
  · exact (h.bel.alloc h.bel.size _).setCell (p := ⟨w.heap.size, k, none⟩) (Nat.le_refl _) _

def IsRow (ps : List Pt) (n : Nat) : Prop := ps.length = n ∧ ∀ j, j < n → (ps.getD j .none).l = rowU j

set_option maxRecDepth 100000 in
set_option maxHeartbeats 2000000 in
theorem row_any (w : World) (n : Nat) (hn1 : 1 ≤ n) (hn : n ≤ 200) :
    Calls Try.prog 12 #[.int .i64 n] w fun e w' => ∃ ps, e = .returned (.slice (some ⟨w.heap.size, 0, none⟩) n n) ∧ Deps w' (some ⟨w.heap.size, 0, none⟩) n ps ∧ IsRow ps n ∧ Below w.heap.size w w' := by
  obtain ⟨iD, hiD, dz0, dz1, dz2⟩ := info_parts infoD
  go_enter Try.func12, Try.ntmps12
  go_wp2_with (at_make; refine wpList_make_full _ rfl _ _ 22 rfl w.heap.size 51 iD (.agg #[.slice none 0 0]) 1 Try.underlying22 hiD dz0 dz1 .i64 .i64 _ _ n rfl rfl rfl rfl (by rw [dz2]; omega) (by unfold maxLen; omega) (Nat.le_refl _) ?_; intro w1 hown hg)
  have hI0 : RowI w w1 n 1 (List.replicate n .none) := by
    rw [madeD] at hown
    refine ⟨by simp, by simpa [RowD] using hown, fun j hj => ?_, fun j hj a ha => ?_, fun j hj => ?_, below_of_none hg⟩
    · rw [List.getD_eq_getElem?_getD, List.getElem?_replicate]; split <;> exact ptOk_none _
    · rw [List.getD_eq_getElem?_getD, List.getElem?_replicate] at ha; split at ha <;> cases ha
    · rw [List.getD_eq_getElem?_getD, List.getElem?_replicate]
      obtain rfl : j = 0 := by omega
      split <;> rfl
  clear hown hg
  go_wp2_with fail
  go_loopw [4] (fun s wr => ∃ (k : Nat) (ps : List Pt), 1 ≤ k ∧ k ≤ n ∧ s = .int .i64 (k : Nat) ∧ RowI w wr n k ps) (fun s _ => n - (intOf s).toNat)
  case atStart => exact ⟨1, _, Nat.le_refl _, hn1, rfl, hI0⟩
  case round =>
    clear hI0
    obtain ⟨k, ps, hk1, hk, rfl, hI⟩ := hrel
    by_cases hlt : k < n
    · have hst := hI.step hlt (by omega)
      have hkl : (k : Int) < (n : Int) := by omega
      have hal := (Below.refl wr.heap.size wr).alloc (Nat.le_refl _) (.cells #[.int .i64 ((k : Int) - 1)] 3)
      have hrow := own_below hI.row hal
      have hcc := RowD.cell hrow (i := k) (by rw [hI.len]; exact hlt)
      have hff := World.ownsRow.frozenAt hrow k
      have HS := Lib.hid hst; clear hst hrow hal hI
      generalize ps.getD k .none = x at *
      obtain ⟨xp, xc, xl⟩ := x
      dsimp only [Pt.val] at *
      go_wp2_with fail
      go_roundw
      case rel => exact ⟨k + 1, _, by omega, by omega, by go_num, HS.out⟩
      case measure => simp [intOf]; omega
    · obtain rfl : k = n := by omega
      have hlen := hI.len
      have hD : Deps wr (some ⟨w.heap.size, 0, none⟩) ps.length ps := ⟨Sl.of_own hI.row, fun i hi => hI.each i (by omega)⟩
      have hdone := hI.done
      have hbel := hI.bel
      rw [hlen] at hD
      have HL := Lib.hid hlen; have HDn := Lib.hid hdone; clear hlen hdone hI
      go_wp2_with fail
      go_ret
      exact ⟨ps, rfl, hD, ⟨HL.out, HDn.out⟩, hbel⟩
end Go.Proofs.Ytoillodfabdeeaa
