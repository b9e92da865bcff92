/-
  New.
-/
import Derived.Test.YtcnppcddpcpeoaaSt
import Derived.Test.YtcnppcddpcpeoaaRep
namespace Go.Proofs.Ytcnppcddpcpeoaa
open Go.RowKit

def newC : DsC := ⟨[], [], [List.replicate 16 (-1)]⟩
set_option maxHeartbeats 1000000 in
theorem new_any (W : World) : Calls Try.prog 13 #[] W fun e W' => ∃ x : Ds, e = .returned x.val ∧ x.c = newC ∧ x.ok W' ∧ Below W.heap.size W W' := by
  have hb0 := (Below.refl W.heap.size W).alloc (Nat.le_refl _) (.cells #[.slice none 0 0, .slice none 0 0, .slice none 0 0] 26)
  have hb1 := hb0.alloc hb0.size (.cells #[.int .i64 (-1)] 3)
  have hlit := lit_sl (W.alloc (.cells #[.slice none 0 0, .slice none 0 0, .slice none 0 0] 26)) [-1] (by simp) #[.int .i64 (-1)] rfl (W.heap.size + 1) (by simp) 1 rfl
  have hcall := repeat_any hlit (n := 16) (by decide) (by decide)
  have hA := ((Blk.mk2 W #[.slice none 0 0, .slice none 0 0, .slice none 0 0] 26).alloc (.cells #[.int .i64 (-1)] 3))
  generalize hw1 : (W.alloc (.cells #[.slice none 0 0, .slice none 0 0, .slice none 0 0] 26)).alloc (.cells #[.int .i64 (-1)] 3) = w1 at *
  have HC := Lib.hid hcall; have HW1 := Lib.hid hw1; clear hcall hlit hw1
  generalize hbn : W.heap.size = S at *
  go_enter Try.func13, Try.ntmps13
  go_wp2_with fail
  rw [HW1.out]
  refine HC.out.mono ?_
  rintro _ w2 ⟨rfl, hown, hb⟩
  have hb2 := hb1.trans (hb.mono (hbn ▸ hb1.size))
  have hA2 := hA.next hb
  clear hb hb1 hA hb0 HC
  generalize w1.heap.size = U at *
  have C0 : ∀ o, (w2.alloc o).cell? ⟨S, 0, none⟩ = some (.slice none 0 0) := fun o => (hA2.alloc o).cell 0
  have F0 := fun o => (hA2.alloc o).frozen 0
  have C1 : ∀ o, (w2.alloc o).cell? ⟨S, 1, none⟩ = some (.slice none 0 0) := fun o => (hA2.alloc o).cell 1
  have F1 := fun o => (hA2.alloc o).frozen 1
  have C2 : ∀ o, (w2.alloc o).cell? ⟨S, 2, none⟩ = some (.slice none 0 0) := fun o => (hA2.alloc o).cell 2
  have F2 := fun o => (hA2.alloc o).frozen 2
  go_wp2_with fail
  have hS := hA2.lt
  have hrow : Sl (w2.alloc (.cells #[.slice (some ⟨U, 0, none⟩) 16 16] 23)) 1 (some ⟨w2.heap.size, 0, none⟩) 1 1 [.slice (some ⟨U, 0, none⟩) 16 16] := ⟨new_row w2 _ _ _, rfl, Nat.le_refl _, by decide, fun h => by cases h⟩
  have hrow2 := ((hrow.kept (grown_set _ S 0 (.slice none 0 0)) (fun _ a ha => by cases ha; show w2.heap.size ≠ S; omega)).kept (grown_set _ S 1 (.slice none 0 0)) (fun _ a ha => by cases ha; show w2.heap.size ≠ S; omega)).kept (grown_set _ S 2 (.slice (some ⟨w2.heap.size, 0, none⟩) 1 1)) (fun _ a ha => by cases ha; show w2.heap.size ≠ S; omega)
  have hpart := Sl.of_own (own_below hown ((Below.refl _ _).alloc (Nat.le_refl _) (.cells #[.slice (some ⟨U, 0, none⟩) 16 16] 23)))
  have hUS : U ≠ S := fun e => by
    subst e
    rcases hown.2 with ⟨hv, _⟩ | ⟨g, cap, cur, hv, hb, hgg, -⟩
    · cases hv
    · cases hv
      have h3 : w2.heap[U]? = _ := hA2
      rw [hgg] at h3
      cases h3
  have hpart2 := ((hpart.kept (grown_set _ S 0 (.slice none 0 0)) (fun _ a ha => by cases ha; exact hUS)).kept (grown_set _ S 1 (.slice none 0 0)) (fun _ a ha => by cases ha; exact hUS)).kept (grown_set _ S 2 (.slice (some ⟨w2.heap.size, 0, none⟩) 1 1)) (fun _ a ha => by cases ha; exact hUS)
  have hA3 := (((hA2.alloc (.cells #[.slice (some ⟨U, 0, none⟩) 16 16] 23)).set 0 (.slice none 0 0)).set 1 (.slice none 0 0)).set 2 (.slice (some ⟨w2.heap.size, 0, none⟩) 1 1)
  have hb3 := (((hb2.alloc (hbn ▸ hb2.size) (.cells #[.slice (some ⟨U, 0, none⟩) 16 16] 23)).setCell (p := ⟨S, 0, none⟩) (Nat.le_refl _) (.slice none 0 0)).setCell (p := ⟨S, 1, none⟩) (Nat.le_refl _) (.slice none 0 0)).setCell (p := ⟨S, 2, none⟩) (Nat.le_refl _) (.slice (some ⟨w2.heap.size, 0, none⟩) 1 1)
  generalize ((((w2.alloc (.cells #[.slice (some ⟨U, 0, none⟩) 16 16] 23)).setCell ⟨S, 0, none⟩ (.slice none 0 0)).setCell ⟨S, 1, none⟩ (.slice none 0 0)).setCell ⟨S, 2, none⟩ (.slice (some ⟨w2.heap.size, 0, none⟩) 1 1)) = w5 at *
  generalize w2.heap.size = R at *
  have D0 : w5.cell? ⟨S, 0, none⟩ = some (.slice none 0 0) := hA3.cell 0
  have D1 : w5.cell? ⟨S, 1, none⟩ = some (.slice none 0 0) := hA3.cell 1
  have D2 : w5.cell? ⟨S, 2, none⟩ = some (.slice (some ⟨R, 0, none⟩) 1 1) := hA3.cell 2
  refine bodyPost_ret (v := Ds.val ⟨Sv.none, Sv.none, ⟨some ⟨R, 0, none⟩, 1, [⟨some ⟨U, 0, none⟩, 16, List.replicate 16 (-1)⟩]⟩⟩) (by simp [results, Try.results13, go_sem, D0, D1, D2, Ds.val, Sv.val]) rfl ⟨_, rfl, rfl, ⟨Rd.zero _, Sl.zero _ _, hrow2, fun x hx => ?_⟩, hb3⟩
  obtain rfl := List.mem_singleton.1 hx
  exact hpart2
end Go.Proofs.Ytcnppcddpcpeoaa
