import Derived.Test.YtngippkfmdcdoaaWk

namespace Go.Proofs.Ytngippkfmdcdoaa
open Go.RowKit
set_option maxHeartbeats 400000 in
theorem writes_any (c p : Int) (e : Ev) (w : World) :
    Calls Try.prog 16 #[.agg #[.int .i64 c, .int .i64 p], e.val] w fun r w' => r = .returned (.bool (e.wr c p)) ∧ Below w.heap.size w w' := by
  obtain ⟨k, s, t, f, a, l, A, B, v1, v2, o1, o2⟩ := e
  unfold Ev.wr Ev.inSlot
  dsimp only [Ev.val]
  go_enter Try.func16, Try.ntmps16
  go_wp2_with fail
  refine (of_any ⟨k, s, t, f, a, l, A, B, v1, v2, o1, o2⟩ _).mono ?_
  rintro _ w1 ⟨rfl, hb⟩
  have c0 : w1.cell? ⟨w.heap.size, 0, none⟩ = some (.int .i64 c) := (hb.cell (p := ⟨_, _, none⟩) (by simp; omega)).trans (cell_more _ (new_cell w #[.int .i64 c, .int .i64 p] 45 _ 0))
  have c1 : w1.cell? ⟨w.heap.size, 1, none⟩ = some (.int .i64 p) := (hb.cell (p := ⟨_, _, none⟩) (by simp; omega)).trans (cell_more _ (new_cell w #[.int .i64 c, .int .i64 p] 45 _ 1))
  have c2 : w1.cell? ⟨w.heap.size + 1, 0, none⟩ = some (.int .i64 k) := (hb.cell (p := ⟨_, _, none⟩) (by simp)).trans (by have := new_cell (w.alloc (.cells #[.int .i64 c, .int .i64 p] 45)) #[.int .i64 k, .int .i64 s, .int .i64 t, .int .i64 f, .int .i64 a, .int .i64 l, .int .i64 A, .int .i64 B, .int .i64 v1, .int .i64 v2, .int .i64 o1, .int .i64 o2] 33 (0, 0) 0; rw [World.size_alloc] at this; exact this)
  have a0 := fun o => cell_more o c0
  have a1 := fun o => cell_more o c1
  have a2 := fun o => cell_more o c2
  replace hb : Below w.heap.size w w1 := (((Below.refl _ w).alloc (Nat.le_refl _) _).alloc (by simp) _).trans (hb.mono (by simp; omega))
  unfold Ev.isRW
  dsimp only
  have hb2 := hb.size
  go_wp2
  all_goals go_ret
  all_goals refine ⟨ret_bool ?_, by first | exact hb | exact hb.alloc hb2 _⟩
  all_goals unfold Ev.isRW
  all_goals simp_all
set_option maxHeartbeats 400000 in
theorem isAt_any (how c p : Int) (e : Ev) (w : World) :
    Calls Try.prog 10 #[e.val, .int .i64 how, .int .i64 c, .int .i64 p] w fun r w' => r = .returned (.bool (e.k == how && (e.A == c && e.B == p))) ∧ Below w.heap.size w w' := by
  obtain ⟨k, s, t, f, a, l, A, B, v1, v2, o1, o2⟩ := e
  dsimp only [Ev.val]
  go_enter Try.func10, Try.ntmps10
  go_wp2
  all_goals go_ret
  all_goals refine ⟨ret_bool ?_, by repeat (first | exact Below.refl _ _ | refine Below.drew ?_ | refine Below.alloc ?_ (by simp) _)⟩
  all_goals simp_all
end Go.Proofs.Ytngippkfmdcdoaa
