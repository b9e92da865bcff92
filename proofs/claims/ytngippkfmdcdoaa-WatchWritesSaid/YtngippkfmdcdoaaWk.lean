/-
  The walks of check, of, writes and IsAt.
-/
import Derived.Test.YtngippkfmdcdoaaProg
import Derived.Test.YtngippkfmdcdoaaParts
import Derived.WalkKit
import Derived.WalkSpells
import Derived.WalkLawsBesides
import Derived.Deep.QuietTactic
import Derived.BigQuiet
import Derived.Lib.Hide
import Derived.StillTailTactics
import Derived.RegionTactic
import Derived.BigRegion
namespace Go.Proofs.Ytngippkfmdcdoaa
open Go.RowKit

set_option maxHeartbeats 400000 in
theorem check_any (p : Option Addr) (n cap : Nat) (i : Int) (w : World) (hn : n ≤ 9223372036854775807) :
    Calls Try.prog 13 #[.slice p n cap, .int .i64 i] w fun e w' => e = .returned (.int .i64 (chk n i)) ∧ w = w' := by
  go_enter Try.func13, Try.ntmps13
  go_wp2
  all_goals go_ret
  all_goals refine ⟨ret_int ?_, rfl⟩
  all_goals unfold chk
  all_goals (split <;> (try split) <;> omega)

set_option maxHeartbeats 400000 in
theorem of_any (e : Ev) (w : World) :
    Calls Try.prog 14 #[e.val] w fun r w' => r = .returned (.tuple #[.agg #[.int .i64 e.A, .int .i64 e.B], .bool e.isRW]) ∧ Below w.heap.size w w' := by
  obtain ⟨k, s, t, f, a, l, A, B, v1, v2, o1, o2⟩ := e
  unfold Ev.isRW
  dsimp only [Ev.val]
  go_enter Try.func14, Try.ntmps14
  go_wp2
  by_cases h3 : k = 3
  · have d3 : (k == 3) = true := by simpa using h3
    go_region
    go_wp2
    refine bodyPost_ret (v := .tuple #[.agg #[.int .i64 A, .int .i64 B], .bool true]) (by simp [results, Try.f14, go_sem]) rfl ?_
    exact ⟨by simp [h3], by repeat (first | exact Below.refl _ _ | refine Below.drew ?_ | refine Below.alloc ?_ (by simp) _)⟩
  · have d3 : (k == 3) = false := by simpa using h3
    go_region
    all_goals go_wp2
    refine bodyPost_ret (v := .tuple #[.agg #[.int .i64 A, .int .i64 B], .bool (k == 4)]) (by simp [results, Try.f14, go_sem]) rfl ?_
    exact ⟨by simp [d3], by repeat (first | exact Below.refl _ _ | refine Below.drew ?_ | refine Below.alloc ?_ (by simp) _)⟩
end Go.Proofs.Ytngippkfmdcdoaa
