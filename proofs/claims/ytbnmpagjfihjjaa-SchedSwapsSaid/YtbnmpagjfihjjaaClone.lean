/-
  slices.Clone of numbers.
-/
import Derived.Test.YtbnmpagjfihjjaaInts
namespace Go.Proofs.Ytbnmpagjfihjjaa
open Go.RowKit

set_option maxHeartbeats 400000 in
theorem clone_any {w : World} {p : Option Addr} {cap : Nat} {l : List Int} (hR : SlI w p cap l) (hs : l.length * 8 ≤ 140737488355328) :
    Calls Try.prog 18 #[.slice p l.length cap] w fun e w' => ∃ p' cap', e = .returned (.slice p' l.length cap') ∧ OwnI w' w.heap.size p' cap' l ∧ Below w.heap.size w w' := by
  obtain ⟨i0, hi, hz0, hz1, hz2⟩ := info_parts infoI
  cases p with
  | none =>
    have hc := hR.isNil rfl
    have hl : l = [] := List.eq_nil_of_length_eq_zero (by have := hR.le; omega)
    subst hl hc
    have hn := fun w => Go.run_eql_slice_nil (P := Try.prog) w 22 3 none 0 0 Try.underlying22
    go_enter Try.func18, Try.ntmps18
    go_wp2
    go_ret
    exact ⟨none, 0, rfl, World.ownsRow_nil _ _ _ _, Below.refl _ _⟩
  | some a =>
    have hl := hR.le
    have hb := hR.big
    have hn := fun w => Go.run_eql_slice_nil (P := Try.prog) w 22 3 (some a) l.length cap Try.underlying22
    go_enter Try.func18, Try.ntmps18
    go_wp2_with (at_builtin; refine wpList_append_sl _ rfl _ _ 22 rfl w.heap.size 3 i0 (.int .i64 0) 1 8 Try.underlying22 hi hz0 hz1 hz2 rfl (by decide) _ 0 [] rfl (World.ownsRow_lit (n := 0) w #[] (Nat.le_refl _) (Nat.zero_le _) rfl) _ l.length cap _ rfl (hR.below ((Below.refl _ _).alloc (Nat.le_refl _) _)) ints_one (by omega) (by omega) (by simp) ?_; intro p' c' w1 hown hbel)
    go_ret
    simp only [Nat.zero_add, List.nil_append] at hown ⊢
    exact ⟨_, _, rfl, hown, ((Below.refl _ _).alloc (Nat.le_refl _) _).trans hbel⟩

end Go.Proofs.Ytbnmpagjfihjjaa
