/-
  thread; a map of numbers as a function; Contains.
-/
import Derived.Test.YtfcimbhjoioinaaRingL
import Derived.Test.YtfcimbhjoioinaaMap
import Derived.Test.YtfcimbhjoioinaaIdx
namespace Go.Proofs.Ytfcimbhjoioinaa
open Go.RowKit
open Go.Maps (Keyed)

theorem thread_any (n : Int) (w : World) : Calls Try.prog 12 #[.int .i64 n] w fun e w' => e = .returned (.bool (thrB n)) ∧ w' = w := by
  unfold thrB
  by_cases h1 : 0 ≤ n
  · by_cases h2 : n < 8
    · rw [decide_eq_true h1, decide_eq_true h2]
      go_enter Try.func12, Try.ntmps12
      go_wp2
      go_ret
      exact ⟨rfl, rfl⟩
    · rw [decide_eq_true h1, decide_eq_false h2]
      go_enter Try.func12, Try.ntmps12
      go_wp2
      go_ret
      exact ⟨rfl, rfl⟩
  · rw [decide_eq_false h1]
    go_enter Try.func12, Try.ntmps12
    go_wp2
    go_ret
    exact ⟨rfl, rfl⟩
theorem keyedI : Keyed Try.prog 3 := Go.Maps.int_keyed Try.underlying3
theorem keyI {x : Int} (h : (Lit.int .i64 x).wf = true) : ∃ kl, keyOf Try.prog 3 (.int .i64 x) = some kl := ⟨_, Go.Maps.keyOf_int_mk Try.underlying3 h⟩
theorem wf_thr {x : Int} (h : thrB x = true) : (Lit.int .i64 x).wf = true := by
  unfold thrB at h
  simp only [Bool.and_eq_true, decide_eq_true_eq] at h
  have e : IntKind.i64.min = -9223372036854775808 := by decide
  simp [Lit.wf, e]
  omega
/-- A map from numbers to numbers that a call has made, as a function. -/
def NmIs (w : World) (b n : Nat) (N : Int → Option Int) : Prop := ∃ G, MapIs Try.prog w 3 b n G ∧ ∀ x, G (.int .i64 x) = (N x).map (Value.int .i64)
theorem NmIs.below {w w' : World} {b n : Nat} {N : Int → Option Int} (h : NmIs w b n N) {B : Nat} (hw : Below B w w') (hb : b < B) : NmIs w' b n N := by
  obtain ⟨G, h1, h2⟩ := h
  exact ⟨G, h1.below hw hb, h2⟩
theorem NmIs.lt {w : World} {b n : Nat} {N : Int → Option Int} (h : NmIs w b n N) : b < w.heap.size := by obtain ⟨G, h1, -⟩ := h; exact h1.lt
theorem nmIs_made (w : World) : NmIs (w.alloc (.map #[] 0)) w.heap.size 0 (fun _ => none) := ⟨_, mapIs_made w Try.prog 3, fun _ => rfl⟩
theorem NmIs.look {w : World} {b n : Nat} {N : Int → Option Int} (h : NmIs w b n N) {x : Int} (hx : (Lit.int .i64 x).wf = true) : (Instr.lookup 45 (.map (some b)) (.int .i64 x) true).run Try.prog w = .ok (.tuple #[.int .i64 ((N x).getD 0), .bool (N x).isSome]) w := by
  obtain ⟨G, h1, h2⟩ := h
  obtain ⟨kl, hk⟩ := keyI hx
  have := h1.look true keyedI Try.underlying45 (Try.zeroValue3 w) hk
  rw [this, h2]
  cases N x <;> rfl
def putN (N : Int → Option Int) (x v : Int) : Int → Option Int := fun y => if y = x then some v else N y
theorem NmIs.put {b n : Nat} {N : Int → Option Int} {G : Value → Option Value} (h2 : ∀ x, G (.int .i64 x) = (N x).map (Value.int .i64)) {x v : Int} {w' : World} (h : MapIs Try.prog w' 3 b (n + 1) (putG G (.int .i64 x) (.int .i64 v))) : NmIs w' b (n + 1) (putN N x v) := by
  refine ⟨_, h, fun y => ?_⟩
  unfold putN
  by_cases hy : y = x
  · subst hy; rw [putG_same, if_pos rfl]; rfl
  · rw [putG_other _ _ (fun e => hy (by simpa using e)), if_neg hy, h2]
theorem nx_snoc {l : List Dw} {w : Dw} (h : nx l w.t = none) : nx (l ++ [w]) = putN (nx l) w.t w.f := by
  funext y
  unfold putN nx at *
  rw [List.find?_append]
  by_cases hy : y = w.t
  · subst hy
    rw [if_pos rfl]
    rw [Option.map_eq_none_iff] at h
    rw [h]
    simp
  · rw [if_neg hy]
    cases hf : l.find? (fun w => w.t == y) with
    | some v => simp
    | none => simp; intro e; exact absurd e.symm hy
theorem nx_none {l : List Dw} {t : Int} : nx l t = none ↔ (l.any fun w => w.t == t) = false := by
  unfold nx
  rw [Option.map_eq_none_iff, List.find?_eq_none, List.any_eq_false]
end Go.Proofs.Ytfcimbhjoioinaa
