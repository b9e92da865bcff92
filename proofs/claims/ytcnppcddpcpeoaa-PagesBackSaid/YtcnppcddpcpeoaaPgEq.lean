/-
  Two pages compared.
-/
import Derived.Test.YtcnppcddpcpeoaaSt
import Derived.ChangeKeysEq
namespace Go.Proofs.Ytcnppcddpcpeoaa
open Go.RowKit

theorem eqItems_run (w : World) (xs ys : Array Value) : ∀ (l : List (Nat × Int × Int)), (∀ e ∈ l, xs[e.1]? = some (.int .i64 e.2.1) ∧ ys[e.1]? = some (.int .i64 e.2.2)) →
    (Op.eqItems (9998 + 1) 3 1 xs ys (l.map (·.1))).run Try.prog w = .ok (l.all fun e => e.2.1 == e.2.2) w := by
  have hp : Try.prog.plainKey 3 = true := by kernel_rfl
  intro l
  induction l with
  | nil => intro _; simp [Op.eqItems]
  | cons e l ih =>
    intro h
    obtain ⟨h1, h2⟩ := h e (by simp)
    obtain ⟨i, x, y⟩ := e
    dsimp only at h1 h2
    simp only [List.map_cons, Op.eqItems, Nat.mul_one, Sem.run_bind]
    rw [run_part_plain w hp h1]
    simp only [Result.andThen_ok]
    rw [run_part_plain w hp h2]
    simp only [Result.andThen_ok]
    rw [run_equalIn_int w 9998 3 .i64 .i64 x y Try.underlying3]
    simp only [Result.andThen_ok]
    cases hxy : (x == y) with
    | true =>
      have ih' := ih fun e he => h e (by simp [he])
      rw [if_neg (by simp), ih']
      simp [hxy]
    | false => simp [hxy]
theorem run_eqIn_page (w : World) (p q : Pg) : (Op.equalIn 10000 38 p.val q.val).run Try.prog w = .ok (decide (p = q)) w := by
  obtain ⟨a, b, c, d⟩ := p
  obtain ⟨a', b', c', d'⟩ := q
  have hc : Try.prog.cellsOf 3 = 1 := by kernel_rfl
  obtain ⟨i, hi⟩ : ∃ i, Try.prog.info? 3 = some i := by
    cases h : Try.prog.info? 3 with
    | none => exact absurd (show (Try.prog.info? 3).isSome = true by kernel_rfl) (by rw [h]; simp)
    | some i => exact ⟨i, rfl⟩
  rw [show (10000 : Nat) = (9998 + 1) + 1 from rfl, run_equalIn_array w (9998 + 1) _ _ Try.underlying38 hi, hc]
  have h4 : List.range 4 = ([(0, a, a'), (1, b, b'), (2, c, c'), (3, d, d')] : List (Nat × Int × Int)).map (·.1) := rfl
  rw [h4, eqItems_run]
  · congr 1
    rw [Bool.eq_iff_iff]; simp
  · simp
theorem run_eql_page (w : World) (p q : Pg) : (binOp .eql 38 p.val q.val).run Try.prog w = .ok (.bool (decide (p = q))) w := by
  rw [run_eql_struct, run_eqIn_page]; rfl
theorem run_neq_page (w : World) (p q : Pg) : (binOp .neq 38 p.val q.val).run Try.prog w = .ok (.bool (!decide (p = q))) w := by
  rw [run_neq_struct, run_eqIn_page]; rfl
end Go.Proofs.Ytcnppcddpcpeoaa
