/-
  Two runs compared.
-/
import Derived.Test.YtbnmpagjfihjjaaProg
import Derived.Test.YtbnmpagjfihjjaaDr
import Derived.ChangeKeysEq
namespace Go.Proofs.Ytbnmpagjfihjjaa
open Go.RowKit

section
variable {P : Program} (w : World)
theorem eqFields_of (d : Nat) (xs ys : Array Value) : ∀ (fs : List Field) (ks : List (TypeId × Nat × Bool)), fs.map (fun f => (f.name != "_", f.type, f.offset)) = ks.map (fun k => (true, k.1, k.2.1)) →
    (∀ k ∈ ks, ∃ a b, (part k.1 xs k.2.1).run P w = .ok a w ∧ (part k.1 ys k.2.1).run P w = .ok b w ∧ (Op.equalIn d k.1 a b).run P w = .ok k.2.2 w) → (Op.eqFields d xs ys fs).run P w = .ok (ks.all (·.2.2)) w
  | [], [], _, _ => by simp [Op.eqFields]
  | [], _ :: _, h, _ => by simp at h
  | _ :: _, [], h, _ => by simp at h
  | f :: fs, (t, o, r) :: ks, h, H => by
    simp only [List.map_cons, List.cons.injEq, Prod.mk.injEq] at h
    obtain ⟨⟨h1, rfl, rfl⟩, h2⟩ := h
    have hn : f.name ≠ "_" := by simpa using h1
    obtain ⟨a, b, e1, e2, e3⟩ := H _ List.mem_cons_self
    simp only [Op.eqFields, if_pos hn, Sem.run_bind]
    dsimp only at e1 e2 e3
    rw [e1]
    simp only [Result.andThen_ok]
    rw [e2]
    simp only [Result.andThen_ok]
    rw [e3]
    simp only [Result.andThen_ok]
    cases r with
    | true =>
      rw [if_neg (by simp), eqFields_of d xs ys fs ks h2 fun k hk => H k (List.mem_cons_of_mem _ hk)]
      simp
    | false => simp
end

theorem part_int (xs : Array Value) (o : Nat) (a : Int) (w : World) (h : xs[o]? = some (.int .i64 a)) : (part 3 xs o).run Try.prog w = .ok (.int .i64 a) w := run_part_plain w (by kernel_rfl) h
theorem eq_int (d : Nat) (w : World) (a b : Int) : (Op.equalIn (d + 1) 3 (.int .i64 a) (.int .i64 b)).run Try.prog w = .ok (a == b) w := run_equalIn_int w d 3 .i64 .i64 a b Try.underlying3
theorem uD : Try.prog.underlying 45 = some (.struct (Try.prog.fieldsOf 45)) := by kernel_rfl
theorem run_eqIn_dr (w : World) (x y : Dr) : (Op.equalIn 10000 45 x.val y.val).run Try.prog w = .ok (decide (x = y)) w := by
  obtain ⟨a, b⟩ := x
  obtain ⟨a', b'⟩ := y
  rw [show (10000 : Nat) = 9999 + 1 from rfl, run_equalIn_struct w 9999 45 _ _ uD (by kernel_rfl),
    eqFields_of w 9999 _ _ _ [(3, 0, a == a'), (3, 1, b == b')] (by kernel_rfl) fun k hk => ?_]
  · congr 1
    rw [Bool.eq_iff_iff]
    simp
  · simp only [List.mem_cons, List.not_mem_nil, or_false] at hk
    rcases hk with rfl | rfl
    · exact ⟨_, _, part_int _ _ _ w rfl, part_int _ _ _ w rfl, eq_int _ w _ _⟩
    · exact ⟨_, _, part_int _ _ _ w rfl, part_int _ _ _ w rfl, eq_int _ w _ _⟩
end Go.Proofs.Ytbnmpagjfihjjaa
