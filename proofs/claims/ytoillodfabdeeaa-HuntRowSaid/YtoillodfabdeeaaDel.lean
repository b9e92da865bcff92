/-
  clear of the rest of a row of the call's own; slices.DeleteFunc of numbers of the call's own.
-/
import Derived.Test.YtoillodfabdeeaaFnI
import Derived.Test.YtoillodfabdeeaaCut
namespace Go.Proofs.Ytoillodfabdeeaa
open Go.RowKit

section
variable {P : Program} {w : World}
theorem run_clear_own {base : Nat} {t e ty : TypeId} {z : Value} {g n cap i : Nat} {xs : List Value} (ht : P.underlying t = some (.slice e)) (hz : ∀ w, (zeroValue e).run P w = .ok z w) (hz1 : z.cells = #[z]) (ho : z.oneCell' = true)
    (h : w.ownsRow base e 1 (.slice (some ⟨g, 0, none⟩) n cap) n xs) (hi : i ≤ n) :
    ∃ w', (∀ q, (i < n → q = some ⟨g, i, none⟩) → ∀ c, (Builtin.clear_ #[t] ty #[.slice q (n - i) c]).run P w = .ok (.tuple #[]) w') ∧ w'.ownsRow base e 1 (.slice (some ⟨g, 0, none⟩) i cap) i (xs.take i) ∧ w.grownBy w' (some g) := by
  rcases h.2 with ⟨h', _⟩ | ⟨g', cap', cur, h', hb, hg, hnc, hcm, hcs, htake⟩
  · simp at h'
  · simp only [Value.slice.injEq, Option.some.injEq, Addr.mk.injEq, and_true, true_and] at h'
    obtain ⟨rfl, rfl⟩ := h'
    have hxl := h.1
    have hti : (xs.take i).length = i * 1 := by simp; omega
    rcases Nat.lt_or_ge i n with hlt | hge
    · refine ⟨w.setRow g (cur.toList.take (i + 0) ++ (Builtin.zeroCells #[z] (n - i)).toList ++ cur.toList.drop (i + 0 + (Builtin.zeroCells #[z] (n - i)).toList.length)).toArray, ?_, ⟨hti, .inr ⟨g, cap, _, rfl, hb, setRow_heap w g cur _ e _ hg, by omega, hcm, ?_, ?_⟩⟩, ⟨rfl, rfl, rfl, by simp, fun k _ hk => setRow_other w g k _ (fun e => hk (by rw [e]))⟩⟩
      · intro q hq c
        rw [hq hlt]
        have hn0 : n - i ≠ 0 := by omega
        have hall : ∀ v ∈ (Builtin.zeroCells #[z] (n - i)).toList, v.oneCell' = true := by
          intro v hv
          simp [Builtin.zeroCells] at hv
          obtain ⟨a, ha, rfl⟩ := hv
          simp [Nat.mod_one]
          exact ho
        have hst := run_storeCells_at (P := P) g i e (Builtin.zeroCells #[z] (n - i)).toList 0 cur w hg (by simp [size_zeroCells]; omega) hall
        obtain ⟨m, hm⟩ : ∃ m, n - i = m + 1 := ⟨n - i - 1, by omega⟩
        rw [hm] at hst ⊢
        simp only [Builtin.clear_]
        simp [run_underlying ht, hz, hz1, hst]
      · simp [size_zeroCells]; omega
      · have hcl : i ≤ cur.toList.length := by rw [Array.length_toList, hcs]; omega
        rw [List.toList_toArray, Nat.mul_one, Nat.add_zero, List.append_assoc, List.take_append_of_le_length (by rw [List.length_take]; omega), List.take_take, Nat.min_self, ← htake, List.take_take, Nat.min_eq_left (by omega)]
    · obtain rfl : i = n := by omega
      refine ⟨w, ?_, ⟨hti, .inr ⟨g, cap, cur, rfl, hb, hg, hnc, hcm, hcs, ?_⟩⟩, World.grownBy.refl _ _⟩
      · intro q _ c
        rw [Nat.sub_self]
        cases q <;> simp [Builtin.clear_, run_underlying ht]
      · rw [htake, List.take_of_length_le (by omega)]

theorem wpList_clear_own {ops : Array Oper} {rest : List Oper} {o : Oper} {a : Act} {Q : Exit → Act → World → Prop} (hg : o.guard = none) (x : Operand) (t : TypeId)
    (hop : o.op = Op.call { callee := .builtin .clear, args := #[x], argTypes := #[t] }) (v : Value) (w' : World) (hx : a.eval x = v) (hrun : (Builtin.clear_ #[t] o.type #[v]).run P w = .ok (.tuple #[]) w')
    (h : wpList P ops Q rest (a.put o.dst (.tuple #[])) w') : wpList P ops Q (o :: rest) a w := by
  refine wpList_plain hg fun K hK => ?_
  unfold Oper.wp execOp
  simp only [hop, resolve, invoke, builtin, Sem.run_bind, Sem.run_pure, Result.andThen_ok, List.map_toArray, List.map_cons, List.map_nil, hx, hrun]
  exact hK _ _ h
end

/-- Which stay. -/
def keptL (p : Int → Bool) (l : List Int) : List Int := l.filter fun x => !p x
theorem keptL_snoc (p : Int → Bool) (l : List Int) (x : Int) : keptL p (l ++ [x]) = if p x then keptL p l else keptL p l ++ [x] := by
  unfold keptL
  rw [List.filter_append, List.filter_cons, List.filter_nil]
  cases p x <;> simp
theorem keptL_all {p : Int → Bool} {l : List Int} (h : ∀ x ∈ l, p x = false) : keptL p l = l := List.filter_eq_self.2 fun x hx => by rw [h x hx]; rfl
theorem take_snocI {l : List Int} {k : Nat} (h : k < l.length) : l.take (k + 1) = l.take k ++ [l.getD k 0] := by
  rw [List.take_add_one, List.getElem?_eq_getElem h]; simp [h]
end Go.Proofs.Ytoillodfabdeeaa
