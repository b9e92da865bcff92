/-
  Arguments opened, to any depth.
-/
import Derived.Test.YtenlhfmchhljdaaDoorGj
import Derived.ProofKit
import Derived.OpenShut
import Derived.ChangeOld
import Derived.ChangeSame
import Derived.Below
import Derived.Deep.Slices
import Derived.Deep.Fields
namespace Go.Proofs.YtenlhfmchhljdaaDoor
open Go.ChangeShapes Go.WideShapes Go.ChangeAt Go.RowKit Go.Deep

section
variable {H : Type} {enc : TypeId × Value → H} {P : Program} {w : World} {base : Nat} {spare : Nat → Bool} {held : Bool}
/-- What one of type E reads as. -/
def Opn (enc : TypeId × Value → H) (P : Program) (w : World) (base : Nat) (spare : Nat → Bool) (held : Bool) {α : Type} (E : TypeId) (f : α → D) (ok : α → Prop) : Prop :=
  ∀ (fuel : Nat) (cs : List Value) (x : DataW H × List MemPlace), DataW.trod enc P w base spare held fuel E cs = some x → ∃ a : α, ok a ∧ RepDs (allS w) (f a).lv cs
theorem Opn.int {t : TypeId} {k : IntKind} (ht : P.underlying t = some (.int k)) : Opn enc P w base spare held t (fun a : Int => D.v (.int k a)) (fun a => (Lit.int k a).wf = true) := by
  intro fuel cs x hf
  obtain ⟨n, rfl, -, hw⟩ := DataW.trod_int ht hf
  exact ⟨n, hw, .cons (.v rfl) rfl .nil⟩
theorem Opn.str {t : TypeId} (ht : P.underlying t = some .string) : Opn enc P w base spare held t strD (fun l => l.length ≤ maxLen) := by
  intro fuel cs x hf
  obtain ⟨s, rfl, -, hw⟩ := DataW.trod_string ht hf
  exact ⟨s.data.toList, hw, .cons (.v rfl) rfl .nil⟩
theorem Opn.sl {α : Type} {E T : TypeId} {k : Nat} {f : α → D} {ok : α → Prop} (ht : P.underlying T = some (.slice E)) (hE : P.cellsOf E = k) (hk0 : 0 < k) (hO : Opn enc P w base spare held E f ok) :
    Opn enc P w base spare held T (fun l : List α => .sl k (l.map f)) (fun l => ∀ x ∈ l, ok x) := by
  intro fuel cs x hf
  rcases open_slice ht hf with ⟨rfl, -⟩ | ⟨a, len, cap, m, n, D, Pl, rfl, -, hl, hm, hmm, -, hall⟩
  · exact ⟨[], fun _ h => by simp at h, .cons (.sl .nil (RowS.nil _ _) (Nat.le_refl _) (by decide) fun _ => rfl) rfl .nil⟩
  · rw [hE] at hall
    have hlm : len ≤ m := by rw [hmm]; split <;> omega
    have key : ∀ i, i ≤ len → ∃ (l : List α) (xs : List Value), l.length = i ∧ xs.length = i * k ∧ (∀ x ∈ l, ok x) ∧ RepLv (allS w) k (l.map f) xs ∧ ∀ j, j < i * k → w.cell? (a.add j) = xs[j]? := by
      intro i
      induction i with
      | zero => intro _; exact ⟨[], [], rfl, by simp, fun _ h => (by simp at h), .nil, fun j h => by omega⟩
      | succ i ih =>
        intro hi
        obtain ⟨l, xs, h1, h2, h3, h4, h5⟩ := ih (by omega)
        obtain ⟨cs', hc, htr⟩ := hall i (by omega)
        obtain ⟨b, hb, hr⟩ := hO _ _ _ htr
        obtain ⟨-, hlen, hat⟩ := World.cells?_some hc
        refine ⟨l ++ [b], xs ++ cs', by simp [h1], by rw [List.length_append, h2, hlen, Nat.succ_mul], fun x hx => ?_, ?_, fun j hj => ?_⟩
        · rcases List.mem_append.1 hx with hx | hx
          · exact h3 x hx
          · obtain rfl := List.mem_singleton.1 hx; exact hb
        · rw [List.map_append, List.map_cons, List.map_nil]
          refine RepLv.app h4 ?_
          have := RepLv.cons hr hlen (RepLv.nil (S := allS w) (k := k))
          rwa [List.append_nil] at this
        · by_cases hji : j < i * k
          · rw [List.getElem?_append_left (by omega)]; exact h5 j hji
          · rw [Nat.succ_mul] at hj
            have := hat (j - i * k) (by omega)
            rw [Go.Deep.add_add, show i * k + (j - i * k) = j from by omega] at this
            rw [List.getElem?_append_right (by omega), h2]
            exact this
    obtain ⟨l, xs, rfl, h2, h3, h4, h5⟩ := key len (Nat.le_refl _)
    have hml : (l.map f).length = l.length := List.length_map ..
    refine ⟨l, h3, .cons (hml ▸ .sl h4 ?_ (by rw [hml]; exact hl) (by unfold maxLen at hm; exact hm) fun h => by cases h) rfl .nil⟩
    by_cases h0 : 0 < l.length
    · obtain ⟨b, off, spot⟩ := a
      have hx0 : 0 < xs.length := by rw [h2]; exact Nat.mul_pos h0 hk0
      have h1 := h5 0 (by omega)
      rw [List.getElem?_eq_getElem hx0] at h1
      have hs : spot = none := by simpa [Addr.add] using World.cell?_spot h1
      subst hs
      refine ⟨b, off, fun _ => rfl, fun i hi => ?_⟩
      have := h5 i (by omega)
      rw [add_lit'] at this
      exact this
    · obtain rfl : xs = [] := List.eq_nil_of_length_eq_zero (by rw [h2]; simp at h0; simp [h0])
      exact RowS.nil _ _
theorem Opn.two {α β : Type} {t : TypeId} {f0 f1 : Field} {c0 c1 : Nat} {f : α → D} {g : β → D} {ok : α → Prop} {ok' : β → Prop} (ht : P.underlying t = some (.struct #[f0, f1])) (hc : P.cellsOf t = c0 + c1) (hc0 : P.cellsOf f0.type = c0) (hc1 : P.cellsOf f1.type = c1)
    (ho0 : f0.offset = 0) (ho1 : f1.offset = c0) (h0 : Opn enc P w base spare held f0.type f ok) (h1 : Opn enc P w base spare held f1.type g ok') :
    Opn enc P w base spare held t (fun p : α × β => .agg ((f p.1).lv ++ (g p.2).lv)) (fun p => ok p.1 ∧ ok' p.2) := by
  intro fuel cs x hf
  obtain ⟨y0, y1, n, -, hl, e0, e1⟩ := trod_struct2 ht hf
  rw [ho0, hc0, List.drop_zero] at e0
  rw [ho1, hc1] at e1
  obtain ⟨a, ha, ra⟩ := h0 _ _ _ e0
  obtain ⟨b, hb, rb⟩ := h1 _ _ _ e1
  refine ⟨(a, b), ⟨ha, hb⟩, ?_⟩
  have e : cs = cs.take c0 ++ (cs.drop c0).take c1 := by
    rw [List.take_of_length_le (l := cs.drop c0) (by simp; omega), List.take_append_drop]
  rw [e]
  exact ra.app rb
theorem open_arg {α : Type} {T E : TypeId} {f : α → D} {ok : α → Prop} {r : Reach} {b0 : Nat} {v : Value} {d : DataW H} {ps : List MemPlace} (ht : P.underlying T = some (.slice E)) (hO : Opn enc P w base spare held T f ok) (hf : ∀ a, (f a).lv = [f a])
    (hv : Value.okWide P w r b0 T v) (h : DataW.Trod enc P w base spare held T v d ps) : ∃ a, ok a ∧ RepD (allS w) (f a) v := by
  obtain ⟨a0, len, cap, rfl⟩ := okWide_slice ht hv
  obtain ⟨fuel, h⟩ := h
  obtain ⟨a, ha, hr⟩ := hO _ _ _ h
  rw [hf a] at hr
  have e : (Value.slice a0 len cap).cells.toList = [.slice a0 len cap] := rfl
  rw [e] at hr
  cases hr with
  | cons h1 _ _ => exact ⟨a, ha, h1⟩
end
end Go.Proofs.YtenlhfmchhljdaaDoor
