/-
  The arguments of the laws, opened: a slice of marks reads as a list of marks.
-/
import Derived.Test.YtdnheoelmcmbmaaRows
import Derived.Test.YtdnheoelmcmbmaaWalks2
import Derived.ProofKit
import Derived.OpenShut
import Derived.ChangeOld
import Derived.Below
import Derived.Deep.Slices
import Derived.Deep.Fields
import Derived.ChangeSame
namespace Go.Proofs.Ytdnheoelmcmbmaa
open Go.ChangeShapes Go.WideShapes Go.ChangeAt Go.RowKit Go.Deep

section
variable {H : Type} {enc : TypeId × Value → H} {P : Program} {w : World} {base : Nat} {spare : Nat → Bool} {held : Bool}
theorem open_slice_fields {t e : TypeId} {fs : Array Field} {fuel : Nat} {cs : List Value} {x : DataW H × List MemPlace} (ht : P.underlying t = some (.slice e)) (he : P.underlying e = some (.struct fs))
    (hone : oneCellFields P fs = true) (hC : P.cellsOf e = fs.size) (h : DataW.trod enc P w base spare held fuel t cs = some x) :
    (cs = [.slice none 0 0] ∧ x = (.nil, [])) ∨
    ∃ (a : Addr) (len cap m : Nat) (D : Nat → DataW H) (Pl : Nat → List MemPlace), cs = [.slice (some a) len cap] ∧ base ≤ a.block ∧ len ≤ cap ∧ cap ≤ maxLen ∧ m = (if spare a.block then cap else len) ∧
      x = (.slice ((List.range len).map D) ((List.range (m - len)).map fun j => D (len + j)), MemPlace.row a (m * fs.size) ++ (List.range m).flatMap Pl) ∧
      ∀ i, i < m → ∃ (ys : List (DataW H × List MemPlace)) (n : Nat), D i = .agg (ys.map (·.1)) ∧ Pl i = ys.flatMap (·.2) ∧ ys.length = fs.size ∧
        ∀ (j : Nat) (f : Field), fs[j]? = some f → ∃ (v : Value) (y : DataW H × List MemPlace), w.cell? (a.add (i * fs.size + j)) = some v ∧ ys[j]? = some y ∧ DataW.trod enc P w base spare held n f.type [v] = some y := by
  rcases open_slice ht h with h0 | ⟨a, len, cap, m, n, D, Pl, hcs, hb, hl, hm, hmm, hx, hi⟩
  · exact .inl h0
  · refine .inr ⟨a, len, cap, m, D, Pl, hcs, hb, hl, hm, hmm, by rw [hC] at hx; exact hx, fun i him => ?_⟩
    obtain ⟨cs', hc, ht'⟩ := hi i him
    rw [hC] at hc
    obtain ⟨ys, n', hn', hy, hlen, hyl, hf⟩ := DataW.trod_struct he ht'
    obtain ⟨_, hcl, hat⟩ := World.cells?_some hc
    simp only [Prod.mk.injEq] at hy
    refine ⟨ys, n', hy.1, hy.2, hyl, fun j f hj => ?_⟩
    obtain ⟨ho, hk⟩ := hone_of hone j f hj
    have hjl : j < fs.size := (Array.getElem?_eq_some_iff.1 hj).1
    have hcell := hat j hjl
    have hv : cs'[j]? = some (cs'[j]'(by omega)) := List.getElem?_eq_getElem (by omega)
    have h1 := hf j f hj
    rw [ho, hk] at h1
    have hone' : (cs'.drop j).take 1 = [cs'[j]'(by omega)] := by
      rw [List.drop_eq_getElem_cons (by omega)]
      rfl
    rw [hone'] at h1
    have hys : ys[j]? = some (ys[j]'(by omega)) := List.getElem?_eq_getElem (by omega)
    refine ⟨_, _, ?_, hys, h1.trans hys⟩
    rw [← Go.Deep.add_add, hcell, hv]
end

section
variable {H : Type} {enc : TypeId × Value → H} {P : Program} {w : World} {base : Nat} {spare : Nat → Bool} {held : Bool}
/-- A slice of structs all of whose fields are of the kind int64: the numbers, cell by cell. -/
theorem open_int_structs {t e : TypeId} {fs : Array Field} {v : Value} {d : DataW H} {p : List MemPlace} (ht : P.underlying t = some (.slice e)) (he : P.underlying e = some (.struct fs))
    (hone : oneCellFields P fs = true) (hC : P.cellsOf e = fs.size) (hint : ∀ (j : Nat) (f : Field), fs[j]? = some f → P.underlying f.type = some (.int .i64)) {r : Reach} {b0 : Nat} (hv : Value.okWide P w r b0 t v) (h : DataW.Trod enc P w base spare held t v d p) :
    ∃ (a : Option Addr) (len cap : Nat) (F : Nat → Nat → Int) (b off : Nat), v = .slice a len cap ∧ len ≤ cap ∧ cap ≤ maxLen ∧ (0 < len ∧ 0 < fs.size → a = some ⟨b, off, none⟩ ∧ b < w.heap.size) ∧
      ∀ i j, i < len → j < fs.size → w.cell? ⟨b, off + i * fs.size + j, none⟩ = some (.int .i64 (F i j)) ∧ (Lit.int .i64 (F i j)).wf = true := by
  obtain ⟨a0, len, cap, rfl⟩ := okWide_slice ht hv
  obtain ⟨fuel, hf⟩ := h
  rcases open_slice_fields ht he hone hC hf with ⟨hcs, -⟩ | ⟨a, len', cap', m, D, Pl, hcs, -, hl, hm, hmm, -, hall⟩
  · simp [Value.cells] at hcs
    obtain ⟨rfl, rfl, rfl⟩ := hcs
    exact ⟨none, 0, 0, fun _ _ => 0, 0, 0, rfl, Nat.le_refl _, Nat.zero_le _, fun h => by omega, fun i j h => by omega⟩
  · simp [Value.cells] at hcs
    obtain ⟨rfl, rfl, rfl⟩ := hcs
    have hlm : len ≤ m := by rw [hmm]; split <;> omega
    have key : ∀ i j, i < len → j < fs.size → ∃ n, w.cell? (a.add (i * fs.size + j)) = some (.int .i64 n) ∧ (Lit.int .i64 n).wf = true := by
      intro i j hi hj
      obtain ⟨ys, n, -, -, -, hfs⟩ := hall i (by omega)
      obtain ⟨v, y, hc, -, hy⟩ := hfs j fs[j] (by simp [hj])
      obtain ⟨x, hx, -, hw⟩ := DataW.trod_int (hint j fs[j] (by simp [hj])) hy
      obtain rfl : v = .int .i64 x := by simpa using hx
      exact ⟨x, hc, hw⟩
    obtain ⟨b, off, spot⟩ := a
    by_cases hz : 0 < len ∧ 0 < fs.size
    · obtain ⟨n0, hc0, -⟩ := key 0 0 hz.1 hz.2
      have hs : spot = none := by simpa [Addr.add] using World.cell?_spot hc0
      subst hs
      have hbl : b < w.heap.size := by
        rcases Nat.lt_or_ge b w.heap.size with h1 | h1
        · exact h1
        · simp [World.cell?, Addr.add, Array.getElem?_eq_none h1] at hc0
      refine ⟨some ⟨b, off, none⟩, len, cap, fun i j => if h : i < len ∧ j < fs.size then (key i j h.1 h.2).choose else 0, b, off, rfl, hl, hm, fun _ => ⟨rfl, hbl⟩, fun i j hi hj => ?_⟩
      have hk := (key i j hi hj).choose_spec
      simp only [dif_pos (And.intro hi hj)]
      refine ⟨?_, hk.2⟩
      rw [← hk.1]
      unfold Addr.add
      split
      · next h0 => rw [Nat.add_assoc, h0, Nat.add_zero]
      · rw [Nat.add_assoc]
    · exact ⟨_, len, cap, fun _ _ => 0, 0, 0, rfl, hl, hm, fun h => absurd h hz, fun i j hi hj => by omega⟩
end

theorem open_marks {H : Type} {enc : TypeId × Value → H} {W : World} {base : Nat} {spare : Nat → Bool} {held : Bool} {v : Value} {d : DataW H} {p : List MemPlace} {r : Reach} {b0 : Nat}
    (hv : Value.okWide Try.prog W r b0 22 v) (h : DataW.Trod enc Try.prog W base spare held 22 v d p) : ∃ (a : Option Addr) (cap : Nat) (l : List Mk), v = .slice a l.length cap ∧ Marks W a l := by
  obtain ⟨a, len, cap, F, b, off, rfl, hl, hm, hp, hc⟩ := open_int_structs Try.underlying22 Try.underlying29 (by kernel_rfl) (by kernel_rfl) (by
    intro j f hj
    match j, hj with
    | 0, hj => simp at hj; rw [← hj]; exact Try.underlying3
    | 1, hj => simp at hj; rw [← hj]; exact Try.underlying3
    | 2, hj => simp at hj; rw [← hj]; exact Try.underlying3
    | n + 3, hj => simp at hj) hv h
  unfold maxLen at hm
  refine ⟨a, cap, (List.range len).map fun i => ⟨F i 0, F i 1, F i 2⟩, by simp, ⟨⟨b, off, fun h0 => hp ⟨by simpa using h0, by simp⟩, fun i hi => ?_⟩, by simp; omega⟩⟩
  have hi' : i < len := by simpa using hi
  have e : ((List.range len).map fun i => (⟨F i 0, F i 1, F i 2⟩ : Mk)).getD i .z = ⟨F i 0, F i 1, F i 2⟩ := by simp [hi']
  rw [e]
  exact ⟨(hc i 0 hi' (by simp)).1, (hc i 1 hi' (by simp)).1, (hc i 2 hi' (by simp)).1⟩

theorem own : ownKnob Try.prog.godebug = none := by kernel_rfl
theorem laidOut : laidOutB Try.prog = true := by kernel_rfl

end Go.Proofs.Ytdnheoelmcmbmaa
