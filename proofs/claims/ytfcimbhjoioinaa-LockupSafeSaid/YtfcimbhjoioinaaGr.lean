/-
  A map of rows of numbers: read as lists; a look-up whose way back holds behind whatever leaves rows of numbers alone; slices.Delete of one number.
-/
import Derived.Test.YtfcimbhjoioinaaMd
import Derived.Test.YtfcimbhjoioinaaShelf
import Derived.Test.YtfcimbhjoioinaaInts
import Derived.Test.YtfcimbhjoioinaaRd
import Derived.Maps.OwnRows
import Derived.Shelf.Slices.Delete
namespace Go.Proofs.Ytfcimbhjoioinaa
open Go.RowKit Go.Sort
open Go.Maps (Keyed)
open Go.WideElems (Fit rd rg rd_val)

/-- Rows of numbers, and the map's block, stay. -/
structure IK (b : Nat) (w w1 : World) : Prop where
  size : w.heap.size ≤ w1.heap.size
  map : w1.heap[b]? = w.heap[b]?
  rows : ∀ (g : Nat) (cur : Array Value), w.heap[g]? = some (Obj.cells cur 3) → w1.heap[g]? = some (Obj.cells cur 3)
theorem IK.refl (b : Nat) (w : World) : IK b w w := ⟨Nat.le_refl _, rfl, fun _ _ h => h⟩
theorem IK.trans {b : Nat} {w w1 w2 : World} (h : IK b w w1) (h2 : IK b w1 w2) : IK b w w2 := ⟨Nat.le_trans h.size h2.size, h2.map.trans h.map, fun g cur e => h2.rows g cur (h.rows g cur e)⟩
theorem IK.of_grown {b : Nat} {w w1 : World} {row : Option Nat} (hg : w.grownBy w1 row) (hb : b < w.heap.size) (hr : ∀ g, row = some g → g ≠ b ∧ ∀ cur, w.heap[g]? ≠ some (Obj.cells cur 3)) : IK b w w1 := by
  refine ⟨hg.size, hg.block b hb (fun e => (hr b e.symm).1 rfl), fun g cur e => ?_⟩
  rw [hg.block g (Array.getElem?_eq_some_iff.1 e).1 (fun e2 => (hr g e2.symm).2 cur e)]
  exact e
theorem IK.below {b : Nat} {w w1 : World} (h : Below w.heap.size w w1) (hb : b < w.heap.size) : IK b w w1 := ⟨h.size, h.block _ hb, fun g cur e => by rw [h.block _ (Array.getElem?_eq_some_iff.1 e).1]; exact e⟩
theorem IK.own {b base n : Nat} {w w1 : World} {v : Value} {xs : List Value} (h : IK b w w1) (ho : w.ownsRow base 3 1 v n xs) : w1.ownsRow base 3 1 v n xs := by
  refine ⟨ho.1, ?_⟩
  rcases ho.2 with h0 | ⟨g, cap, cur, hv, hb, hg, hr⟩
  · exact .inl h0
  · exact .inr ⟨g, cap, cur, hv, hb, h.rows g cur hg, hr⟩
theorem IK.ints {b base : Nat} {w w1 : World} {v : Value} {zs : List Int} (h : IK b w w1) (ho : w.ownsInts base 3 .i64 v zs) : w1.ownsInts base 3 .i64 v zs := ⟨h.own ho.1, ho.2⟩

section
variable {w w1 : World} {base b n : Nat} {D : DataW Unit} {es : Array MapEntry} {clock : Nat}
theorem IK.stay (h : IK b w w1) (F : Fit Try.prog 3 (rowElem (H := Unit) w base 3 .i64) es clock) :
    Fit Try.prog 3 (rowElem (H := Unit) w1 base 3 .i64) es clock ∧ es.toList.map (rg Try.prog 3 (rowElem (H := Unit) w1 base 3 .i64)) = es.toList.map (rg Try.prog 3 (rowElem (H := Unit) w base 3 .i64)) := by
  obtain ⟨F2, hm, _⟩ := F.stay (R' := rowElem (H := Unit) w1 base 3 .i64) (fun x _ z hz => by
    obtain ⟨zs, ho, rfl⟩ := rowElem_inv hz
    exact rowElem_mk (h.ints ho))
  exact ⟨F2, hm⟩
theorem IK.lens (h : IK b w w1) (F : Fit Try.prog 3 (rowElem (H := Unit) w base 3 .i64) es clock) (hl : ∀ x ∈ es.toList, ∀ zs, w.ownsInts base 3 .i64 x.val zs → zs.length ≤ n) :
    ∀ x ∈ es.toList, ∀ zs, w1.ownsInts base 3 .i64 x.val zs → zs.length ≤ n := by
  intro x hx zs hz
  obtain ⟨y, hy⟩ := F.reads x hx
  obtain ⟨z, hz2, _⟩ := rd_val hy
  obtain ⟨ys, ho, _⟩ := rowElem_inv hz2
  rw [hz.unique (h.ints ho)]
  exact hl x hx ys ho
theorem IK.groups (h : IK b w w1) (hG : w.ownsGroups Try.prog 3 base 3 .i64 b n D) : w1.ownsGroups Try.prog 3 base 3 .i64 b n D := by
  obtain ⟨es, clock, hb, F, hs, rfl, hbb, hlen, hap⟩ := hG
  obtain ⟨F2, hm⟩ := h.stay F
  exact ⟨es, clock, h.map.trans hb, F2, hs, by rw [hm], hbb, h.lens F hlen, hap⟩
/-- A look-up, with a way back from wherever rows of numbers have stayed. -/
theorem groups_at {key : Value} {kl : Lit} (hG : w.ownsGroups Try.prog 3 base 3 .i64 b n D) (hn : n < maxLen) (hkey : keyOf Try.prog 3 key = some kl) :
    ∃ v zs, (Instr.lookup 49 (.map (some b)) key false).run Try.prog w = .ok v w ∧ D.atKey kl .nil = rowDatum .i64 v zs ∧ w.ownsInts base 3 .i64 v zs ∧ zs.length ≤ n ∧
      ∀ w1, IK b w w1 → w1.groupBack Try.prog 49 3 base 3 .i64 b n D key kl v := by
  obtain ⟨es, clock, hb, F, hs, rfl, hbb, hlen, hap⟩ := hG
  rcases Maps.fit_look false keyedI Try.underlying49 (Try.zeroValue24 w) hb F hkey with ⟨hrun, _, hat⟩ | ⟨e0, y, hm0, h3, hrun, hR, hat, _⟩
  · refine ⟨.slice none 0 0, [], hrun, hat _, World.ownsInts_nil _ _ _ _, Nat.zero_le _, fun w1 h => ?_⟩
    obtain ⟨F2, hm⟩ := h.stay F
    rw [← hm]
    refine groups_back keyedI Try.underlying49 (h.map.trans hb) F2 hs hn hbb (h.lens F hlen) hap hkey (fun x _ _ => ?_) (by simp [Value.ownBlock])
    cases x.val.ownBlock <;> simp [Value.ownBlock]
  · obtain ⟨zs, ho, rfl⟩ := rowElem_inv hR
    refine ⟨e0.val, zs, hrun, hat _, ho, hlen e0 hm0 zs ho, fun w1 h => ?_⟩
    obtain ⟨F2, hm⟩ := h.stay F
    rw [← hm]
    refine groups_back keyedI Try.underlying49 (h.map.trans hb) F2 hs hn hbb (h.lens F hlen) hap hkey (fun x hx hne => hap x hx e0 hm0 (by rw [h3]; exact hne)) (fun e1 => ?_)
    have := (ho.1.lt b e1).1
    omega
end

theorem groups_mono {w : World} {base b n m : Nat} {D : DataW Unit} (h : w.ownsGroups Try.prog 3 base 3 .i64 b n D) (hm : n ≤ m) : w.ownsGroups Try.prog 3 base 3 .i64 b m D := by
  obtain ⟨es, clock, hb, F, hs, hD, hbb, hlen, hap⟩ := h
  exact ⟨es, clock, hb, F, Nat.le_trans hs hm, hD, hbb, fun x hx zs hz => Nat.le_trans (hlen x hx zs hz) hm, hap⟩
/-- What such a map reads as. -/
structure GRep (D : DataW Unit) (N : Int → List Int) : Prop where
  map : Maps.IsMap D
  at_ : ∀ x, (Lit.int .i64 x).wf = true → (D.atKey (.int .i64 x) .nil = .nil ∧ N x = []) ∨ D.atKey (.int .i64 x) .nil = .slice (ChangeShapes.lits .i64 (N x)) []
theorem grep_made : GRep (.map []) (fun _ => []) := ⟨Maps.isMap_empty, fun _ _ => .inl ⟨rfl, rfl⟩⟩
theorem lits_inj {a b : List Int} (h : (ChangeShapes.lits .i64 a : List (DataW Unit)) = ChangeShapes.lits .i64 b) : a = b := by
  unfold ChangeShapes.lits at h
  exact (List.map_inj_right (fun x y e => by simpa using e)).1 h
theorem GRep.zs {D : DataW Unit} {N : Int → List Int} (h : GRep D N) {x : Int} (hx : (Lit.int .i64 x).wf = true) {w : World} {base : Nat} {v : Value} {zs : List Int} (hat : D.atKey (.int .i64 x) .nil = rowDatum .i64 v zs) (ho : w.ownsInts base 3 .i64 v zs) : zs = N x := by
  rcases h.at_ x hx with ⟨h1, h2⟩ | h1 <;> rcases ho.datum (H := Unit) with ⟨h3, h4⟩ | h3
  · rw [h4, h2]
  · rw [h1, h3] at hat; cases hat
  · rw [h1, h3] at hat; cases hat
  · rw [h1, h3] at hat
    simp only [DataW.slice.injEq, and_true] at hat
    exact (lits_inj hat).symm
def updN (N : Int → List Int) (x : Int) (l : List Int) : Int → List Int := fun y => if y = x then l else N y
theorem GRep.put {D : DataW Unit} {N : Int → List Int} (h : GRep D N) {x : Int} (hx : (Lit.int .i64 x).wf = true) {w : World} {base : Nat} {v : Value} {zs : List Int} (ho : w.ownsInts base 3 .i64 v zs) : GRep (D.put (.int .i64 x) (rowDatum .i64 v zs)) (updN N x zs) := by
  refine ⟨h.map.put _ _, fun y hy => ?_⟩
  unfold updN
  by_cases e : y = x
  · subst e
    rw [if_pos rfl, Maps.atKey_put_same h.map (isKey hx)]
    rcases ho.datum (H := Unit) with ⟨h3, h4⟩ | h3
    · exact .inl ⟨h3, h4⟩
    · exact .inr h3
  · rw [if_neg e, Maps.atKey_put_other (by simpa using e)]
    exact h.at_ y hy

/-- slices.Delete of one number of a row of the call's own. -/
theorem size_putCellsI (off : Nat) (d : Array Int) (c : Array Value) : (putCells (Value.int .i64) off d c).size = c.size := by simp [putCells]
theorem delete_any {w : World} {base cap : Nat} {q : Option Addr} {zs : List Int} (h : OwnI w base q cap zs) {i : Nat} (hi : i < zs.length) :
    Calls Try.prog 15 #[.slice q zs.length cap, .int .i64 i, .int .i64 ((i : Int) + 1)] w fun e w' => e = .returned (.slice q (zs.eraseIdx i).length cap) ∧ OwnI w' base q cap (zs.eraseIdx i) ∧ w.grownBy w' (Value.slice q zs.length cap).ownBlock := by
  have hS := Sl.of_own h
  rw [show ((i : Int) + 1) = ((i + 1 : Nat) : Int) from rfl]
  rcases h.2 with ⟨-, e⟩ | ⟨g, cap', cur, hv, hb, hg, hnc, hcm, hcs, htake⟩
  · omega
  · simp only [Value.slice.injEq, true_and] at hv
    obtain ⟨rfl, rfl⟩ := hv
    have hcell : ∀ j, j < zs.length → w.cell? ⟨g, j, none⟩ = some (.int .i64 (zs.getD j 0)) := fun j hj => by
      have : (ints .i64 zs)[j]? = some (.int .i64 (zs.getD j 0)) := by simp [ints, hj]
      rw [h.cellAt j (by omega), this]
    have hH : Holds (Value.int .i64) w g 0 zs.toArray := fun j hj => by
      rw [List.size_toArray] at hj
      rw [Nat.zero_add]
      refine ⟨?_, h.frozenAt j⟩
      rw [hcell j hj, List.getD_eq_getElem?_getD, List.getElem?_eq_getElem hj, getElem!_pos zs.toArray j (by simpa using hj)]
      rfl
    refine (Any.slices_Delete_int (P := Try.prog) (ρ := Try.delete_ren) Try.delete g 0 cap i (i + 1) zs w hH (by omega) (by unfold maxLen at hcm; exact hcm) (by omega) (by omega)).mono ?_
    rintro e w' ⟨rfl, m, rfl⟩
    have hlen : (zs.eraseIdx i).length = zs.length - (i + 1 - i) := by rw [List.length_eraseIdx, if_pos hi]; omega
    have her : zs.take i ++ zs.drop (i + 1) = zs.eraseIdx i := (List.eraseIdx_eq_take_drop_succ zs i).symm
    obtain ⟨X, hXe⟩ : ∃ X, X = (zs.take i ++ zs.drop (i + 1) ++ List.replicate (i + 1 - i) 0).toArray := ⟨_, rfl⟩
    rw [← hXe]
    have hX : X.size = zs.toArray.size := by rw [hXe]; simp; omega
    have hblk : (putRow (Value.int .i64) (Sort.ahead w m) g 0 X).heap[g]? = some (Obj.cells (putCells (Value.int .i64) 0 X cur) 3) := by
      show (w.heap.modify g _)[g]? = _
      rw [Array.getElem?_modify, if_pos rfl, hg]
      rfl
    have hH2 := holds_putRow (Value.int .i64) (Sort.ahead w m) g 0 zs.toArray _ (show Holds (Value.int .i64) (Sort.ahead w m) g 0 zs.toArray from hH) hX
    refine ⟨by rw [hlen], ⟨by simp, .inr ⟨g, cap, _, rfl, hb, hblk, by omega, hcm, by rw [size_putCellsI, hcs], ?_⟩⟩, ⟨rfl, rfl, rfl, ?_, fun k _ hk => ?_⟩⟩
    · apply List.ext_getElem?
      intro j
      by_cases hj : j < (zs.eraseIdx i).length
      · rw [List.getElem?_take_of_lt (by omega), Array.getElem?_toList]
        have hc := (hH2 j (by rw [hX]; simp; omega)).1
        rw [Nat.zero_add] at hc
        have e2 : (putRow (Value.int .i64) (Sort.ahead w m) g 0 X).cell? ⟨g, j, none⟩ = (putCells (Value.int .i64) 0 X cur)[j]? := by
          simp [World.cell?, hblk]
        rw [e2] at hc
        rw [hc]
        rw [her] at hXe
        have hj2 : j < X.size := by rw [hX]; simp; omega
        rw [getElem!_pos _ j hj2]
        subst hXe
        simp [ints, hj, List.getElem_append_left hj]
      · rw [List.getElem?_eq_none (by rw [List.length_take]; omega), List.getElem?_eq_none (by simp; omega)]
    · show w.heap.size ≤ (w.heap.modify g _).size
      rw [Array.size_modify]; exact Nat.le_refl _
    · show (w.heap.modify g _)[k]? = _
      rw [Array.getElem?_modify, if_neg (fun e => hk (by rw [← e]; rfl))]
end Go.Proofs.Ytfcimbhjoioinaa
