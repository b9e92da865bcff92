/-
  Rows of numbers of the call's own, side by side, each in a block of its own.
-/
import Derived.Test.YtpafnadfoedheaaRd
import Derived.Test.YtpafnadfoedheaaOwnI
import Derived.OwnWalk
namespace Go.Proofs.Ytpafnadfoedheaa
open Go.RowKit

theorem svset_ne {ps : List (Sv Int)} {i j : Nat} {x : Sv Int} (h : i ≠ j) : (ps.set i x).getD j .none = ps.getD j .none := by
  rw [List.getD_eq_getElem?_getD, List.getElem?_set_ne h, List.getD_eq_getElem?_getD]
theorem svset_eq {ps : List (Sv Int)} {i : Nat} {x : Sv Int} (h : i < ps.length) : (ps.set i x).getD i .none = x := by
  rw [List.getD_eq_getElem?_getD, List.getElem?_set_self h]; rfl

structure ThI (w wr : World) (n : Nat) (ps : List (Sv Int)) : Prop where
  len : ps.length = n
  row : wr.ownsRow w.heap.size 33 1 (.slice (some ⟨w.heap.size, 0, none⟩) n n) n (ps.map Sv.val)
  each : ∀ j, j < n → wr.ownsRow (w.heap.size + 1) 3 1 (ps.getD j .none).val (ps.getD j .none).l.length (ints .i64 (ps.getD j .none).l)
  sep : ∀ i j, i < n → j < n → i ≠ j → ((ps.getD i .none).val.ownBlock = none ∨ (ps.getD i .none).val.ownBlock ≠ (ps.getD j .none).val.ownBlock)
  bel : Below w.heap.size w wr
  big : w.heap.size < wr.heap.size

theorem ThI.below {w wr w' : World} {n : Nat} {ps : List (Sv Int)} (h : ThI w wr n ps) (hb : Below wr.heap.size wr w') : ThI w w' n ps :=
  ⟨h.len, own_below h.row hb, fun j hj => own_below (h.each j hj) hb, h.sep, h.bel.trans (hb.mono (Nat.le_of_lt h.big)), Nat.lt_of_lt_of_le h.big hb.size⟩
theorem ThI.cell {w wr : World} {n : Nat} {ps : List (Sv Int)} (h : ThI w wr n ps) {t : Nat} (ht : t < n) : wr.cell? ⟨w.heap.size, t, none⟩ = some (ps.getD t .none).val := by
  have hl := h.len
  rw [h.row.cellAt t (by omega), List.getElem?_map, List.getD_eq_getElem?_getD, List.getElem?_eq_getElem (by omega)]
  rfl
theorem ThI.old {w wr : World} {n : Nat} {ps : List (Sv Int)} (h : ThI w wr n ps) {t : Nat} (ht : t < n) : (ps.getD t .none).val.ownBlock ≠ some w.heap.size := fun e => by
  have := ((h.each t ht).lt _ e).1
  omega
theorem ThI.app {w w3 w4 : World} {n t c' m : Nat} {ps : List (Sv Int)} {p' : Option Addr} {x : Int} (h : ThI w w3 n ps) (ht : t < n) (hm : m = (ps.getD t .none).l.length)
    (hown : w4.ownsRow (w.heap.size + 1) 3 1 (.slice p' (m + 1) c') (m + 1) (ints .i64 (ps.getD t .none).l ++ [.int .i64 x])) (hg : w3.grownBy w4 (ps.getD t .none).val.ownBlock)
    (hs : (Value.slice p' (m + 1) c').ownBlock = (ps.getD t .none).val.ownBlock ∨ (Value.slice p' (m + 1) c').ownBlock = some w3.heap.size) :
    ThI w (w4.setCell ⟨w.heap.size, t, none⟩ (.slice p' (m + 1) c')) n (ps.set t ⟨p', c', (ps.getD t .none).l ++ [x]⟩) := by
  have hold := h.old ht
  have hl := h.len
  have hset := grown_set w4 w.heap.size t (.slice p' (m + 1) c')
  have hv : (⟨p', c', (ps.getD t .none).l ++ [x]⟩ : Sv Int).val = .slice p' (m + 1) c' := by simp [Sv.val, hm]
  have hnew : (Value.slice p' (m + 1) c').ownBlock ≠ some w.heap.size := fun e => by
    have := (hown.lt _ e).1
    omega
  have r4 := h.row.kept hg (.inr fun e => hold e.symm)
  refine ⟨by rw [List.length_set]; exact hl, ?_, fun j hj => ?_, fun i j hi hj hij => ?_, ?_, ?_⟩
  · have := (World.ownsRow.stored r4 t (.slice p' (m + 1) c')).1
    rw [List.map_set, hv]
    exact this
  · by_cases e : t = j
    · subst e
      rw [svset_eq (by omega), hv]
      have := hown.kept hset (.inr hnew)
      rw [show ints .i64 (ps.getD t .none).l ++ [.int .i64 x] = ints .i64 ((ps.getD t .none).l ++ [x]) from by rw [ints_append]; rfl] at this
      simpa [hm] using this
    · rw [svset_ne e]
      exact ((h.each j hj).kept hg (h.sep j t hj ht (fun e' => e e'.symm))).kept hset (.inr (h.old hj))
  · by_cases e : t = i
    · subst e
      rw [svset_eq (by omega), svset_ne hij, hv]
      rcases hs with hs | hs
      · rw [hs]; exact h.sep t j hi hj hij
      · rw [hs]
        refine .inr fun e => ?_
        have := ((h.each j hj).lt _ e.symm).2
        omega
    · by_cases e2 : t = j
      · subst e2
        rw [svset_eq (by omega), svset_ne e, hv]
        rcases hs with hs | hs
        · rw [hs]; exact h.sep i t hi hj hij
        · rw [hs]
          cases ho : (ps.getD i .none).val.ownBlock with
          | none => exact .inl rfl
          | some g =>
            refine .inr fun e3 => ?_
            have := ((h.each i hi).lt g ho).2
            simp only [Option.some.injEq] at e3
            omega
      · rw [svset_ne e, svset_ne e2]
        exact h.sep i j hi hj hij
  · refine (h.bel.grown hg (Nat.le_of_lt h.big) fun k hk => ?_).setCell (p := ⟨w.heap.size, t, none⟩) (Nat.le_refl _) _
    have := ((h.each t ht).lt k hk).1
    omega
  · have h1 := hg.size
    have h2 := h.big
    rw [World.size_setCell]
    omega
theorem ThI.rd {w wr : World} {n : Nat} {ps : List (Sv Int)} (h : ThI w wr n ps) : RdR wr ⟨some ⟨w.heap.size, 0, none⟩, n, ps⟩ := by
  have hl := h.len
  refine ⟨?_, fun x hx => ?_⟩
  · have := Sl.of_own h.row
    dsimp only
    rw [hl]
    have e : ∀ qs : List (Sv Int), qs.flatMap rowCells = qs.map Sv.val := fun qs => by
      induction qs with
      | nil => rfl
      | cons a l ih => rw [List.flatMap_cons, List.map_cons, ih]; rfl
    rw [e]
    exact this
  · dsimp only at hx
    obtain ⟨j, hj, rfl⟩ := List.getElem_of_mem hx
    have := h.each j (by omega)
    rw [List.getD_eq_getElem?_getD, List.getElem?_eq_getElem hj] at this
    exact Sl.of_own this
theorem ThI.start {w w1 : World} {n : Nat} (h : w1.ownsRow w.heap.size 33 1 (.slice (some ⟨w.heap.size, 0, none⟩) n n) n (madeCells (Value.slice none 0 0).cells (n * 1)).toList) (hg : w.grownBy w1 none) : ThI w w1 n (List.replicate n .none) := by
  have e0 : ∀ j, (List.replicate n (Sv.none : Sv Int)).getD j .none = .none := fun j => by
    rw [List.getD_eq_getElem?_getD, List.getElem?_replicate]
    split <;> rfl
  refine ⟨by simp, ?_, fun j hj => ?_, fun i j hi hj hij => ?_, below_none hg, (World.ownsRow.lt h _ rfl).2⟩
  · rw [Nat.mul_one, show (Value.slice none 0 0).cells = #[Value.slice none 0 0] from rfl, toList_madeCells_one] at h
    simpa [Sv.val] using h
  · rw [e0]
    exact World.ownsRow_nil _ _ _ _
  · rw [e0]; exact .inl rfl
end Go.Proofs.Ytpafnadfoedheaa
