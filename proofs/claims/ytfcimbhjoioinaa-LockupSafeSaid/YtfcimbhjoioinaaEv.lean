/-
  Events: twelve numbers each; a slice that reads as a list of events.
-/
import Derived.Test.YtfcimbhjoioinaaMem
namespace Go.Proofs.Ytfcimbhjoioinaa
open Go.RowKit

structure Ev where
  k : Int
  s : Int
  t : Int
  f : Int
  a : Int
  l : Int
  A : Int
  B : Int
  v1 : Int
  v2 : Int
  o1 : Int
  o2 : Int
deriving DecidableEq

abbrev Ev.z : Ev := ⟨0, 0, 0, 0, 0, 0, 0, 0, 0, 0, 0, 0⟩
def Ev.cells (e : Ev) : List Value := [.int .i64 e.k, .int .i64 e.s, .int .i64 e.t, .int .i64 e.f, .int .i64 e.a, .int .i64 e.l, .int .i64 e.A, .int .i64 e.B, .int .i64 e.v1, .int .i64 e.v2, .int .i64 e.o1, .int .i64 e.o2]
/-- The value of an event, as the walk spells it. -/
abbrev Ev.val (e : Ev) : Value := .agg #[.int .i64 e.k, .int .i64 e.s, .int .i64 e.t, .int .i64 e.f, .int .i64 e.a, .int .i64 e.l, .int .i64 e.A, .int .i64 e.B, .int .i64 e.v1, .int .i64 e.v2, .int .i64 e.o1, .int .i64 e.o2]
def evs (l : List Ev) : List Value := l.flatMap Ev.cells
@[simp] theorem Ev.cells_length (e : Ev) : e.cells.length = 12 := rfl
@[simp] theorem evs_nil : evs [] = [] := rfl
theorem evs_cons (e : Ev) (l : List Ev) : evs (e :: l) = e.cells ++ evs l := by simp [evs]
theorem evs_append (l m : List Ev) : evs (l ++ m) = evs l ++ evs m := by simp [evs]
@[simp] theorem evs_length (l : List Ev) : (evs l).length = l.length * 12 := by
  induction l with
  | nil => rfl
  | cons e l ih => rw [evs_cons, List.length_append, ih, Ev.cells_length, List.length_cons]; omega
theorem evs_take (l : List Ev) (n : Nat) : evs (l.take n) = (evs l).take (n * 12) := by
  induction l generalizing n with
  | nil => simp
  | cons e l ih =>
    cases n with
    | zero => simp
    | succ n =>
      rw [List.take_succ_cons, evs_cons, evs_cons, ih, List.take_append, Ev.cells_length, show (n + 1) * 12 - 12 = n * 12 from by omega, List.take_of_length_le (l := e.cells) (by simp; omega)]
theorem evs_drop (l : List Ev) (n : Nat) : evs (l.drop n) = (evs l).drop (n * 12) := by
  induction l generalizing n with
  | nil => simp
  | cons e l ih =>
    cases n with
    | zero => simp
    | succ n => rw [List.drop_succ_cons, evs_cons, ih, List.drop_append, Ev.cells_length, show (n + 1) * 12 - 12 = n * 12 from by omega, List.drop_of_length_le (l := e.cells) (by simp; omega), List.nil_append]
theorem evs_get {l : List Ev} {i j : Nat} (hi : i < l.length) (hj : j < 12) : (evs l)[i * 12 + j]? = (l.getD i .z).cells[j]? := by
  induction l generalizing i with
  | nil => simp at hi
  | cons e l ih =>
    rw [evs_cons]
    cases i with
    | zero => rw [Nat.zero_mul, Nat.zero_add, List.getElem?_append_left (by simpa using hj)]; rfl
    | succ i =>
      rw [List.getElem?_append_right (by simp; omega), Ev.cells_length, show (i + 1) * 12 + j - 12 = i * 12 + j from by omega, ih (by simpa using hi)]
      rfl
theorem evs_one {l : List Ev} : ∀ u ∈ evs l, u.oneCell' = true := by
  intro u hu
  obtain ⟨e, -, h⟩ := List.mem_flatMap.1 hu
  simp only [Ev.cells, List.mem_cons, List.not_mem_nil, or_false] at h
  rcases h with rfl | rfl | rfl | rfl | rfl | rfl | rfl | rfl | rfl | rfl | rfl | rfl <;> rfl

/-- The cells of one event. -/
structure EvAt (w : World) (b off : Nat) (e : Ev) : Prop where
  h0 : w.cell? ⟨b, off, none⟩ = some (.int .i64 e.k)
  h1 : w.cell? ⟨b, off + 1, none⟩ = some (.int .i64 e.s)
  h2 : w.cell? ⟨b, off + 2, none⟩ = some (.int .i64 e.t)
  h3 : w.cell? ⟨b, off + 3, none⟩ = some (.int .i64 e.f)
  h4 : w.cell? ⟨b, off + 4, none⟩ = some (.int .i64 e.a)
  h5 : w.cell? ⟨b, off + 5, none⟩ = some (.int .i64 e.l)
  h6 : w.cell? ⟨b, off + 6, none⟩ = some (.int .i64 e.A)
  h7 : w.cell? ⟨b, off + 7, none⟩ = some (.int .i64 e.B)
  h8 : w.cell? ⟨b, off + 8, none⟩ = some (.int .i64 e.v1)
  h9 : w.cell? ⟨b, off + 9, none⟩ = some (.int .i64 e.v2)
  h10 : w.cell? ⟨b, off + 10, none⟩ = some (.int .i64 e.o1)
  h11 : w.cell? ⟨b, off + 11, none⟩ = some (.int .i64 e.o2)

theorem EvAt.below {w w' : World} {b off B : Nat} {e : Ev} (h : EvAt w b off e) (hw : Below B w w') (hb : b < B) : EvAt w' b off e :=
  ⟨(hw.cell (p := ⟨b, _, none⟩) hb).trans h.h0, (hw.cell (p := ⟨b, _, none⟩) hb).trans h.h1, (hw.cell (p := ⟨b, _, none⟩) hb).trans h.h2, (hw.cell (p := ⟨b, _, none⟩) hb).trans h.h3, (hw.cell (p := ⟨b, _, none⟩) hb).trans h.h4, (hw.cell (p := ⟨b, _, none⟩) hb).trans h.h5,
   (hw.cell (p := ⟨b, _, none⟩) hb).trans h.h6, (hw.cell (p := ⟨b, _, none⟩) hb).trans h.h7, (hw.cell (p := ⟨b, _, none⟩) hb).trans h.h8, (hw.cell (p := ⟨b, _, none⟩) hb).trans h.h9, (hw.cell (p := ⟨b, _, none⟩) hb).trans h.h10, (hw.cell (p := ⟨b, _, none⟩) hb).trans h.h11⟩

theorem Sl.ev_at {w : World} {b off n cap i : Nat} {l : List Ev} (h : Sl w 12 (some ⟨b, off, none⟩) n cap (evs l)) (hi : i < l.length) : EvAt w b (off + i * 12) (l.getD i .z) := by
  have key : ∀ j (v : Value), j < 12 → (l.getD i .z).cells[j]? = some v → w.cell? ⟨b, off + i * 12 + j, none⟩ = some v := fun j v hj hv => by
    rw [Nat.add_assoc]
    exact h.row.at_ (by rw [evs_get hi hj]; exact hv)
  exact ⟨key 0 _ (by omega) rfl, key 1 _ (by omega) rfl, key 2 _ (by omega) rfl, key 3 _ (by omega) rfl, key 4 _ (by omega) rfl, key 5 _ (by omega) rfl, key 6 _ (by omega) rfl, key 7 _ (by omega) rfl, key 8 _ (by omega) rfl, key 9 _ (by omega) rfl, key 10 _ (by omega) rfl, key 11 _ (by omega) rfl⟩
theorem Sl.ev_len {w : World} {n cap : Nat} {p : Option Addr} {l : List Ev} (h : Sl w 12 p n cap (evs l)) : n = l.length := by
  have := h.len
  rw [evs_length] at this
  omega
theorem Sl.ev_take {w : World} {n cap m : Nat} {p : Option Addr} {l : List Ev} (h : Sl w 12 p n cap (evs l)) (hm : m ≤ n) : Sl w 12 p m cap (evs (l.take m)) := by
  rw [evs_take]; exact h.take hm
end Go.Proofs.Ytfcimbhjoioinaa
