/-
  Slices of whatever, as they lie in memory: where each begins, its room, what it holds.
-/
import Derived.Test.YtfcimbhjoioinaaProg
import Derived.Test.YtfcimbhjoioinaaInts
import Derived.Test.YtfcimbhjoioinaaBlk
namespace Go.Proofs.Ytfcimbhjoioinaa
open Go.RowKit

/-! ### As it lies in memory -/
/-- A slice: where it lies, its room, what it holds. -/
structure Sv (α : Type) where
  p : Option Addr
  cap : Nat
  l : List α
abbrev Sv.val {α : Type} (s : Sv α) : Value := .slice s.p s.l.length s.cap
abbrev Sv.none {α : Type} : Sv α := ⟨Option.none, 0, []⟩
structure Rd {α : Type} (k : Nat) (cells : α → List Value) (ok : World → α → Prop) (W : World) (s : Sv α) : Prop where
  row : Sl W k s.p s.l.length s.cap (s.l.flatMap cells)
  each : ∀ x ∈ s.l, ok W x
/-- What stays where all that was there stays. -/
def Stays {α : Type} (ok : World → α → Prop) : Prop := ∀ (W W' : World) (x : α), ok W x → Below W.heap.size W W' → ok W' x
abbrev okT {α : Type} : World → α → Prop := fun _ _ => True
theorem okT_stays {α : Type} : Stays (okT (α := α)) := fun _ _ _ _ _ => trivial
section
variable {α : Type} {k : Nat} {cells : α → List Value} {ok : World → α → Prop} {W W' : World} {s : Sv α}
theorem Rd.stays (hok : Stays ok) : Stays (Rd k cells ok) := fun _ _ _ h hb => ⟨h.row.below hb, fun x hx => hok _ _ _ (h.each x hx) hb⟩
theorem Rd.zero (W : World) : Rd k cells ok W Sv.none := ⟨Sl.zero _ _, fun x hx => by cases hx⟩
theorem fm_get (hk : ∀ x, (cells x).length = k) {l : List α} {i j : Nat} {z : α} (hi : i < l.length) (hj : j < k) : (l.flatMap cells)[i * k + j]? = (cells (l.getD i z))[j]? := by
  induction l generalizing i with
  | nil => simp at hi
  | cons e l ih =>
    rw [List.flatMap_cons]
    cases i with
    | zero => rw [Nat.zero_mul, Nat.zero_add, List.getElem?_append_left (by rw [hk]; exact hj)]; rfl
    | succ i =>
      rw [List.getElem?_append_right (by rw [hk, Nat.succ_mul]; omega), hk, show (i + 1) * k + j - k = i * k + j from by rw [Nat.succ_mul]; omega, ih (by simpa using hi)]
      rfl
theorem fm_len (hk : ∀ x, (cells x).length = k) (l : List α) : (l.flatMap cells).length = l.length * k := by
  induction l with
  | nil => simp
  | cons e l ih => rw [List.flatMap_cons, List.length_append, ih, hk, List.length_cons, Nat.succ_mul, Nat.add_comm]
/-- Where the i-th lies. -/
theorem Rd.at_ (h : Rd k cells ok W s) (hk : ∀ x, (cells x).length = k) (hk0 : 0 < k) {i : Nat} (hi : i < s.l.length) (z : α) :
    ∃ b off, s.p = some ⟨b, off, none⟩ ∧ b < W.heap.size ∧ ∀ j v, (cells (s.l.getD i z))[j]? = some v → W.cell? ⟨b, off + i * k + j, none⟩ = some v := by
  obtain ⟨b, off, hp, hb, hc⟩ := h.row.row.cons (by rw [h.row.len]; exact Nat.mul_pos (by omega) hk0)
  refine ⟨b, off, hp, hb, fun j v hv => ?_⟩
  have hj : j < k := by rw [← hk (s.l.getD i z)]; exact (List.getElem?_eq_some_iff.1 hv).1
  have hlt : i * k + j < (s.l.flatMap cells).length := by
    rw [fm_len hk]
    calc i * k + j < i * k + k := by omega
      _ = (i + 1) * k := (Nat.succ_mul _ _).symm
      _ ≤ s.l.length * k := Nat.mul_le_mul_right _ hi
  rw [Nat.add_assoc, hc _ hlt, fm_get hk hi hj, hv]
end

/-! ### Numbers, and rows of them -/
abbrev RdI (W : World) (s : Sv Int) : Prop := SlI W s.p s.cap s.l
theorem RdI.st : Stays RdI := fun _ _ _ h hb => Sl.below h hb
def rowCells (s : Sv Int) : List Value := [s.val]
abbrev RdR : World → Sv (Sv Int) → Prop := Rd 1 rowCells RdI
theorem RdR.st : Stays RdR := Rd.stays RdI.st
instance {α : Type} : Inhabited (Sv α) := ⟨Sv.none⟩
theorem Rd.le {α : Type} {k : Nat} {cells : α → List Value} {ok : World → α → Prop} {W : World} {s : Sv α} (h : Rd k cells ok W s) : s.l.length ≤ 9223372036854775807 := Nat.le_trans h.row.le h.row.big
theorem Blk.mk2 (W : World) (cs : Array Value) (t : TypeId) : Blk (W.alloc (.cells cs t)) W.heap.size cs t := Blk.mk_ W cs t rfl
theorem Blk.setL {W : World} {B : Nat} {l : List Value} {t : TypeId} (h : Blk W B l.toArray t) (k : Nat) (v : Value) : Blk (W.setCell ⟨B, k, none⟩ v) B (l.set k v).toArray t := by
  have := h.set k v
  rwa [List.setIfInBounds_toArray] at this
/-- The i-th of a row of numbers. -/
theorem RdI.at_ {W : World} {s : Sv Int} (h : RdI W s) {i : Nat} (hi : i < s.l.length) : ∃ b off, s.p = some ⟨b, off, none⟩ ∧ b < W.heap.size ∧ W.cell? ⟨b, off + i, none⟩ = some (.int .i64 (s.l.getD i 0)) := Sl.int_at h hi
theorem RdR.at_ {W : World} {s : Sv (Sv Int)} (h : RdR W s) {i : Nat} (hi : i < s.l.length) : ∃ b off, s.p = some ⟨b, off, none⟩ ∧ b < W.heap.size ∧ W.cell? ⟨b, off + i, none⟩ = some (s.l.getD i default).val ∧ RdI W (s.l.getD i default) := by
  obtain ⟨b, off, e, hb, hc⟩ := Rd.at_ h (fun _ => rfl) (by decide) hi default
  refine ⟨b, off, e, hb, ?_, h.each _ (by simp [hi])⟩
  have := hc 0 _ rfl
  simpa using this
theorem RdI.lt63 {W : World} {s : Sv Int} (h : RdI W s) : s.l.length ≤ 9223372036854775807 := Nat.le_trans (Sl.le h) (Sl.big h)
end Go.Proofs.Ytfcimbhjoioinaa
