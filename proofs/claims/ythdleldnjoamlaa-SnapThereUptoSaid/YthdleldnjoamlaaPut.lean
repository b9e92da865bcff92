/-
  The writer: its box, its row; what stays while it writes; put.
-/
import Derived.Test.YthdleldnjoamlaaInts
import Derived.Test.YthdleldnjoamlaaBlk
import Derived.Test.YthdleldnjoamlaaMix
namespace Go.Proofs.Ythdleldnjoamlaa
open Go.RowKit

/-- What stays while the writer at wp writes: all that lies below, and each block that is neither of numbers nor a writer. -/
structure Kp (wp : Nat) (W W' : World) : Prop where
  bel : Below wp W W'
  blkF : ∀ (B : Nat) (cs : Array Value) (t : TypeId) (fr : Nat × Nat), W.heap[B]? = some (Obj.cells cs t fr) → t ≠ 3 → t ≠ 48 → W'.heap[B]? = some (Obj.cells cs t fr)
theorem Kp.refl (wp : Nat) (W : World) : Kp wp W W := ⟨Below.refl _ _, fun _ _ _ _ h _ _ => h⟩
theorem Kp.trans {wp : Nat} {a b c : World} (h : Kp wp a b) (k : Kp wp b c) : Kp wp a c := ⟨h.bel.trans k.bel, fun B cs t fr hb h1 h2 => k.blkF B cs t fr (h.blkF B cs t fr hb h1 h2) h1 h2⟩
theorem Kp.blk {wp : Nat} {W W' : World} (h : Kp wp W W') (B : Nat) (cs : Array Value) (t : TypeId) (hb : Blk W B cs t) (h1 : t ≠ 3) (h2 : t ≠ 48) : Blk W' B cs t := h.blkF B cs t (0, 0) hb h1 h2
theorem Kp.size {wp : Nat} {a b : World} (h : Kp wp a b) : a.heap.size ≤ b.heap.size := h.bel.size
/-- Whatever leaves all that is there. -/
theorem Kp.of_below {wp : Nat} {a b : World} (h : Below a.heap.size a b) (hw : wp ≤ a.heap.size) : Kp wp a b := ⟨h.mono hw, fun B _ _ _ hb _ _ => (h.block B (Array.getElem?_eq_some_iff.1 hb).1).trans hb⟩
theorem Kp.alloc {wp : Nat} {a b : World} (h : Kp wp a b) (hw : wp ≤ b.heap.size) (o : Obj) : Kp wp a (b.alloc o) := h.trans (Kp.of_below ((Below.refl _ _).alloc (Nat.le_refl _) o) hw)

/-- The writer at wp has written L. -/
def WrI (wp : Nat) (W : World) (L : List Int) : Prop :=
  ∃ p c, Blk W wp #[.slice p L.length c] 48 ∧ W.ownsRow (wp + 1) 3 1 (.slice p L.length c) L.length (ints .i64 L)
theorem WrI.lt {wp : Nat} {W : World} {L : List Int} (h : WrI wp W L) : wp < W.heap.size := by
  obtain ⟨p, c, h1, -⟩ := h
  exact h1.lt
theorem WrI.below {wp : Nat} {W W' : World} {L : List Int} (h : WrI wp W L) (hb : Below W.heap.size W W') : WrI wp W' L := by
  obtain ⟨p, c, h1, h2⟩ := h
  exact ⟨p, c, h1.next hb, own_below h2 hb⟩
theorem WrI.alloc {wp : Nat} {W : World} {L : List Int} (h : WrI wp W L) (o : Obj) : WrI wp (W.alloc o) L := h.below ((Below.refl _ _).alloc (Nat.le_refl _) o)

theorem Blk.same {W : World} {B : Nat} {cs cs' : Array Value} {t t' : TypeId} (h : Blk W B cs t) (h' : Blk W B cs' t') : t = t' := by
  unfold Blk at h h'
  rw [h] at h'
  cases h'
  rfl
/-- Behind the append and the store. -/
theorem put_end {wp : Nat} {W w5 : World} {L xs : List Int} {p p5 : Option Addr} {c c5 : Nat} (hB : Blk W wp #[.slice p L.length c] 48) (hrow : W.ownsRow (wp + 1) 3 1 (.slice p L.length c) L.length (ints .i64 L))
    (hrow5 : w5.ownsRow (wp + 1) 3 1 (.slice p5 (L.length + xs.length) c5) (L.length + xs.length) (ints .i64 L ++ ints .i64 xs)) (hg5 : W.grownBy w5 (Value.slice p L.length c).ownBlock) :
    WrI wp (w5.setCell ⟨wp, 0, none⟩ (.slice p5 (L.length + xs.length) c5)) (L ++ xs) ∧ Kp wp W (w5.setCell ⟨wp, 0, none⟩ (.slice p5 (L.length + xs.length) c5)) := by
  have hne : (Value.slice p L.length c).ownBlock ≠ some wp := fun e => by
    have := (hrow.lt wp e).1; omega
  have hB5 : Blk w5 wp #[.slice p L.length c] 48 := (hg5.block wp hB.lt (fun e => hne e.symm)).trans hB
  refine ⟨⟨p5, c5, ?_, ?_⟩, ?_, ?_⟩
  · rw [List.length_append]; exact hB5.set 0 _
  · have := ownsRow_setCell_below hrow5 (a := ⟨wp, 0, none⟩) (by show wp < wp + 1; omega) (.slice p5 (L.length + xs.length) c5)
    rw [List.length_append, ints_append]
    exact this
  · have h1 : Below wp W w5 := (Below.refl wp W).grown hg5 (Nat.le_of_lt hB.lt) (fun r e => by have := (hrow.lt r e).1; omega)
    exact h1.setCell (p := ⟨wp, 0, none⟩) (Nat.le_refl _) _
  · intro B cs t fr hb h1 h2
    have hlt : B < W.heap.size := (Array.getElem?_eq_some_iff.1 hb).1
    have hBne : B ≠ wp := fun e => by
      subst e
      unfold Blk at hB
      rw [hB] at hb
      cases hb
      exact h2 rfl
    have hb5 : w5.heap[B]? = some (Obj.cells cs t fr) := by
      refine (hg5.block B hlt (fun e => ?_)).trans hb
      rcases hrow.2 with ⟨hv, _⟩ | ⟨g, cap, cur, hv, hgb, hgg, -⟩
      · rw [hv] at e; cases e
      · rw [hv] at e
        have e' : g = B := by
          have : some g = some B := e.symm
          simpa using this
        subst e'
        rw [hgg] at hb
        cases hb
        exact h1 rfl
    exact (Below.heap_setCell w5 _ _ B hBne).trans hb5

set_option maxRecDepth 100000 in
set_option maxHeartbeats 1000000 in
theorem put_any {wp : Nat} {W : World} {L xs : List Int} {b off c2 m : Nat} (h : WrI wp W L) (hx : Sl W 1 (some ⟨b, off, none⟩) m c2 (ints .i64 xs)) (hm : m = xs.length) (hl : L.length + xs.length ≤ 100000000) :
    Calls Try.prog 17 #[.pointer (some ⟨wp, 0, none⟩), .slice (some ⟨b, off, none⟩) m c2] W fun e W' => e = .returned (.tuple #[]) ∧ WrI wp W' (L ++ xs) ∧ Kp wp W W' := by
  subst hm
  obtain ⟨p, c, hB, hrow⟩ := h
  have hc := hB.cell 0
  change W.cell? ⟨wp, 0, none⟩ = some (.slice p L.length c) at hc
  have hnews : ∀ (j : Nat) (u : Value), (ints .i64 xs)[j]? = some u → W.cell? ((⟨b, off, none⟩ : Addr).add j) = some u := fun j u hj => by
    rw [add_lit']; exact hx.row.at_ hj
  have hbs : wp + 1 ≤ W.heap.size := hB.lt
  have hend := fun p5 c5 w5 h1 h2 => put_end (w5 := w5) (p5 := p5) (c5 := c5) (xs := xs) hB hrow h1 h2
  have hfin := fun (w5 : World) (hg : W.grownBy w5 (Value.slice p L.length c).ownBlock) => show Blk w5 wp #[.slice p L.length c] 48 from (hg.block wp hB.lt (fun e => by have := (hrow.lt wp e.symm).1; omega)).trans hB
  have HE := Lib.hid hend; have HF := Lib.hid hfin; clear hend hfin
  obtain ⟨i0, hi0, iz0, iz1, iz2⟩ := info_parts infoI
  go_enter Try.func17, Try.ntmps17
  go_wp2_with (at_builtin; refine wpList_append_own _ rfl _ _ 31 rfl (wp + 1) 3 i0 (.int .i64 0) 1 8 Try.underlying31 hi0 iz0 iz1 iz2 rfl (by decide) _ L.length _ rfl hrow ⟨b, off, none⟩ xs.length c2 (ints .i64 xs) rfl (by simp) hnews ints_one (by unfold maxLen; omega) (by omega) hbs ?_; intro v5 w5 hrow5 hg5 hv5; obtain ⟨p5, c5, rfl, hle5, hbig5⟩ := own_slice hrow5; have hB5 := HF.out w5 hg5; have hc5 := hB5.cell 0; have hf5 := hB5.frozen 0; change w5.cell? ⟨wp, 0, none⟩ = some (.slice p L.length c) at hc5)
  go_end0
  exact ⟨rfl, HE.out p5 c5 w5 hrow5 hg5⟩
end Go.Proofs.Ythdleldnjoamlaa
