/-
  A store of one's own, written.
-/
import Derived.Test.YtcnppcddpcpeoaaOwn
namespace Go.Proofs.Ytcnppcddpcpeoaa
open Go.RowKit

theorem own_ptr {w : World} {B s n c : Nat} {e : TypeId} {p : Option Addr} {xs : List Value} (h : w.ownsRow B e s (.slice p n c) n xs) (h0 : 0 < n) : ∃ g, p = some ⟨g, 0, none⟩ := by
  rcases h.2 with ⟨hv, rfl⟩ | ⟨g, cap, cur, hv, hb, hg, -⟩
  · omega
  · simp only [Value.slice.injEq, true_and] at hv
    exact ⟨g, hv.1⟩
theorem Ow.setUse {w : World} {B U c : Nat} {P : Sv Pg} {l : List Int} {R : Sv (Sv Int)} (h : Ow w B ⟨P, ⟨some ⟨U, 0, none⟩, c, l⟩, R⟩) (i : Nat) (v : Int) :
    Ow (w.setCell ⟨U, i, none⟩ (.int .i64 v)) B ⟨P, ⟨some ⟨U, 0, none⟩, c, l.set i v⟩, R⟩ := by
  have hg := grown_set w U i (.int .i64 v)
  refine ⟨h.pg.kept hg (own_apart h.pg h.us (by decide)), ?_, h.rt.kept hg (own_apart h.rt h.us (by decide)), fun s hs => ⟨(h.each s hs).1.kept hg (h.each s hs).2, (h.each s hs).2⟩⟩
  have := own_set h.us i v
  show World.ownsRow _ _ _ _ (.slice _ (l.set i v).length _) (l.set i v).length _
  rw [List.length_set]
  exact this
theorem pgCells_set : ∀ (l : List Pg) (i : Nat) (p : Pg), ((((pgCells l).set (i * 4) (.int .i64 p.a)).set (i * 4 + 1) (.int .i64 p.b)).set (i * 4 + 2) (.int .i64 p.c)).set (i * 4 + 3) (.int .i64 p.d) = pgCells (l.set i p)
  | [], _, _ => by simp [pgCells]
  | x :: l, 0, p => by simp [pgCells, Pg.cells, List.flatMap_cons]
  | x :: l, i + 1, p => by
    have ih := pgCells_set l i p
    have e : ∀ q : Pg, pgCells (q :: l) = .int .i64 q.a :: .int .i64 q.b :: .int .i64 q.c :: .int .i64 q.d :: pgCells l := fun q => by simp [pgCells, Pg.cells, List.flatMap_cons]
    rw [e, show (i + 1) * 4 = i * 4 + 1 + 1 + 1 + 1 from by omega, show i * 4 + 1 + 1 + 1 + 1 + 1 = (i * 4 + 1) + 1 + 1 + 1 + 1 from by omega, show i * 4 + 1 + 1 + 1 + 1 + 2 = (i * 4 + 2) + 1 + 1 + 1 + 1 from by omega, show i * 4 + 1 + 1 + 1 + 1 + 3 = (i * 4 + 3) + 1 + 1 + 1 + 1 from by omega]
    simp only [List.set_cons_succ]
    rw [ih]
    simp [pgCells, Pg.cells, List.flatMap_cons]
/-- A page written. -/
def setPg (w : World) (G i : Nat) (p : Pg) : World := (((w.setCell ⟨G, i * 4, none⟩ (.int .i64 p.a)).setCell ⟨G, i * 4 + 1, none⟩ (.int .i64 p.b)).setCell ⟨G, i * 4 + 2, none⟩ (.int .i64 p.c)).setCell ⟨G, i * 4 + 3, none⟩ (.int .i64 p.d)
theorem grown_setPg (w : World) (G i : Nat) (p : Pg) : w.grownBy (setPg w G i p) (some G) :=
  grown_trans (grown_trans (grown_trans (grown_set _ _ _ _) (grown_set _ _ _ _)) (grown_set _ _ _ _)) (grown_set _ _ _ _)
theorem Ow.setPage {w : World} {B G c : Nat} {l : List Pg} {X : Sv Int} {R : Sv (Sv Int)} (h : Ow w B ⟨⟨some ⟨G, 0, none⟩, c, l⟩, X, R⟩) (i : Nat) (p : Pg) :
    Ow (setPg w G i p) B ⟨⟨some ⟨G, 0, none⟩, c, l.set i p⟩, X, R⟩ := by
  have hg := grown_setPg w G i p
  refine ⟨?_, h.us.kept hg (own_apart h.us h.pg (by decide)), h.rt.kept hg (own_apart h.rt h.pg (by decide)), fun s hs => ⟨(h.each s hs).1.kept hg (own_apart (h.each s hs).1 h.pg (by decide)), (h.each s hs).2⟩⟩
  have := ((((h.pg.stored (i * 4) (.int .i64 p.a)).1.stored (i * 4 + 1) (.int .i64 p.b)).1.stored (i * 4 + 2) (.int .i64 p.c)).1.stored (i * 4 + 3) (.int .i64 p.d)).1
  rw [pgCells_set] at this
  show World.ownsRow _ _ _ _ (.slice _ (l.set i p).length _) (l.set i p).length _
  rw [List.length_set]
  exact this
theorem rwCells_set (l : List (Sv Int)) (i : Nat) (s : Sv Int) : (rwCells l).set i s.val = rwCells (l.set i s) := by
  induction l generalizing i with
  | nil => rfl
  | cons x l ih =>
    cases i with
    | zero => rfl
    | succ i => show x.val :: ((rwCells l).set i s.val) = x.val :: rwCells (l.set i s); rw [ih]
theorem Ow.setRoot {w : World} {B G c : Nat} {P : Sv Pg} {X : Sv Int} {l : List (Sv Int)} (h : Ow w B ⟨P, X, ⟨some ⟨G, 0, none⟩, c, l⟩⟩) (i : Nat) (s : Sv Int) (hs : OwnS w B s) (ha : Apart s X) :
    Ow (w.setCell ⟨G, i, none⟩ s.val) B ⟨P, X, ⟨some ⟨G, 0, none⟩, c, l.set i s⟩⟩ := by
  have hg := grown_set w G i s.val
  refine ⟨h.pg.kept hg (own_apart h.pg h.rt (by decide)), h.us.kept hg (own_apart h.us h.rt (by decide)), ?_, fun t ht => ?_⟩
  · have := (h.rt.stored i s.val).1
    rw [rwCells_set] at this
    show World.ownsRow _ _ _ _ (.slice _ (l.set i s).length _) (l.set i s).length _
    rw [List.length_set]
    exact this
  · have ht : t ∈ l.set i s := ht
    rcases List.mem_or_eq_of_mem_set ht with ht | rfl
    · exact ⟨(h.each t ht).1.kept hg (own_apart (h.each t ht).1 h.rt (by decide)), (h.each t ht).2⟩
    · exact ⟨hs.kept hg (own_apart hs h.rt (by decide)), ha⟩
/-- A block of another type, where a row is written. -/
theorem Blk.kept {w w' : World} {A b s n : Nat} {e t : TypeId} {v : Value} {xs : List Value} {cs : Array Value} (h : Blk w A cs t) (ho : w.ownsRow b e s v n xs) (hne : e ≠ t) (hg : w.grownBy w' v.ownBlock) : Blk w' A cs t :=
  (hg.block A h.lt fun e => by
    rcases own_blk ho h hne with h1 | h1
    · rw [h1] at e; cases e
    · exact h1 e.symm).trans h
theorem Sl.int_own {w : World} {B : Nat} {s : Sv Int} (h : OwnS w B s) {i : Nat} (hi : i < s.l.length) : ∃ g, s.p = some ⟨g, 0, none⟩ ∧ w.cell? ⟨g, i, none⟩ = some (.int .i64 (s.l.getD i 0)) ∧ w.frozen? ⟨g, i, none⟩ = false := by
  obtain ⟨p, c, l⟩ := s
  obtain ⟨g, rfl⟩ := own_ptr h (by show 0 < l.length; have : i < l.length := hi; omega)
  exact ⟨g, rfl, own_cell h hi, h.frozenAt i⟩
theorem Ow.mono {w : World} {B B' : Nat} {x : Ds} (h : Ow w B x) (hb : B' ≤ B) : Ow w B' x :=
  ⟨own_mono h.pg hb, own_mono h.us hb, own_mono h.rt hb, fun s hs => ⟨own_mono (h.each s hs).1 hb, (h.each s hs).2⟩⟩
end Go.Proofs.Ytcnppcddpcpeoaa
