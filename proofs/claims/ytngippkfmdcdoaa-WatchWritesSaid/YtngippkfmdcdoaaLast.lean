import Derived.Test.YtngippkfmdcdoaaWk2
import Derived.Test.YtngippkfmdcdoaaIter
import Derived.Test.YtngippkfmdcdoaaBlk
import Derived.RangeFuncBound
namespace Go.Proofs.Ytngippkfmdcdoaa
open Go.RowKit Go.Shelf
attribute [local go_sem] Oper.semAt_some

def ibi (x : Int × Bool × Int) : Value := .tuple #[.int .i64 x.1, .bool x.2.1, .int .i64 x.2.2]

theorem lastM_none {l l' : List Ev} {n : Nat} {c q : Int} (hl : l.take n = l') (hn : n = l'.length) (hc : chk l.length n = 0) (h : ∀ x ∈ down l' l'.length, x.2.wr c q = false) : lastM l c q n = (0, false, 0) := by
  unfold lastM
  rw [if_pos hc, Int.toNat_natCast, down_none hl hn (fun e => e.wr c q) h]
theorem lastM_some {l l' : List Ev} {n k : Nat} {c q : Int} (hl : l.take n = l') (hn : n = l'.length) (hc : chk l.length n = 0) {ini : List (Nat × Ev)} {x : Nat × Ev} (hk : k ≤ l'.length) (e : down l' k = ini ++ [x]) (h : ∀ y ∈ ini, y.2.wr c q = false) (hx : x.2.wr c q = true) : lastM l c q n = ((x.1 : Int), true, 0) := by
  unfold lastM
  rw [if_pos hc, Int.toNat_natCast, (down_some hl hn (fun e => e.wr c q) hk e h hx).1]

set_option maxRecDepth 100000 in
set_option maxHeartbeats 2000000 in
theorem last_any (p : Option Addr) (cap : Nat) (l : List Ev) (c q i : Int) (w : World) (hS : Sl w 12 p l.length cap (evs l)) :
    Calls Try.prog 9 #[.slice p l.length cap, .int .i64 c, .int .i64 q, .int .i64 i] w fun e w' => e = .returned (ibi (lastM l c q i)) ∧ Below w.heap.size w w' := by
  have hn : l.length ≤ 9223372036854775807 := Nat.le_trans hS.le hS.big
  refine (callsIn_wide (n := 5)).1 ?_
  refine callsIn_of_wp_marks Try.func9 rfl trivial ?_ rfl
  simp only [Try.ntmps9, List.size_toArray, List.length_cons, List.length_nil, Nat.reduceAdd, Nat.reduceSub, Array.replicate_succ, Array.replicate_zero, List.push_toArray, List.append_toArray, List.nil_append, List.cons_append]
  gi_wp2_with fail
  refine ⟨trivial, (callsIn_wide.2 (check_any _ _ _ _ _ hn)).mono ?_⟩
  rintro _ w1 ⟨rfl, hw1⟩
  have b0 : Blk w1 w.heap.size #[.int .i64 c] 3 := by rw [← hw1]; exact ((((Blk.mk_ w _ 3 rfl).alloc _).alloc _).alloc _).alloc _
  have b1 : Blk w1 (w.heap.size + 1) #[.int .i64 q] 3 := by rw [← hw1]; exact (((Blk.mk_ _ _ 3 (by simp)).alloc _).alloc _).alloc _
  have b2 : Blk w1 (w.heap.size + 1 + 1) #[.int .i64 0] 3 := by rw [← hw1]; exact ((Blk.mk_ _ _ 3 (by simp)).alloc _).alloc _
  have b3 : Blk w1 (w.heap.size + 1 + 1 + 1) #[.bool false] 4 := by rw [← hw1]; exact (Blk.mk_ _ _ 4 (by simp)).alloc _
  have b4 : Blk w1 (w.heap.size + 1 + 1 + 1 + 1) #[.int .i64 0] 24 := by rw [← hw1]; exact Blk.mk_ _ _ 24 (by simp)
  have hB1 : Below w.heap.size w w1 := by rw [← hw1]; repeat (first | exact Below.refl _ _ | refine Below.alloc ?_ (by first | exact Nat.le_refl _ | (simp; done) | (simp; omega)) _)
  have hz1 : w1.heap.size = w.heap.size + 1 + 1 + 1 + 1 + 1 := by rw [← hw1]; simp
  clear hw1
  by_cases hc : chk l.length i = 0
  · have hc' : (chk l.length i != 0) = false := by simpa using hc
    obtain ⟨h0, h1, h2⟩ := chk_zero hc
    obtain ⟨n, rfl⟩ := Int.eq_ofNat_of_zero_le h0
    have h1' : n ≤ l.length := by omega
    have h1c : n ≤ cap := Nat.le_trans h1' hS.le
    have hS1 := (hS.below hB1).ev_take h1'
    obtain ⟨l', hl'⟩ : ∃ l', l.take n = l' := ⟨_, rfl⟩
    have hn' : n = l'.length := by rw [← hl']; simp; omega
    rw [hl'] at hS1
    have Hl := Lib.hid hl'
    have Hn := Lib.hid hn'
    have Hc := Lib.hid hc; clear hc hl' hn'
    gi_wp2_with (refine ⟨trivial, ?_⟩; refine (back_in _ _ trivial rfl _ _ _ _).mono ?_; rintro _ w2 ⟨rfl, rfl⟩)
    have d0 := b0.alloc (.cells #[.slice p n cap] 22)
    have d1 := b1.alloc (.cells #[.slice p n cap] 22)
    have d2 := b2.alloc (.cells #[.slice p n cap] 22)
    have d3 := b3.alloc (.cells #[.slice p n cap] 22)
    have d4 := b4.alloc (.cells #[.slice p n cap] 22)
    have d5 := Blk.mk_ w1 #[.slice p n cap] 22 hz1
    have hBl : Below w1.heap.size w1 (w1.alloc (.cells #[.slice p n cap] 22)) := (Below.refl _ _).alloc (Nat.le_refl _) _
    have hS2 := hS1.below hBl
    replace hBl := hB1.trans (hBl.mono hB1.size)
    have hz2 : (w1.alloc (.cells #[.slice p n cap] 22)).heap.size = w.heap.size + 1 + 1 + 1 + 1 + 1 + 1 := by rw [World.size_alloc, hz1]
    clear b0 b1 b2 b3 b4 hS1 hB1
    generalize w1.alloc (.cells #[.slice p n cap] 22) = W0 at d0 d1 d2 d3 d4 d5 hS2 hBl hz2 ⊢
    clear hz1
    have hrow : ∃ b off, (0 < l'.length → p = some ⟨b, off, none⟩ ∧ b < W0.heap.size) ∧ ∀ j, j < l'.length → EvAt W0 b (off + j * 12) (l'.getD j .z) := by
      rcases Nat.eq_zero_or_pos l'.length with hz | hz
      · exact ⟨0, 0, fun h => by omega, fun j h => by omega⟩
      · obtain ⟨b, off, rfl, hb, -⟩ := hS2.row.cons (by simp; omega)
        exact ⟨b, off, fun _ => ⟨rfl, hb⟩, fun j hj => hS2.ev_at hj⟩
    obtain ⟨b, off, hp, hE⟩ := hrow
    have hll : l'.length ≤ 1000000 := by have := Hn.out; omega
    have d5c : W0.cell? ⟨w.heap.size + 1 + 1 + 1 + 1 + 1, 0, none⟩ = some (.slice p l'.length cap) := by rw [d5.cell, Hn.out]; rfl
    refine wpIn_rangeFunc_ownH rfl (by decide) (gf := 17) (lb := #[.pointer (some ⟨w.heap.size + 1 + 1 + 1 + 1 + 1, 0, none⟩)]) rfl trivial (enters_of Try.func17 (by kernel_rfl) rfl)
      (back_stops Fence.wide 4 trivial rfl (by decide) _ W0.heap.size p cap l' hll W0 (by omega) (Nat.le_refl _) d5c b off hp hE) belowK_t (belowK_b (Nat.le_refl _)) (Below.refl _ _) (fun _ => rfl)
      (fun pre W => (∀ x ∈ pre, x.2.wr c q = false) ∧ Below W0.heap.size W0 W)
      (fun j pre W => ((j = .ret ∧ ∃ ini x, pre = ini ++ [x] ∧ (∀ y ∈ ini, y.2.wr c q = false) ∧ x.2.wr c q = true ∧ Blk W (w.heap.size + 1 + 1) #[.int .i64 (x.1 : Int)] 3 ∧ Blk W (w.heap.size + 1 + 1 + 1) #[.bool true] 4 ∧ Blk W (w.heap.size + 1 + 1 + 1 + 1) #[.int .i64 0] 24)) ∧ Below w.heap.size w W)
      (OwnFrom.and (ownFrom_pure _ _) (ownFrom_below (Nat.le_refl _) (Nat.le_refl _)))
      (fun j => OwnFrom.and (Own.from (fun s A B row hs hg hr => by
        obtain ⟨hc, ini, x, e1, e2, e3, e4, e5, e6⟩ := hs
        exact ⟨hc, ini, x, e1, e2, e3, (Blk.own (t := 3) (fun _ : Unit => _)) () A B row e4 hg hr, (Blk.own (t := 4) (fun _ : Unit => _)) () A B row e5 hg hr, (Blk.own (t := 24) (fun _ : Unit => _)) () A B row e6 hg hr⟩) _) (ownFrom_below (Nat.le_refl _) (by omega)))
      ⟨by simp, Below.refl _ _⟩
      (fun x a' W => ∃ Bx, W0.heap.size ≤ Bx ∧ Blk W Bx x.2.cells.toArray 33 ∧ a' = { tmps := #[.slice p l.length cap, .int .i64 c, .int .i64 q, .int .i64 (n : Int), undef, .pointer (some ⟨w.heap.size, 0, none⟩), .pointer (some ⟨w.heap.size + 1, 0, none⟩), undef,
          .pointer (some ⟨w.heap.size + 1 + 1, 0, none⟩), .pointer (some ⟨w.heap.size + 1 + 1 + 1, 0, none⟩), .pointer (some ⟨w.heap.size + 1 + 1 + 1 + 1, 0, none⟩), .int .i64 (chk l.length n), .int .i64 (x.1 : Int), .pointer (some ⟨Bx, 0, none⟩),
          .slice p l.length cap, .int .i64 (n : Int), .int .i64 (chk l.length n), .int .i64 (chk l.length n), .bool false, undef, .slice p l.length cap, .int .i64 (n : Int), .slice p n cap,
          .func (.func 17) #[] #[.pointer (some ⟨w.heap.size + 1 + 1 + 1 + 1 + 1, 0, none⟩)], .int .i64 (x.1 : Int), x.2.val, undef, undef, undef, undef, undef, undef], defers := [] })
      (fun x a' => Own.from (fun s A B row hs hg hr => by
        obtain ⟨Bx, h1, h2, h3⟩ := hs
        exact ⟨Bx, h1, (Blk.own (t := 33) (fun _ : Unit => _)) () A B row h2 hg hr, h3⟩) _) ?assign ?body ?done ?stop
    case assign =>
      rintro y pre x W K ⟨hi, hB⟩ hK
      gi_wp2
      refine hK _ _ ((KeepsOthers.alloc _ _).from _) ((Below.refl _ W).alloc hB.size _) ⟨hi, hB.alloc hB.size _⟩ ⟨W.heap.size, hB.size, Blk.mk_ _ _ 33 rfl, rfl⟩
    case body =>
      rintro y pre x a' W hy ⟨r, hr⟩ ⟨hi, hB⟩ ⟨Bx, hBx, hX, rfl⟩ hlt
      obtain ⟨xi, e⟩ := x
      have hWz := hB.size
      have c0 : W.cell? ⟨w.heap.size, 0, none⟩ = some (.int .i64 c) := (d0.next hB).cell 0
      have c1 : W.cell? ⟨w.heap.size + 1, 0, none⟩ = some (.int .i64 q) := (d1.next hB).cell 0
      have x0 : W.cell? ⟨Bx, 0, none⟩ = some (.int .i64 e.k) := hX.cell 0
      have x1 : W.cell? ⟨Bx, 1, none⟩ = some (.int .i64 e.s) := hX.cell 1
      have x2 : W.cell? ⟨Bx, 2, none⟩ = some (.int .i64 e.t) := hX.cell 2
      have x3 : W.cell? ⟨Bx, 3, none⟩ = some (.int .i64 e.f) := hX.cell 3
      have x4 : W.cell? ⟨Bx, 4, none⟩ = some (.int .i64 e.a) := hX.cell 4
      have x5 : W.cell? ⟨Bx, 5, none⟩ = some (.int .i64 e.l) := hX.cell 5
      have x6 : W.cell? ⟨Bx, 6, none⟩ = some (.int .i64 e.A) := hX.cell 6
      have x7 : W.cell? ⟨Bx, 7, none⟩ = some (.int .i64 e.B) := hX.cell 7
      have x8 : W.cell? ⟨Bx, 8, none⟩ = some (.int .i64 e.v1) := hX.cell 8
      have x9 : W.cell? ⟨Bx, 9, none⟩ = some (.int .i64 e.v2) := hX.cell 9
      have x10 : W.cell? ⟨Bx, 10, none⟩ = some (.int .i64 e.o1) := hX.cell 10
      have x11 : W.cell? ⟨Bx, 11, none⟩ = some (.int .i64 e.o2) := hX.cell 11
      gi_wp2_with fail
      refine ⟨trivial, (CallsIn.inRound y (callsIn_wide.2 (writes_any c q e _))).mono ?_⟩
      rintro _ W1 ⟨rfl, hb1⟩
      clear c0 c1 x0 x1 x2 x3 x4 x5 x6 x7 x8 x9 x10 x11 hX
      have hz1 := hb1.size
      have k2 := (d2.next hB).next hb1
      have k3 := (d3.next hB).next hb1
      have k4 := (d4.next hB).next hb1
      have m2 : W1.cell? ⟨w.heap.size + 1 + 1, 0, none⟩ = some (.int .i64 0) := k2.cell 0
      have m3 : W1.cell? ⟨w.heap.size + 1 + 1 + 1, 0, none⟩ = some (.bool false) := k3.cell 0
      have m4 : W1.cell? ⟨w.heap.size + 1 + 1 + 1 + 1, 0, none⟩ = some (.int .i64 0) := k4.cell 0
      have r2 := k2.frozen 0
      have r3 := k3.frozen 0
      have r4 := k4.frozen 0
      have hBt := hBl.trans ((hB.trans (hb1.mono hWz)).mono hBl.size)
      cases hwr : e.wr c q with
      | true =>
        gi_wp2
        refine ⟨(keeps_of_below hb1 _).trans ((((KeepsOthers.setCell _ _ _).trans (KeepsOthers.setCell _ _ _)).trans (KeepsOthers.setCell _ _ _)).from _), ⟨rfl, pre, (xi, e), rfl, hi, hwr, ((k2.set 0 _).other _ (by omega)).other _ (by omega), ((k3.other _ (by omega)).set 0 _).other _ (by omega), ((k4.other _ (by omega)).other _ (by omega)).set 0 _⟩, ?_⟩
        exact ((hBt.setCell (p := ⟨_, 0, none⟩) (by dsimp only; omega) _).setCell (p := ⟨_, 0, none⟩) (by dsimp only; omega) _).setCell (p := ⟨_, 0, none⟩) (by dsimp only; omega) _
      | false =>
        gi_wp2
        refine ⟨keeps_of_below hb1 _, hb1.mono hWz, fun x hx => ?_, hB.trans (hb1.mono hWz)⟩
        rcases List.mem_append.1 hx with hx | hx
        · exact hi x hx
        · rw [List.mem_singleton.1 hx]; exact hwr
    case done =>
      rintro D ys W hD rfl ⟨hi, hB⟩ hK
      have hz1 := hB.size
      have k2 := d2.next hB
      have k3 := d3.next hB
      have k4 := d4.next hB
      have m2 : W.cell? ⟨w.heap.size + 1 + 1, 0, none⟩ = some (.int .i64 0) := k2.cell 0
      have m3 : W.cell? ⟨w.heap.size + 1 + 1 + 1, 0, none⟩ = some (.bool false) := k3.cell 0
      have m4 : W.cell? ⟨w.heap.size + 1 + 1 + 1 + 1, 0, none⟩ = some (.int .i64 0) := k4.cell 0
      have r2 := k2.frozen 0
      have r3 := k3.frozen 0
      have r4 := k4.frozen 0
      have hm := lastM_none Hl.out Hn.out Hc.out hi
      have hBt := hBl.trans (hB.mono hBl.size)
      gi_wp2
      have hK' := (((KeepsOthers.setCell W ⟨w.heap.size + 1 + 1, 0, none⟩ (.int .i64 0)).trans (KeepsOthers.setCell _ ⟨w.heap.size + 1 + 1 + 1, 0, none⟩ (.bool false))).trans (KeepsOthers.setCell _ ⟨w.heap.size + 1 + 1 + 1 + 1, 0, none⟩ (.int .i64 0))).same D _ hK rfl
      refine ⟨by simp, .inl ⟨_, _, rfl, run_takeDeferred hK', ?_⟩⟩
      have q2 := (Blk.own (t := 3) (fun _ : Unit => _)).putObj (s := ()) (.deferred none) (((k2.set 0 (.int .i64 0)).other (.bool false) (C := w.heap.size + 1 + 1 + 1) (k := 0) (by omega)).other (.int .i64 0) (C := w.heap.size + 1 + 1 + 1 + 1) (k := 0) (by omega)) hK' rfl
      have q3 := (Blk.own (t := 4) (fun _ : Unit => _)).putObj (s := ()) (.deferred none) (((k3.other (.int .i64 0) (C := w.heap.size + 1 + 1) (k := 0) (by omega)).set 0 (.bool false)).other (.int .i64 0) (C := w.heap.size + 1 + 1 + 1 + 1) (k := 0) (by omega)) hK' rfl
      have q4 := (Blk.own (t := 24) (fun _ : Unit => _)).putObj (s := ()) (.deferred none) (((k4.other (.int .i64 0) (C := w.heap.size + 1 + 1) (k := 0) (by omega)).other (.bool false) (C := w.heap.size + 1 + 1 + 1) (k := 0) (by omega)).set 0 (.int .i64 0)) hK' rfl
      have o2 := q2.cell 0
      have o3 := q3.cell 0
      have o4 := q4.cell 0
      refine ⟨ibi (lastM l c q n), ?_, rfl, (((hBt.setCell (p := ⟨_, 0, none⟩) (by dsimp only; omega) _).setCell (p := ⟨_, 0, none⟩) (by dsimp only; omega) _).setCell (p := ⟨_, 0, none⟩) (by dsimp only; omega) _).trans (belowK_b (w := w) (Nat.le_refl _) _ D _ _ (by omega) hK' rfl rfl)⟩
      rw [hm]
      simp [results, Try.f9, go_sem, o2, o3, o4, ibi]
    case stop =>
      rintro D j pre W hD ⟨k, hk, rfl⟩ ⟨⟨rfl, ini, x, e1, e2, e3, e4, e5, e6⟩, hB⟩ hK
      have hm := lastM_some Hl.out Hn.out Hc.out hk e1 e2 e3
      gi_wp2
      refine ⟨by simp, .inl ⟨_, _, rfl, run_takeDeferred hK, ?_⟩⟩
      have q2 := (Blk.own (t := 3) (fun _ : Unit => _)).putObj (s := ()) (.deferred none) e4 hK rfl
      have q3 := (Blk.own (t := 4) (fun _ : Unit => _)).putObj (s := ()) (.deferred none) e5 hK rfl
      have q4 := (Blk.own (t := 24) (fun _ : Unit => _)).putObj (s := ()) (.deferred none) e6 hK rfl
      have o2 := q2.cell 0
      have o3 := q3.cell 0
      have o4 := q4.cell 0
      refine ⟨ibi (lastM l c q n), ?_, rfl, hB.trans (belowK_b (w := w) (Nat.le_refl _) _ D _ _ (by omega) hK rfl rfl)⟩
      rw [hm]
      simp [results, Try.f9, go_sem, o2, o3, o4, ibi]
  · have hc' : (chk l.length i != 0) = true := by simpa using hc
    have m2 : w1.cell? ⟨w.heap.size + 1 + 1, 0, none⟩ = some (.int .i64 0) := b2.cell 0
    have m3 : w1.cell? ⟨w.heap.size + 1 + 1 + 1, 0, none⟩ = some (.bool false) := b3.cell 0
    have m4 : w1.cell? ⟨w.heap.size + 1 + 1 + 1 + 1, 0, none⟩ = some (.int .i64 0) := b4.cell 0
    have r2 := b2.frozen 0
    have r3 := b3.frozen 0
    have r4 := b4.frozen 0
    have hm : lastM l c q i = (0, false, chk l.length i) := by unfold lastM; rw [if_neg hc]
    have Hc := Lib.hid hc; clear hc
    have Hm := Lib.hid hm; clear hm
    gi_wp2
    have q2 := ((b2.set 0 (.int .i64 0)).other (.bool false) (C := w.heap.size + 1 + 1 + 1) (k := 0) (by omega)).other (.int .i64 (chk l.length i)) (C := w.heap.size + 1 + 1 + 1 + 1) (k := 0) (by omega)
    have q3 := ((b3.other (.int .i64 0) (C := w.heap.size + 1 + 1) (k := 0) (by omega)).set 0 (.bool false)).other (.int .i64 (chk l.length i)) (C := w.heap.size + 1 + 1 + 1 + 1) (k := 0) (by omega)
    have q4 := ((b4.other (.int .i64 0) (C := w.heap.size + 1 + 1) (k := 0) (by omega)).other (.bool false) (C := w.heap.size + 1 + 1 + 1) (k := 0) (by omega)).set 0 (.int .i64 (chk l.length i))
    have o2 := q2.cell 0
    have o3 := q3.cell 0
    have o4 := q4.cell 0
    refine ⟨ibi (lastM l c q i), ?_, rfl, ((hB1.setCell (p := ⟨_, 0, none⟩) (by dsimp only; omega) _).setCell (p := ⟨_, 0, none⟩) (by dsimp only; omega) _).setCell (p := ⟨_, 0, none⟩) (by dsimp only; omega) _⟩
    rw [Hm.out]
    simp [results, Try.f9, go_sem, o2, o3, o4, ibi]
end Go.Proofs.Ytngippkfmdcdoaa
