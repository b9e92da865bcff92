/-
  The walk of Value.
-/
import Derived.Test.YtngippkfmdcdoaaLast
import Derived.Test.YtngippkfmdcdoaaCut
namespace Go.Proofs.Ytngippkfmdcdoaa
open Go.RowKit Go.Shelf
attribute [local go_sem] Oper.semAt_some

def vbi (x : (Int × Int) × Bool × Int) : Value := .tuple #[.agg #[.int .i64 x.1.1, .int .i64 x.1.2], .bool x.2.1, .int .i64 x.2.2]

theorem valueM_some {l l' : List Ev} {n k : Nat} {c q : Int} (hl : l.take n = l') (hn : n = l'.length) (hc : chk l.length n = 0) {ini : List (Nat × Ev)} {x : Nat × Ev} (hk : k ≤ l'.length) (e : down l' k = ini ++ [x]) (h : ∀ y ∈ ini, y.2.inSlot c q = false) (hx : x.2.inSlot c q = true) : valueM l c q n = ((x.2.v1, x.2.v2), true, 0) := by
  obtain ⟨h1, h2, -⟩ := down_some hl hn (fun e => e.inSlot c q) hk e h hx
  unfold valueM
  rw [if_pos hc, Int.toNat_natCast, h1]
  simp only [h2]

theorem valueM_else {l : List Ev} {n k : Nat} {c q : Int} (hc : chk l.length n = 0) (hno : lastBelow (fun j => (at_ l j).inSlot c q) n = none) (hk : n + k < l.length) (h : ∀ j, n ≤ j → j < n + k → (at_ l j).inSlot c q = false) (hx : (at_ l (n + k)).inSlot c q = true) :
    valueM l c q n = (if (at_ l (n + k)).k == 4 then ((at_ l (n + k)).o1, (at_ l (n + k)).o2) else ((at_ l (n + k)).v1, (at_ l (n + k)).v2), true, 0) := by
  have h1 : firstFrom (fun j => (at_ l j).inSlot c q) n (l.length - n) = some (n + k) := firstFrom_some (by omega) (by omega) h hx
  unfold valueM
  rw [if_pos hc, Int.toNat_natCast, hno]
  simp only [h1]
theorem valueM_none {l : List Ev} {n : Nat} {c q : Int} (hc : chk l.length n = 0) (hno : lastBelow (fun j => (at_ l j).inSlot c q) n = none) (h : ∀ j, n ≤ j → j < l.length → (at_ l j).inSlot c q = false) : valueM l c q n = ((0, 0), false, 0) := by
  have h1 : firstFrom (fun j => (at_ l j).inSlot c q) n (l.length - n) = none := firstFrom_none (fun x h1 h2 => h x h1 (by omega))
  unfold valueM
  rw [if_pos hc, Int.toNat_natCast, hno]
  simp only [h1]

set_option maxRecDepth 100000 in
set_option maxHeartbeats 4000000 in
theorem value_any (p : Option Addr) (cap : Nat) (l : List Ev) (c q i : Int) (w : World) (hS : Sl w 12 p l.length cap (evs l)) :
    Calls Try.prog 8 #[.slice p l.length cap, .int .i64 c, .int .i64 q, .int .i64 i] w fun e w' => e = .returned (vbi (valueM l c q i)) ∧ Below w.heap.size w w' := by
  have hn : l.length ≤ 9223372036854775807 := Nat.le_trans hS.le hS.big
  refine (callsIn_wide (n := 5)).1 ?_
  refine callsIn_of_wp_marks Try.func8 rfl trivial ?_ rfl
  simp only [Try.ntmps8, List.size_toArray, List.length_cons, List.length_nil, Nat.reduceAdd, Nat.reduceSub, Array.replicate_succ, Array.replicate_zero, List.push_toArray, List.append_toArray, List.nil_append, List.cons_append]
  gi_wp2_with fail
  refine ⟨trivial, (callsIn_wide.2 (check_any _ _ _ _ _ hn)).mono ?_⟩
  rintro _ w1 ⟨rfl, hw1⟩
  have b2 : Blk w1 w.heap.size #[.int .i64 0, .int .i64 0] 28 := by rw [← hw1]; exact ((Blk.mk_ _ _ 28 rfl).alloc _).alloc _
  have b3 : Blk w1 (w.heap.size + 1) #[.bool false] 4 := by rw [← hw1]; exact (Blk.mk_ _ _ 4 (by simp)).alloc _
  have b4 : Blk w1 (w.heap.size + 1 + 1) #[.int .i64 0] 24 := by rw [← hw1]; exact Blk.mk_ _ _ 24 (by simp)
  have hB1 : Below w.heap.size w w1 := by rw [← hw1]; repeat (first | exact Below.refl _ _ | refine Below.alloc ?_ (by first | exact Nat.le_refl _ | (simp; done) | (simp; omega)) _)
  have hz1 : w1.heap.size = w.heap.size + 1 + 1 + 1 := by rw [← hw1]; simp
  clear hw1
  by_cases hc : chk l.length i = 0
  · have hc' : (chk l.length i != 0) = false := by simpa using hc
    obtain ⟨h0, h1, h2⟩ := chk_zero hc
    obtain ⟨n, rfl⟩ := Int.eq_ofNat_of_zero_le h0
    have h1' : n ≤ l.length := by omega
    have h1c : n ≤ cap := Nat.le_trans h1' hS.le
    have hS1 := (hS.below hB1).ev_take h1'
    have hSl := hS.below hB1
    obtain ⟨l', hl'⟩ : ∃ l', l.take n = l' := ⟨_, rfl⟩
    have hn' : n = l'.length := by rw [← hl']; simp; omega
    rw [hl'] at hS1
    have Hl := Lib.hid hl'
    have Hn := Lib.hid hn'
    have Hc := Lib.hid hc; clear hc hl' hn'
    gi_wp2_with (refine ⟨trivial, ?_⟩; refine (back_in _ _ trivial rfl _ _ _ _).mono ?_; rintro _ w2 ⟨rfl, rfl⟩)
    have hBl : Below w1.heap.size w1 ((w1.alloc (.cells #[.int .i64 c, .int .i64 q] 45)).alloc (.cells #[.slice p n cap] 22)) := ((Below.refl _ _).alloc (Nat.le_refl _) _).alloc (by simp) _
    have d2 := b2.next hBl
    have d3 := b3.next hBl
    have d4 := b4.next hBl
    have d1 : Blk ((w1.alloc (.cells #[.int .i64 c, .int .i64 q] 45)).alloc (.cells #[.slice p n cap] 22)) (w.heap.size + 1 + 1 + 1) #[.int .i64 c, .int .i64 q] 45 := (Blk.mk_ _ _ 45 hz1).alloc _
    have d5 : Blk ((w1.alloc (.cells #[.int .i64 c, .int .i64 q] 45)).alloc (.cells #[.slice p n cap] 22)) (w.heap.size + 1 + 1 + 1 + 1) #[.slice p n cap] 22 := Blk.mk_ _ _ 22 (by rw [World.size_alloc, hz1])
    have hS2 := hS1.below hBl
    replace hSl := hSl.below hBl
    replace hBl := hB1.trans (hBl.mono hB1.size)
    have hz2 : ((w1.alloc (.cells #[.int .i64 c, .int .i64 q] 45)).alloc (.cells #[.slice p n cap] 22)).heap.size = w.heap.size + 1 + 1 + 1 + 1 + 1 := by rw [World.size_alloc, World.size_alloc, hz1]
    clear b2 b3 b4 hS1 hB1
    generalize (w1.alloc (.cells #[.int .i64 c, .int .i64 q] 45)).alloc (.cells #[.slice p n cap] 22) = W0 at d1 d2 d3 d4 d5 hS2 hBl hz2 hSl ⊢
    clear hz1
    have hrow : ∃ b off, (0 < l'.length → p = some ⟨b, off, none⟩ ∧ b < W0.heap.size) ∧ ∀ j, j < l'.length → EvAt W0 b (off + j * 12) (l'.getD j .z) := by
      rcases Nat.eq_zero_or_pos l'.length with hz | hz
      · exact ⟨0, 0, fun h => by omega, fun j h => by omega⟩
      · obtain ⟨b, off, rfl, hb, -⟩ := hS2.row.cons (by simp; omega)
        exact ⟨b, off, fun _ => ⟨rfl, hb⟩, fun j hj => hS2.ev_at hj⟩
    obtain ⟨b, off, hp, hE⟩ := hrow
    have hll : l'.length ≤ 1000000 := by have := Hn.out; omega
    have d5c : W0.cell? ⟨w.heap.size + 1 + 1 + 1 + 1, 0, none⟩ = some (.slice p l'.length cap) := by rw [d5.cell, Hn.out]; rfl
    refine wpIn_rangeFunc_ownH rfl (by decide) (gf := 17) (lb := #[.pointer (some ⟨w.heap.size + 1 + 1 + 1 + 1, 0, none⟩)]) rfl trivial (enters_of Try.func17 (by kernel_rfl) rfl)
      (back_stops Fence.wide 4 trivial rfl (by decide) _ W0.heap.size p cap l' hll W0 (by omega) (Nat.le_refl _) d5c b off hp hE) belowK_t (belowK_b (Nat.le_refl _)) (Below.refl _ _) (fun _ => rfl)
      (fun pre W => (∀ x ∈ pre, x.2.inSlot c q = false) ∧ Below W0.heap.size W0 W)
      (fun j pre W => ((j = .ret ∧ ∃ ini x, pre = ini ++ [x] ∧ (∀ y ∈ ini, y.2.inSlot c q = false) ∧ x.2.inSlot c q = true ∧ Blk W w.heap.size #[.int .i64 x.2.v1, .int .i64 x.2.v2] 28 ∧ Blk W (w.heap.size + 1) #[.bool true] 4 ∧ Blk W (w.heap.size + 1 + 1) #[.int .i64 0] 24)) ∧ Below w.heap.size w W)
      (OwnFrom.and (ownFrom_pure _ _) (ownFrom_below (Nat.le_refl _) (Nat.le_refl _)))
      (fun j => OwnFrom.and (Own.from (fun s A B row hs hg hr => by
        obtain ⟨hc, ini, x, e1, e2, e3, e4, e5, e6⟩ := hs
        exact ⟨hc, ini, x, e1, e2, e3, (Blk.own (t := 28) (fun _ : Unit => _)) () A B row e4 hg hr, (Blk.own (t := 4) (fun _ : Unit => _)) () A B row e5 hg hr, (Blk.own (t := 24) (fun _ : Unit => _)) () A B row e6 hg hr⟩) _) (ownFrom_below (Nat.le_refl _) (by omega)))
      ⟨by simp, Below.refl _ _⟩
      (fun x a' W => ∃ Bx, W0.heap.size ≤ Bx ∧ Blk W Bx x.2.cells.toArray 33 ∧ a' = { tmps := #[.slice p l.length cap, .int .i64 c, .int .i64 q, .int .i64 (n : Int), undef, undef, undef, undef, .pointer (some ⟨w.heap.size, 0, none⟩), .pointer (some ⟨w.heap.size + 1, 0, none⟩), .pointer (some ⟨w.heap.size + 1 + 1, 0, none⟩), .int .i64 (chk l.length n), .pointer (some ⟨w.heap.size + 1 + 1 + 1, 0, none⟩), undef, .pointer (some ⟨Bx, 0, none⟩), undef, undef, undef, undef, undef, undef, .slice p l.length cap, .int .i64 (n : Int), .int .i64 (chk l.length n), .int .i64 (chk l.length n), .bool false, undef, undef, .int .i64 c, .int .i64 q, .agg #[.int .i64 c, .int .i64 q], .slice p l.length cap, .int .i64 (n : Int), .slice p n cap, .func (.func 17) #[] #[.pointer (some ⟨w.heap.size + 1 + 1 + 1 + 1, 0, none⟩)], .int .i64 (x.1 : Int), x.2.val, undef, undef, undef, undef, undef, undef, undef, undef, undef, undef, undef, undef, undef, undef, undef, undef, undef, undef, undef, undef, undef, undef, undef, undef, undef, undef, undef, undef, undef, undef, undef, undef, undef, undef, undef, undef, undef, undef, undef, undef, undef, undef, undef, undef], defers := [] })
      (fun x a' => Own.from (fun s A B row hs hg hr => by
        obtain ⟨Bx, h1, h2, h3⟩ := hs
        exact ⟨Bx, h1, (Blk.own (t := 33) (fun _ : Unit => _)) () A B row h2 hg hr, h3⟩) _) ?assign ?body ?done ?stop
    case assign =>
      rintro y pre x W K ⟨hi, hB⟩ hK
      gi_wp2
      refine hK _ _ ((KeepsOthers.alloc _ _).from _) ((Below.refl _ W).alloc hB.size _) ⟨hi, hB.alloc hB.size _⟩ ⟨W.heap.size, hB.size, Blk.mk_ _ _ 33 rfl, rfl⟩
    case body =>
      rintro y pre x a' W hy ⟨r, hr⟩ ⟨hi, hB⟩ ⟨Bx, hBx, hX, rfl⟩ hlt
      obtain ⟨xi, e⟩ := x
      have hWz := hB.size
      have x0 : W.cell? ⟨Bx, 0, none⟩ = some (.int .i64 e.k) := hX.cell 0
      have x1 : W.cell? ⟨Bx, 1, none⟩ = some (.int .i64 e.s) := hX.cell 1
      have x2 : W.cell? ⟨Bx, 2, none⟩ = some (.int .i64 e.t) := hX.cell 2
      have x3 : W.cell? ⟨Bx, 3, none⟩ = some (.int .i64 e.f) := hX.cell 3
      have x4 : W.cell? ⟨Bx, 4, none⟩ = some (.int .i64 e.a) := hX.cell 4
      have x5 : W.cell? ⟨Bx, 5, none⟩ = some (.int .i64 e.l) := hX.cell 5
      have x6 : W.cell? ⟨Bx, 6, none⟩ = some (.int .i64 e.A) := hX.cell 6
      have x7 : W.cell? ⟨Bx, 7, none⟩ = some (.int .i64 e.B) := hX.cell 7
      have x8 : W.cell? ⟨Bx, 8, none⟩ = some (.int .i64 e.v1) := hX.cell 8
      have x9 : W.cell? ⟨Bx, 9, none⟩ = some (.int .i64 e.v2) := hX.cell 9
      have x10 : W.cell? ⟨Bx, 10, none⟩ = some (.int .i64 e.o1) := hX.cell 10
      have x11 : W.cell? ⟨Bx, 11, none⟩ = some (.int .i64 e.o2) := hX.cell 11
      gi_wp2_with fail
      refine ⟨trivial, (CallsIn.inRound y (callsIn_wide.2 (of_any e _))).mono ?_⟩
      rintro _ W1 ⟨rfl, hb1⟩
      clear x0 x1 x2 x3 x4 x5 x6 x7 x10 x11 x8 x9
      have hz1 := hb1.size
      have k1 := fun o => ((d1.next hB).next hb1).alloc o
      have k2 := fun o => ((d2.next hB).next hb1).alloc o
      have k3 := fun o => ((d3.next hB).next hb1).alloc o
      have k4 := fun o => ((d4.next hB).next hb1).alloc o
      have kX := fun o => (hX.next hb1).alloc o
      have c0 : ∀ o, (W1.alloc o).cell? ⟨w.heap.size + 1 + 1 + 1, 0, none⟩ = some (.int .i64 c) := fun o => (k1 o).cell 0
      have c1 : ∀ o, (W1.alloc o).cell? ⟨w.heap.size + 1 + 1 + 1, 1, none⟩ = some (.int .i64 q) := fun o => (k1 o).cell 1
      have m2 : ∀ o, (W1.alloc o).cell? ⟨w.heap.size, 0, none⟩ = some (.int .i64 0) := fun o => (k2 o).cell 0
      have m2' : ∀ o, (W1.alloc o).cell? ⟨w.heap.size, 1, none⟩ = some (.int .i64 0) := fun o => (k2 o).cell 1
      have m3 : ∀ o, (W1.alloc o).cell? ⟨w.heap.size + 1, 0, none⟩ = some (.bool false) := fun o => (k3 o).cell 0
      have m4 : ∀ o, (W1.alloc o).cell? ⟨w.heap.size + 1 + 1, 0, none⟩ = some (.int .i64 0) := fun o => (k4 o).cell 0
      have x8 : ∀ o, (W1.alloc o).cell? ⟨Bx, 8, none⟩ = some (.int .i64 e.v1) := fun o => (kX o).cell 8
      have x9 : ∀ o, (W1.alloc o).cell? ⟨Bx, 9, none⟩ = some (.int .i64 e.v2) := fun o => (kX o).cell 9
      have r2 := fun o => (k2 o).frozen 0
      have r2' := fun o => (k2 o).frozen 1
      have r3 := fun o => (k3 o).frozen 0
      have r4 := fun o => (k4 o).frozen 0
      have hb2 : ∀ o, Below W0.heap.size W (W1.alloc o) := fun o => (hb1.mono hWz).alloc (by omega) o
      have hBw : ∀ o, Below W0.heap.size W0 (W1.alloc o) := fun o => hB.trans (hb2 o)
      have hk1 : ∀ o, KeepsFrom W0.heap.size W (W1.alloc o) := fun o => (keeps_of_below hb1 W0.heap.size).trans ((KeepsOthers.alloc W1 o).from _)
      have hBt : ∀ o, Below w.heap.size w (W1.alloc o) := fun o => hBl.trans ((hBw o).mono hBl.size)
      have stay : e.inSlot c q = false → ∀ o, KeepsFrom W0.heap.size W (W1.alloc o) ∧ Below W0.heap.size W (W1.alloc o) ∧ (∀ x ∈ pre ++ [(xi, e)], x.2.inSlot c q = false) ∧ Below W0.heap.size W0 (W1.alloc o) := by
        intro hin o
        refine ⟨hk1 o, hb2 o, fun x hx => ?_, hBw o⟩
        rcases List.mem_append.1 hx with hx | hx
        · exact hi x hx
        · rw [List.mem_singleton.1 hx]; exact hin
      cases hR : e.isRW with
      | false =>
        gi_wp2
        exact stay (by unfold Ev.inSlot; rw [hR]; rfl) _
      | true =>
        by_cases hAB : e.A = c ∧ e.B = q
        · have hin : e.inSlot c q = true := by unfold Ev.inSlot; rw [hR, hAB.1, hAB.2]; simp
          obtain ⟨hA, hB'⟩ := hAB
          have Hin := Lib.hid hin
          clear hin
          gi_wp2
          refine ⟨(hk1 _).trans (((((KeepsOthers.setCell _ _ _).trans (KeepsOthers.setCell _ _ _)).trans (KeepsOthers.setCell _ _ _)).trans (KeepsOthers.setCell _ _ _)).from _), ⟨rfl, pre, (xi, e), rfl, hi, Hin.out,
            ((((k2 _).set 0 _).set 1 _).other _ (by omega)).other _ (by omega), ((((k3 _).other _ (by omega)).other _ (by omega)).set 0 _).other _ (by omega), ((((k4 _).other _ (by omega)).other _ (by omega)).other _ (by omega)).set 0 _⟩, ?_⟩
          exact ((((hBt _).setCell (p := ⟨_, _, none⟩) (by dsimp only; omega) _).setCell (p := ⟨_, _, none⟩) (by dsimp only; omega) _).setCell (p := ⟨_, 0, none⟩) (by dsimp only; omega) _).setCell (p := ⟨_, 0, none⟩) (by dsimp only; omega) _
        · have hin : e.inSlot c q = false := by
            unfold Ev.inSlot; rw [hR]; simpa using hAB
          have Hin := Lib.hid hin
          clear hin
          gi_wp2
          all_goals exact stay Hin.out _
    case done =>
      rintro D ys W hD rfl ⟨hi, hB⟩ hK
      have hz1 := hB.size
      have k2 := d2.next hB
      have k3 := d3.next hB
      have k4 := d4.next hB
      have k1 := d1.next hB
      have hnone := down_none Hl.out Hn.out (fun e => e.inSlot c q) hi
      have hSn := (hSl.below hB).from_ h1'
      have hBt := hBl.trans (hB.mono hBl.size)
      have Hnone := Lib.hid hnone; clear hnone hi
      obtain ⟨p', hp'⟩ : ∃ p' : Option Addr, (if cap = n then p else p.map (·.add (n * 12))) = p' := ⟨_, rfl⟩
      rw [hp'] at hSn
      have Hp' := Lib.hid hp'
      clear hp'
      rw [← evs_drop] at hSn
      obtain ⟨m, hm⟩ : ∃ m, l.length - n = m := ⟨_, rfl⟩
      rw [hm] at hSn
      obtain ⟨l2, hl2⟩ : ∃ l2, l.drop n = l2 := ⟨_, rfl⟩
      rw [hl2] at hSn
      have hl2n := hSn.ev_len
      have hat : ∀ k, k < m → l2.getD k .z = at_ l (n + k) := fun k hk => by
        rw [← hl2]; unfold at_; simp [List.getD_eq_getElem?_getD, List.getElem?_drop]
      have hm2 : m ≤ 200 := by omega
      have Hm := Lib.hid hm; have Hl2 := Lib.hid hl2; have Hl2n := Lib.hid hl2n; have Hat := Lib.hid hat
      clear hm hl2 hl2n hat
      gi_wp2_with (refine wpListIn_slice_l rfl _ _ 22 rfl 33 _ 12 Try.underlying22 rfl rfl p p' l.length cap n .i64 rfl rfl h1' Hp'.out m _ Hm.out rfl ?_)
      gi_loopw [54] (fun s wr => ∃ k : Nat, k ≤ m ∧ s = .int .i64 k ∧ Below W.heap.size W wr ∧ Hid (∀ j, n ≤ j → j < n + k → (at_ l j).inSlot c q = false)) (fun s _ => m - (intOf s).toNat)
      case atStart => exact ⟨0, Nat.zero_le _, by go_num, Below.refl _ _, fun j h1 h2 => by omega⟩
      case round =>
        obtain ⟨k, hk, rfl, hbk, hno⟩ := hrel
        have hwz := hbk.size
        rcases Nat.lt_or_ge k m with hkm | hkm
        · obtain ⟨b', off', rfl, hb', -⟩ := hSn.row.cons (by have := Hl2n.out; simp; omega)
          have hkm' : (k : Int) < (m : Int) := by omega
          have hE' := (hSn.ev_at (i := k) (by have := Hl2n.out; omega)).below hbk hb'
          rw [Hat.out k hkm] at hE'
          obtain ⟨e, he⟩ : ∃ e, at_ l (n + k) = e := ⟨_, rfl⟩
          rw [he] at hE'
          have He := Lib.hid he; have Hk := Lib.hid hkm; clear he hkm hk
          obtain ⟨g0, g1, g2, g3, g4, g5, g6, g7, g8, g9, g10, g11⟩ := hE'
          gi_wp2_with fail
          refine ⟨trivial, (callsIn_wide.2 (of_any e _)).mono ?_⟩
          rintro _ W1 ⟨rfl, hb1⟩
          clear g0 g1 g2 g3 g4 g5 g6 g7 g8 g9 g10 g11
          have hX0 := Blk.mk_ wr #[.int .i64 e.k, .int .i64 e.s, .int .i64 e.t, .int .i64 e.f, .int .i64 e.a, .int .i64 e.l, .int .i64 e.A, .int .i64 e.B, .int .i64 e.v1, .int .i64 e.v2, .int .i64 e.o1, .int .i64 e.o2] 33 rfl
          have hbw := ((Below.refl _ wr).alloc (Nat.le_refl _) (.cells #[.int .i64 e.k, .int .i64 e.s, .int .i64 e.t, .int .i64 e.f, .int .i64 e.a, .int .i64 e.l, .int .i64 e.A, .int .i64 e.B, .int .i64 e.v1, .int .i64 e.v2, .int .i64 e.o1, .int .i64 e.o2] 33)).trans (hb1.mono (by simp))
          have hX1 := hX0.next hb1
          have hbW : Below W.heap.size W W1 := hbk.trans (hbw.mono hwz)
          have hz3 := hbw.size
          clear hX0 hb1 hbw
          have k1 := fun o => (k1.next hbW).alloc o
          have k2 := fun o => (k2.next hbW).alloc o
          have k3 := fun o => (k3.next hbW).alloc o
          have k4 := fun o => (k4.next hbW).alloc o
          have kX := fun o => hX1.alloc o
          have c0 : ∀ o, (W1.alloc o).cell? ⟨w.heap.size + 1 + 1 + 1, 0, none⟩ = some (.int .i64 c) := fun o => (k1 o).cell 0
          have c1 : ∀ o, (W1.alloc o).cell? ⟨w.heap.size + 1 + 1 + 1, 1, none⟩ = some (.int .i64 q) := fun o => (k1 o).cell 1
          have m2 : ∀ o, (W1.alloc o).cell? ⟨w.heap.size, 0, none⟩ = some (.int .i64 0) := fun o => (k2 o).cell 0
          have m2' : ∀ o, (W1.alloc o).cell? ⟨w.heap.size, 1, none⟩ = some (.int .i64 0) := fun o => (k2 o).cell 1
          have m3 : ∀ o, (W1.alloc o).cell? ⟨w.heap.size + 1, 0, none⟩ = some (.bool false) := fun o => (k3 o).cell 0
          have m4 : ∀ o, (W1.alloc o).cell? ⟨w.heap.size + 1 + 1, 0, none⟩ = some (.int .i64 0) := fun o => (k4 o).cell 0
          have x0 : ∀ o, (W1.alloc o).cell? ⟨wr.heap.size, 0, none⟩ = some (.int .i64 e.k) := fun o => (kX o).cell 0
          have x8 : ∀ o, (W1.alloc o).cell? ⟨wr.heap.size, 8, none⟩ = some (.int .i64 e.v1) := fun o => (kX o).cell 8
          have x9 : ∀ o, (W1.alloc o).cell? ⟨wr.heap.size, 9, none⟩ = some (.int .i64 e.v2) := fun o => (kX o).cell 9
          have x10 : ∀ o, (W1.alloc o).cell? ⟨wr.heap.size, 10, none⟩ = some (.int .i64 e.o1) := fun o => (kX o).cell 10
          have x11 : ∀ o, (W1.alloc o).cell? ⟨wr.heap.size, 11, none⟩ = some (.int .i64 e.o2) := fun o => (kX o).cell 11
          have r2 := fun o => (k2 o).frozen 0
          have r2' := fun o => (k2 o).frozen 1
          have r3 := fun o => (k3 o).frozen 0
          have r4 := fun o => (k4 o).frozen 0
          have hDl : D < W.heap.size := (Array.getElem?_eq_some_iff.1 hK).1
          have hbo : ∀ o, Below W.heap.size W (W1.alloc o) := fun o => hbW.alloc hbW.size o
          have hKo : ∀ o, (W1.alloc o).heap[D]? = some (.deferred (some [])) := fun o => ((hbo o).block D hDl).trans hK
          have hBo : ∀ o, Below w.heap.size w (W1.alloc o) := fun o => hBt.trans ((hbo o).mono hBt.size)
          have hgo : e.inSlot c q = false → Hid (∀ j, n ≤ j → j < n + (k + 1) → (at_ l j).inSlot c q = false) := fun h j h1 h2 => by
            rcases Nat.lt_or_ge j (n + k) with h3 | h3
            · exact hno.out j h1 h3
            · rw [show j = n + k from by omega, He.out]; exact h
          cases hR : e.isRW with
          | false =>
            have Hin : Hid (e.inSlot c q = false) := by show e.inSlot c q = false; unfold Ev.inSlot; rw [hR]; rfl
            gi_wp2
            go_roundw
            case rel => exact ⟨k + 1, by have := Hk.out; omega, by go_num, hbo _, hgo Hin.out⟩
            case measure => have := Hk.out; simp [intOf]; omega
          | true =>
            by_cases hAB : e.A = c ∧ e.B = q
            · have Hin : Hid (e.inSlot c q = true) := by show e.inSlot c q = true; unfold Ev.inSlot; rw [hR, hAB.1, hAB.2]; simp
              have hv := valueM_else Hc.out Hnone.out (by have := Hk.out; have := Hm.out; omega) hno.out (by rw [He.out]; exact Hin.out)
              rw [He.out] at hv
              obtain ⟨hA, hB'⟩ := hAB
              by_cases h4 : e.k = 4
              · have d4 : (e.k == 4) = true := by simpa using h4
                rw [d4, if_pos rfl] at hv
                have Hv := Lib.hid hv; clear hv
                have H4 := Lib.hid h4; clear h4
                gi_wp2
                have hKf := ((((KeepsOthers.setCell _ ⟨w.heap.size, 0, none⟩ (.int .i64 e.o1)).trans (KeepsOthers.setCell _ ⟨w.heap.size, 1, none⟩ (.int .i64 e.o2))).trans (KeepsOthers.setCell _ ⟨w.heap.size + 1, 0, none⟩ (.bool true))).trans (KeepsOthers.setCell _ ⟨w.heap.size + 1 + 1, 0, none⟩ (.int .i64 0))).same D _ (hKo (.cells #[.int .i64 c, .int .i64 q] 45)) rfl
                have p2 := ((((k2 (.cells #[.int .i64 c, .int .i64 q] 45)).set 0 (.int .i64 e.o1)).set 1 (.int .i64 e.o2)).other (.bool true) (C := w.heap.size + 1) (k := 0) (by omega)).other (.int .i64 0) (C := w.heap.size + 1 + 1) (k := 0) (by omega)
                have p3 := ((((k3 (.cells #[.int .i64 c, .int .i64 q] 45)).other (.int .i64 e.o1) (C := w.heap.size) (k := 0) (by omega)).other (.int .i64 e.o2) (C := w.heap.size) (k := 1) (by omega)).set 0 (.bool true)).other (.int .i64 0) (C := w.heap.size + 1 + 1) (k := 0) (by omega)
                have p4 := ((((k4 (.cells #[.int .i64 c, .int .i64 q] 45)).other (.int .i64 e.o1) (C := w.heap.size) (k := 0) (by omega)).other (.int .i64 e.o2) (C := w.heap.size) (k := 1) (by omega)).other (.bool true) (C := w.heap.size + 1) (k := 0) (by omega)).set 0 (.int .i64 0)
                have hBf := ((((hBo (.cells #[.int .i64 c, .int .i64 q] 45)).setCell (p := ⟨w.heap.size, 0, none⟩) (by dsimp only; omega) (.int .i64 e.o1)).setCell (p := ⟨w.heap.size, 1, none⟩) (by dsimp only; omega) (.int .i64 e.o2)).setCell (p := ⟨w.heap.size + 1, 0, none⟩) (by dsimp only; omega) (.bool true)).setCell (p := ⟨w.heap.size + 1 + 1, 0, none⟩) (by dsimp only; omega) (.int .i64 0)
                refine ⟨by simp, .inl ⟨_, _, rfl, run_takeDeferred hKf, ?_⟩⟩
                have q2 := (Blk.own (t := 28) (fun _ : Unit => _)).putObj (s := ()) (.deferred none) p2 hKf rfl
                have q3 := (Blk.own (t := 4) (fun _ : Unit => _)).putObj (s := ()) (.deferred none) p3 hKf rfl
                have q4 := (Blk.own (t := 24) (fun _ : Unit => _)).putObj (s := ()) (.deferred none) p4 hKf rfl
                have o2 := q2.cell 0
                have o2' := q2.cell 1
                have o3 := q3.cell 0
                have o4 := q4.cell 0
                refine ⟨vbi (valueM l c q n), ?_, rfl, hBf.trans (belowK_b (w := w) (Nat.le_refl _) _ D _ _ (by omega) hKf rfl rfl)⟩
                rw [Hv.out]
                simp [results, Try.f8, go_sem, o2, o2', o3, o4, vbi]
              · have d4 : (e.k == 4) = false := by simpa using h4
                rw [d4, if_neg (by simp)] at hv
                have Hv := Lib.hid hv; clear hv
                have H4 := Lib.hid h4; clear h4
                gi_wp2
                have hKf := ((((KeepsOthers.setCell _ ⟨w.heap.size, 0, none⟩ (.int .i64 e.v1)).trans (KeepsOthers.setCell _ ⟨w.heap.size, 1, none⟩ (.int .i64 e.v2))).trans (KeepsOthers.setCell _ ⟨w.heap.size + 1, 0, none⟩ (.bool true))).trans (KeepsOthers.setCell _ ⟨w.heap.size + 1 + 1, 0, none⟩ (.int .i64 0))).same D _ (hKo (.cells #[.int .i64 c, .int .i64 q] 45)) rfl
                have p2 := ((((k2 (.cells #[.int .i64 c, .int .i64 q] 45)).set 0 (.int .i64 e.v1)).set 1 (.int .i64 e.v2)).other (.bool true) (C := w.heap.size + 1) (k := 0) (by omega)).other (.int .i64 0) (C := w.heap.size + 1 + 1) (k := 0) (by omega)
                have p3 := ((((k3 (.cells #[.int .i64 c, .int .i64 q] 45)).other (.int .i64 e.v1) (C := w.heap.size) (k := 0) (by omega)).other (.int .i64 e.v2) (C := w.heap.size) (k := 1) (by omega)).set 0 (.bool true)).other (.int .i64 0) (C := w.heap.size + 1 + 1) (k := 0) (by omega)
                have p4 := ((((k4 (.cells #[.int .i64 c, .int .i64 q] 45)).other (.int .i64 e.v1) (C := w.heap.size) (k := 0) (by omega)).other (.int .i64 e.v2) (C := w.heap.size) (k := 1) (by omega)).other (.bool true) (C := w.heap.size + 1) (k := 0) (by omega)).set 0 (.int .i64 0)
                have hBf := ((((hBo (.cells #[.int .i64 c, .int .i64 q] 45)).setCell (p := ⟨w.heap.size, 0, none⟩) (by dsimp only; omega) (.int .i64 e.v1)).setCell (p := ⟨w.heap.size, 1, none⟩) (by dsimp only; omega) (.int .i64 e.v2)).setCell (p := ⟨w.heap.size + 1, 0, none⟩) (by dsimp only; omega) (.bool true)).setCell (p := ⟨w.heap.size + 1 + 1, 0, none⟩) (by dsimp only; omega) (.int .i64 0)
                refine ⟨by simp, .inl ⟨_, _, rfl, run_takeDeferred hKf, ?_⟩⟩
                have q2 := (Blk.own (t := 28) (fun _ : Unit => _)).putObj (s := ()) (.deferred none) p2 hKf rfl
                have q3 := (Blk.own (t := 4) (fun _ : Unit => _)).putObj (s := ()) (.deferred none) p3 hKf rfl
                have q4 := (Blk.own (t := 24) (fun _ : Unit => _)).putObj (s := ()) (.deferred none) p4 hKf rfl
                have o2 := q2.cell 0
                have o2' := q2.cell 1
                have o3 := q3.cell 0
                have o4 := q4.cell 0
                refine ⟨vbi (valueM l c q n), ?_, rfl, hBf.trans (belowK_b (w := w) (Nat.le_refl _) _ D _ _ (by omega) hKf rfl rfl)⟩
                rw [Hv.out]
                simp [results, Try.f8, go_sem, o2, o2', o3, o4, vbi]
            · have Hin : Hid (e.inSlot c q = false) := by
                show e.inSlot c q = false
                unfold Ev.inSlot; rw [hR]; simpa using hAB
              gi_wp2
              all_goals go_roundw
              all_goals first
                | exact ⟨k + 1, by have := Hk.out; omega, by go_num, hbo _, hgo Hin.out⟩
                | (have := Hk.out; simp [intOf]; omega)
        · obtain rfl : k = m := by omega
          have hkm' : (k : Int) ≥ (k : Int) := Int.le_refl _
          have hv := valueM_none Hc.out Hnone.out (fun j h1 h2 => hno.out j h1 (by have := Hm.out; omega))
          have Hv := Lib.hid hv; clear hv
          have k2 := k2.next hbk
          have k3 := k3.next hbk
          have k4 := k4.next hbk
          have m2 : wr.cell? ⟨w.heap.size, 0, none⟩ = some (.int .i64 0) := k2.cell 0
          have m2' : wr.cell? ⟨w.heap.size, 1, none⟩ = some (.int .i64 0) := k2.cell 1
          have m3 : wr.cell? ⟨w.heap.size + 1, 0, none⟩ = some (.bool false) := k3.cell 0
          have m4 : wr.cell? ⟨w.heap.size + 1 + 1, 0, none⟩ = some (.int .i64 0) := k4.cell 0
          have r2 := k2.frozen 0
          have r2' := k2.frozen 1
          have r3 := k3.frozen 0
          have r4 := k4.frozen 0
          have hDl : D < W.heap.size := (Array.getElem?_eq_some_iff.1 hK).1
          have hKo := (hbk.block D hDl).trans hK
          have hBo := hBt.trans (hbk.mono hBt.size)
          gi_wp2
          have hKf := ((((KeepsOthers.setCell _ ⟨w.heap.size, 0, none⟩ (.int .i64 0)).trans (KeepsOthers.setCell _ ⟨w.heap.size, 1, none⟩ (.int .i64 0))).trans (KeepsOthers.setCell _ ⟨w.heap.size + 1, 0, none⟩ (.bool false))).trans (KeepsOthers.setCell _ ⟨w.heap.size + 1 + 1, 0, none⟩ (.int .i64 0))).same D _ (hKo) rfl
          have p2 := ((((k2).set 0 (.int .i64 0)).set 1 (.int .i64 0)).other (.bool false) (C := w.heap.size + 1) (k := 0) (by omega)).other (.int .i64 0) (C := w.heap.size + 1 + 1) (k := 0) (by omega)
          have p3 := ((((k3).other (.int .i64 0) (C := w.heap.size) (k := 0) (by omega)).other (.int .i64 0) (C := w.heap.size) (k := 1) (by omega)).set 0 (.bool false)).other (.int .i64 0) (C := w.heap.size + 1 + 1) (k := 0) (by omega)
          have p4 := ((((k4).other (.int .i64 0) (C := w.heap.size) (k := 0) (by omega)).other (.int .i64 0) (C := w.heap.size) (k := 1) (by omega)).other (.bool false) (C := w.heap.size + 1) (k := 0) (by omega)).set 0 (.int .i64 0)
          have hBf := ((((hBo).setCell (p := ⟨w.heap.size, 0, none⟩) (by dsimp only; omega) (.int .i64 0)).setCell (p := ⟨w.heap.size, 1, none⟩) (by dsimp only; omega) (.int .i64 0)).setCell (p := ⟨w.heap.size + 1, 0, none⟩) (by dsimp only; omega) (.bool false)).setCell (p := ⟨w.heap.size + 1 + 1, 0, none⟩) (by dsimp only; omega) (.int .i64 0)
          refine ⟨by simp, .inl ⟨_, _, rfl, run_takeDeferred hKf, ?_⟩⟩
          have q2 := (Blk.own (t := 28) (fun _ : Unit => _)).putObj (s := ()) (.deferred none) p2 hKf rfl
          have q3 := (Blk.own (t := 4) (fun _ : Unit => _)).putObj (s := ()) (.deferred none) p3 hKf rfl
          have q4 := (Blk.own (t := 24) (fun _ : Unit => _)).putObj (s := ()) (.deferred none) p4 hKf rfl
          have o2 := q2.cell 0
          have o2' := q2.cell 1
          have o3 := q3.cell 0
          have o4 := q4.cell 0
          refine ⟨vbi (valueM l c q n), ?_, rfl, hBf.trans (belowK_b (w := w) (Nat.le_refl _) _ D _ _ (by omega) hKf rfl rfl)⟩
          rw [Hv.out]
          simp [results, Try.f8, go_sem, o2, o2', o3, o4, vbi]
    case stop =>
      rintro D j pre W hD ⟨k, hk, rfl⟩ ⟨⟨rfl, ini, x, e1, e2, e3, e4, e5, e6⟩, hB⟩ hK
      have hm := valueM_some Hl.out Hn.out Hc.out hk e1 e2 e3
      gi_wp2
      refine ⟨by simp, .inl ⟨_, _, rfl, run_takeDeferred hK, ?_⟩⟩
      have q2 := (Blk.own (t := 28) (fun _ : Unit => _)).putObj (s := ()) (.deferred none) e4 hK rfl
      have q3 := (Blk.own (t := 4) (fun _ : Unit => _)).putObj (s := ()) (.deferred none) e5 hK rfl
      have q4 := (Blk.own (t := 24) (fun _ : Unit => _)).putObj (s := ()) (.deferred none) e6 hK rfl
      have o2 := q2.cell 0
      have o2' := q2.cell 1
      have o3 := q3.cell 0
      have o4 := q4.cell 0
      refine ⟨vbi (valueM l c q n), ?_, rfl, hB.trans (belowK_b (w := w) (Nat.le_refl _) _ D _ _ (by omega) hK rfl rfl)⟩
      rw [hm]
      simp [results, Try.f8, go_sem, o2, o2', o3, o4, vbi]
  · have hc' : (chk l.length i != 0) = true := by simpa using hc
    have m2 : w1.cell? ⟨w.heap.size, 0, none⟩ = some (.int .i64 0) := b2.cell 0
    have m2' : w1.cell? ⟨w.heap.size, 1, none⟩ = some (.int .i64 0) := b2.cell 1
    have m3 : w1.cell? ⟨w.heap.size + 1, 0, none⟩ = some (.bool false) := b3.cell 0
    have m4 : w1.cell? ⟨w.heap.size + 1 + 1, 0, none⟩ = some (.int .i64 0) := b4.cell 0
    have r2 := b2.frozen 0
    have r2' := b2.frozen 1
    have r3 := b3.frozen 0
    have r4 := b4.frozen 0
    have hm : valueM l c q i = ((0, 0), false, chk l.length i) := by unfold valueM; rw [if_neg hc]
    have Hc := Lib.hid hc; clear hc
    have Hm := Lib.hid hm; clear hm
    gi_wp2
    have q2 := (((b2.set 0 (.int .i64 0)).set 1 (.int .i64 0)).other (.bool false) (C := w.heap.size + 1) (k := 0) (by omega)).other (.int .i64 (chk l.length i)) (C := w.heap.size + 1 + 1) (k := 0) (by omega)
    have q3 := (((b3.other (.int .i64 0) (C := w.heap.size) (k := 0) (by omega)).other (.int .i64 0) (C := w.heap.size) (k := 1) (by omega)).set 0 (.bool false)).other (.int .i64 (chk l.length i)) (C := w.heap.size + 1 + 1) (k := 0) (by omega)
    have q4 := (((b4.other (.int .i64 0) (C := w.heap.size) (k := 0) (by omega)).other (.int .i64 0) (C := w.heap.size) (k := 1) (by omega)).other (.bool false) (C := w.heap.size + 1) (k := 0) (by omega)).set 0 (.int .i64 (chk l.length i))
    have o2 := q2.cell 0
    have o2' := q2.cell 1
    have o3 := q3.cell 0
    have o4 := q4.cell 0
    refine ⟨vbi (valueM l c q i), ?_, rfl, (((hB1.setCell (p := ⟨_, 0, none⟩) (by dsimp only; omega) _).setCell (p := ⟨_, 1, none⟩) (by dsimp only; omega) _).setCell (p := ⟨_, 0, none⟩) (by dsimp only; omega) _).setCell (p := ⟨_, 0, none⟩) (by dsimp only; omega) _⟩
    rw [Hm.out]
    simp [results, Try.f8, go_sem, o2, o2', o3, o4, vbi]
end Go.Proofs.Ytngippkfmdcdoaa
