/-
  The walk of WatchWrites.
-/
import Derived.Test.YtngippkfmdcdoaaCutLaw
namespace Go.Proofs.Ytngippkfmdcdoaa
open Go.RowKit

set_option maxRecDepth 100000 in
set_option maxHeartbeats 4000000 in
theorem writesLaw_any (p : Option Addr) (cap : Nat) (l : List Ev) (c q i : Int) (w : World) (hS : Sl w 12 p l.length cap (evs l)) (hwf : ∀ e ∈ l, e.Wf) :
    Calls Try.prog 3 #[.slice p l.length cap, .int .i64 c, .int .i64 q, .int .i64 i] w fun e w' => e = .returned (.bool true) ∧ Below w.heap.size w w' := by
  go_enter Try.func3, Try.ntmps3
  go_wp2_with fail
  refine (begun_any w).mono ?_
  rintro _ w1 ⟨rfl, hb1⟩
  have hS1 := hS.below hb1
  go_wp2_with fail
  refine (whole_any p cap l w1 hS1 (evsWf_of hwf)).mono ?_
  rintro _ w2 ⟨rfl, hb2⟩
  have hS2 := hS1.below hb2
  replace hb2 := hb1.trans (hb2.mono hb1.size)
  clear hb1 hS1
  unfold ibi'
  dsimp only
  obtain ⟨r, hr⟩ : ∃ r, wholeM l = r := ⟨_, rfl⟩
  rw [hr]
  have Hr := Lib.hid hr; clear hr
  go_wp2_with fail
  refine (value_any p cap l c q i w2 hS2).mono ?_
  rintro _ w3 ⟨rfl, hb3⟩
  have hS3 := hS2.below hb3
  replace hb3 := hb2.trans (hb3.mono hb2.size)
  clear hb2 hS2
  unfold vbi
  dsimp only
  obtain ⟨v, hv⟩ : ∃ v, valueM l c q i = v := ⟨_, rfl⟩
  rw [hv]
  have Hv := Lib.hid hv; clear hv
  go_wp2_with fail
  have bV := Blk.mk_ w3 #[.int .i64 v.1.1, .int .i64 v.1.2] 28 rfl
  have hS4 := hS3.below ((Below.refl _ w3).alloc (Nat.le_refl _) (.cells #[.int .i64 v.1.1, .int .i64 v.1.2] 28))
  have hb4 := hb3.alloc hb3.size (.cells #[.int .i64 v.1.1, .int .i64 v.1.2] 28)
  generalize hBV : w3.heap.size = BV at *
  generalize w3.alloc (.cells #[.int .i64 v.1.1, .int .i64 v.1.2] 28) = w4 at *
  clear hBV hb3 hS3
  refine (last_any p cap l c q i w4 hS4).mono ?_
  rintro _ w5 ⟨rfl, hb5⟩
  have hS5 := hS4.below hb5
  have bV5 := bV.next hb5
  replace hb5 := hb4.trans (hb5.mono hb4.size)
  clear hb4 hS4 bV
  unfold ibi
  dsimp only
  obtain ⟨g, hg⟩ : ∃ g, lastM l c q i = g := ⟨_, rfl⟩
  rw [hg]
  have Hg := Lib.hid hg; clear hg
  obtain ⟨⟨va, vb⟩, is, ve⟩ := v
  obtain ⟨k, no, er⟩ := r
  obtain ⟨lk, was, le⟩ := g
  dsimp only at *
  by_cases hok : chk l.length i = 0 ∧ no = false
  · obtain ⟨hc, rfl⟩ := hok
    obtain ⟨h0, h1, h2⟩ := chk_zero hc
    obtain ⟨n, rfl⟩ := Int.eq_ofNat_of_zero_le h0
    have hn : n ≤ l.length := by omega
    have hc0 : chk l.length 0 = 0 := chk_of (by omega) (by omega) h2
    have hfit := whole_fit hc0 (by rw [Hr.out])
    have her : er = 0 := by
      have h : (wholeM l).2.2 = 0 := by unfold wholeM; rw [if_pos hc0]; split <;> rfl
      rw [Hr.out] at h; exact h
    have hve : ve = 0 := by
      have h : (valueM l c q n).2.2 = 0 := by unfold valueM; rw [if_pos hc]; split <;> (try split) <;> rfl
      rw [Hv.out] at h; exact h
    have hle : le = 0 := by
      have h : (lastM l c q n).2.2 = 0 := by unfold lastM; rw [if_pos hc]; split <;> rfl
      rw [Hg.out] at h; exact h
    subst her hve hle
    have cV0 : w5.cell? ⟨BV, 0, none⟩ = some (.int .i64 va) := bV5.cell 0
    have cV1 : w5.cell? ⟨BV, 1, none⟩ = some (.int .i64 vb) := bV5.cell 1
    go_wp2_with fail
    have hwas : was = true → is = true ∧ ∃ k : Nat, lk = (k : Int) ∧ k < l.length ∧ (at_ l k).v1 = va ∧ (at_ l k).v2 = vb := fun hw => by
      subst hw
      cases hl : lastBelow (fun j => (at_ l j).wr c q) n with
      | none =>
        have h := Hg.out
        unfold lastM at h
        rw [if_pos hc, Int.toNat_natCast, hl] at h
        simp at h
      | some j =>
        have h := Hg.out
        unfold lastM at h
        rw [if_pos hc, Int.toNat_natCast, hl] at h
        have h' := Hv.out
        rw [value_of_last hn hc hfit hl] at h'
        simp only [Prod.mk.injEq] at h h'
        obtain ⟨hj, -, -⟩ := lastBelow_eq hl
        exact ⟨h'.2.1.symm, j, h.1.symm, by omega, h'.1.1, h'.1.2⟩
    have his : is = (firstFrom (fun j => (at_ l j).inSlot c q) 0 l.length).isSome := by
      have h := value_is (c := c) (q := q) hn hc
      rw [Hv.out] at h; exact h
    have His := Lib.hid his; clear his
    have next : ∀ w6, Below w5.heap.size w5 w6 → w6.cell? ⟨BV, 0, none⟩ = some (.int .i64 va) ∧ w6.cell? ⟨BV, 1, none⟩ = some (.int .i64 vb) ∧ Sl w6 12 p l.length cap (evs l) ∧ Below w.heap.size w w6 := fun w6 h =>
      ⟨(bV5.next h).cell 0, (bV5.next h).cell 1, hS5.below h, hb5.trans (h.mono hb5.size)⟩
    have hc1' : n < l.length → chk l.length ((n : Int) + 1) = 0 := fun h => chk_of (by omega) (by omega) h2
    have fin : ∀ w6, Below w5.heap.size w5 w6 → n < l.length → ∃ u : Int × Int, valueM l c q ((n : Int) + 1) = (u, is, 0) ∧ ((at_ l n).wr c q = false → u = (va, vb)) := fun w6 _ h => by
      have hc1 := hc1' h
      obtain ⟨⟨u, us, ue⟩, hu⟩ : ∃ u, valueM l c q ((n : Int) + 1) = u := ⟨_, rfl⟩
      have h1 : (valueM l c q ((n : Int) + 1)).2.1 = _ := value_is (n := n + 1) (c := c) (q := q) (by omega) (by rw [Int.natCast_add]; exact hc1)
      have h3 : (valueM l c q ((n : Int) + 1)).2.2 = 0 := by unfold valueM; rw [if_pos hc1]; split <;> (try split) <;> rfl
      have h4 := fun hw => value_next (c := c) (q := q) h hc hc1 hfit hw
      rw [hu] at h1 h3 h4
      rw [Hv.out] at h4
      dsimp only at h1 h3 h4
      refine ⟨u, ?_, h4⟩
      rw [hu, h1, h3, His.out]
    clear bV5
    cases was with
    | false =>
      clear hwas
      go_quiet (fail)
      have nx := next (w5.drewN nq) ⟨rfl, rfl, rfl, Nat.le_refl _, fun _ _ => rfl⟩
      generalize w5.drewN nq = w6 at *
      obtain ⟨cA, cB, hS6, hb6⟩ := nx
      clear next cV0 cV1 hS5 hb5
      rcases Nat.lt_or_ge n l.length with hlt | hlt
      · obtain ⟨⟨ua, ub⟩, hu, huv⟩ := fin w5 (Below.refl _ _) hlt
        obtain ⟨b', off', hp', hb', -⟩ := hS6.row.cons (by simp; omega)
        obtain rfl := hp'
        have hlt' : (n : Int) < (l.length : Int) := by omega
        have Hu := Lib.hid hu
        clear hu fin hfit hc0 hc1'
        have Hc := Lib.hid hc; have Huv := Lib.hid huv; have hn2 : (n : Int) ≤ 200 := by omega
        have hn3 : 0 ≤ (n : Int) := by omega
        clear hc huv hn h0 h1 h2
        go_wp2_with fail
        with_reducible refine (value_any _ cap l c q ((n : Int) + 1) w6 hS6).mono ?_
        rintro _ w7 ⟨rfl, hb7⟩
        have cA7 := (hb7.cell (p := ⟨BV, 0, none⟩) (World.block_lt_of_cell? _ _ cA)).trans cA
        have cB7 := (hb7.cell (p := ⟨BV, 1, none⟩) (World.block_lt_of_cell? _ _ cB)).trans cB
        have hS7 := hS6.below hb7
        have hE7 := hS7.ev_at hlt
        rw [show l.getD n .z = at_ l n from rfl] at hE7
        replace hb7 := hb6.trans (hb7.mono hb6.size)
        clear cA cB hS6 hb6
        rw [Hu.out]
        unfold vbi
        dsimp only
        have f0 := fun o => cell_more o hE7.h0
        have f1 := fun o => cell_more o hE7.h1
        have f2 := fun o => cell_more o hE7.h2
        have f3 := fun o => cell_more o hE7.h3
        have f4 := fun o => cell_more o hE7.h4
        have f5 := fun o => cell_more o hE7.h5
        have f6 := fun o => cell_more o hE7.h6
        have f7 := fun o => cell_more o hE7.h7
        have f8 := fun o => cell_more o hE7.h8
        have f9 := fun o => cell_more o hE7.h9
        have f10 := fun o => cell_more o hE7.h10
        have f11 := fun o => cell_more o hE7.h11
        have hx : ∀ b : Bool, (b != b) = false := fun b => by cases b <;> rfl
        have hal : ∀ o, Below w.heap.size w (w7.alloc o) := fun o => hb7.alloc hb7.size o
        obtain ⟨e, he⟩ : ∃ e, at_ l n = e := ⟨_, rfl⟩
        rw [he] at f0 f1 f2 f3 f4 f5 f6 f7 f8 f9 f10 f11
        have huv' : (e.k == 4 && (e.A == c && e.B == q)) = false → (ua, ub) = (va, vb) := fun h => Huv.out (by
          rw [he]
          unfold Ev.wr Ev.inSlot Ev.isRW
          cases h4 : e.k == 4
          · simp
          · rw [h4] at h; simpa using h)
        have gA := fun o => cell_more o cA7
        have gB := fun o => cell_more o cB7
        have hz7 := hb7.size
        have Hv' := Lib.hid huv'; clear huv' he Huv hE7 hS7 cA7 cB7
        go_wp2_with fail
        with_reducible refine (isAt_any 4 c q e _).mono ?_
        rintro _ w8 ⟨rfl, hb8⟩
        have gA8 := (hb8.cell (p := ⟨BV, 0, none⟩) (World.block_lt_of_cell? _ _ (gA _))).trans (gA _)
        have gB8 := (hb8.cell (p := ⟨BV, 1, none⟩) (World.block_lt_of_cell? _ _ (gB _))).trans (gB _)
        have bU := (Blk.mk_ w7 #[.int .i64 ua, .int .i64 ub] 28 rfl).next hb8
        have gU8 : w8.cell? ⟨w7.heap.size, 0, none⟩ = some (.int .i64 ua) := bU.cell 0
        have gW8 : w8.cell? ⟨w7.heap.size, 1, none⟩ = some (.int .i64 ub) := bU.cell 1
        replace hb8 := (hal _).trans (hb8.mono (hal _).size)
        clear f0 f1 f2 f3 f4 f5 f6 f7 f8 f9 f10 f11 hal gA gB bU
        cases hwr : (e.k == 4 && (e.A == c && e.B == q)) with
        | true =>
          go_wp2_with fail
          refine (begun_any w8).mono ?_
          rintro _ w9 ⟨rfl, hb9⟩
          go_wp2
          go_ret
          exact ⟨rfl, hb8.trans (hb9.mono hb8.size)⟩
        | false =>
          have huv := Hv'.out hwr
          simp only [Prod.mk.injEq] at huv
          obtain ⟨rfl, rfl⟩ := huv
          go_wp2_with fail
          refine (begun_any w8).mono ?_
          rintro _ w9 ⟨rfl, hb9⟩
          go_wp2
          go_ret
          exact ⟨rfl, hb8.trans (hb9.mono hb8.size)⟩
      · have hlt' : ¬ ((n : Int) < (l.length : Int)) := by omega
        clear fin
        go_wp2_with fail
        refine (begun_any w6).mono ?_
        rintro _ w7 ⟨rfl, hb7⟩
        go_wp2
        go_ret
        exact ⟨rfl, hb6.trans (hb7.mono hb6.size)⟩
    | true =>
      obtain ⟨rfl, j, rfl, hj, hva, hvb⟩ := hwas rfl
      obtain ⟨b, off, rfl, hb, -⟩ := hS5.row.cons (by simp; omega)
      have hE := hS5.ev_at hj
      have hj' : (j : Int) < (l.length : Int) := by omega
      have e8 : w5.cell? ⟨b, off + j * 12 + 8, none⟩ = some (.int .i64 va) := by rw [← hva]; exact hE.h8
      have e9 : w5.cell? ⟨b, off + j * 12 + 9, none⟩ = some (.int .i64 vb) := by rw [← hvb]; exact hE.h9
      clear hwas hva hvb hE
      go_quiet (fail)
      have nx := next (w5.drewN nq) ⟨rfl, rfl, rfl, Nat.le_refl _, fun _ _ => rfl⟩
      clear e8 e9 hb hS
      generalize w5.drewN nq = w6 at *
      obtain ⟨cA, cB, hS6, hb6⟩ := nx
      clear next cV0 cV1 hS5 hb5
      rcases Nat.lt_or_ge n l.length with hlt | hlt
      · obtain ⟨⟨ua, ub⟩, hu, huv⟩ := fin w5 (Below.refl _ _) hlt
        obtain ⟨b', off', hp', hb', -⟩ := hS6.row.cons (by simp; omega)
        simp only [Option.some.injEq, Addr.mk.injEq, and_true] at hp'
        obtain ⟨rfl, rfl⟩ := hp'
        have hlt' : (n : Int) < (l.length : Int) := by omega
        have Hu := Lib.hid hu
        clear hu fin hfit hc0 hc1'
        have Hc := Lib.hid hc; have Huv := Lib.hid huv; have hn2 : (n : Int) ≤ 200 := by omega
        have hn3 : 0 ≤ (n : Int) := by omega
        clear hc huv hn h0 h1 h2
        go_wp2_with fail
        with_reducible refine (value_any _ cap l c q ((n : Int) + 1) w6 hS6).mono ?_
        rintro _ w7 ⟨rfl, hb7⟩
        have cA7 := (hb7.cell (p := ⟨BV, 0, none⟩) (World.block_lt_of_cell? _ _ cA)).trans cA
        have cB7 := (hb7.cell (p := ⟨BV, 1, none⟩) (World.block_lt_of_cell? _ _ cB)).trans cB
        have hS7 := hS6.below hb7
        have hE7 := hS7.ev_at hlt
        rw [show l.getD n .z = at_ l n from rfl] at hE7
        replace hb7 := hb6.trans (hb7.mono hb6.size)
        clear cA cB hS6 hb6
        rw [Hu.out]
        unfold vbi
        dsimp only
        have f0 := fun o => cell_more o hE7.h0
        have f1 := fun o => cell_more o hE7.h1
        have f2 := fun o => cell_more o hE7.h2
        have f3 := fun o => cell_more o hE7.h3
        have f4 := fun o => cell_more o hE7.h4
        have f5 := fun o => cell_more o hE7.h5
        have f6 := fun o => cell_more o hE7.h6
        have f7 := fun o => cell_more o hE7.h7
        have f8 := fun o => cell_more o hE7.h8
        have f9 := fun o => cell_more o hE7.h9
        have f10 := fun o => cell_more o hE7.h10
        have f11 := fun o => cell_more o hE7.h11
        have hx : ∀ b : Bool, (b != b) = false := fun b => by cases b <;> rfl
        have hal : ∀ o, Below w.heap.size w (w7.alloc o) := fun o => hb7.alloc hb7.size o
        obtain ⟨e, he⟩ : ∃ e, at_ l n = e := ⟨_, rfl⟩
        rw [he] at f0 f1 f2 f3 f4 f5 f6 f7 f8 f9 f10 f11
        have huv' : (e.k == 4 && (e.A == c && e.B == q)) = false → (ua, ub) = (va, vb) := fun h => Huv.out (by
          rw [he]
          unfold Ev.wr Ev.inSlot Ev.isRW
          cases h4 : e.k == 4
          · simp
          · rw [h4] at h; simpa using h)
        have gA := fun o => cell_more o cA7
        have gB := fun o => cell_more o cB7
        have hz7 := hb7.size
        have Hv' := Lib.hid huv'; clear huv' he Huv hE7 hS7 cA7 cB7
        go_wp2_with fail
        with_reducible refine (isAt_any 4 c q e _).mono ?_
        rintro _ w8 ⟨rfl, hb8⟩
        have gA8 := (hb8.cell (p := ⟨BV, 0, none⟩) (World.block_lt_of_cell? _ _ (gA _))).trans (gA _)
        have gB8 := (hb8.cell (p := ⟨BV, 1, none⟩) (World.block_lt_of_cell? _ _ (gB _))).trans (gB _)
        have bU := (Blk.mk_ w7 #[.int .i64 ua, .int .i64 ub] 28 rfl).next hb8
        have gU8 : w8.cell? ⟨w7.heap.size, 0, none⟩ = some (.int .i64 ua) := bU.cell 0
        have gW8 : w8.cell? ⟨w7.heap.size, 1, none⟩ = some (.int .i64 ub) := bU.cell 1
        replace hb8 := (hal _).trans (hb8.mono (hal _).size)
        clear f0 f1 f2 f3 f4 f5 f6 f7 f8 f9 f10 f11 hal gA gB bU
        cases hwr : (e.k == 4 && (e.A == c && e.B == q)) with
        | true =>
          go_wp2_with fail
          refine (begun_any w8).mono ?_
          rintro _ w9 ⟨rfl, hb9⟩
          go_wp2
          go_ret
          exact ⟨rfl, hb8.trans (hb9.mono hb8.size)⟩
        | false =>
          have huv := Hv'.out hwr
          simp only [Prod.mk.injEq] at huv
          obtain ⟨rfl, rfl⟩ := huv
          go_wp2_with fail
          refine (begun_any w8).mono ?_
          rintro _ w9 ⟨rfl, hb9⟩
          go_wp2
          go_ret
          exact ⟨rfl, hb8.trans (hb9.mono hb8.size)⟩
      · have hlt' : ¬ ((n : Int) < (l.length : Int)) := by omega
        clear fin
        go_wp2_with fail
        refine (begun_any w6).mono ?_
        rintro _ w7 ⟨rfl, hb7⟩
        go_wp2
        go_ret
        exact ⟨rfl, hb6.trans (hb7.mono hb6.size)⟩
  · have hbad : no = true ∨ (ve != 0) = true := by
      by_cases hc : chk l.length i = 0
      · left
        cases no
        · exact absurd ⟨hc, rfl⟩ hok
        · rfl
      · right
        have : ve = chk l.length i := by
          have h : (valueM l c q i).2.2 = chk l.length i := by unfold valueM; rw [if_neg hc]
          rw [Hv.out] at h; exact h
        rw [this]; simpa using hc
    clear hok
    rcases hbad with rfl | hve
    · go_wp2_with fail
      all_goals refine (begun_any _).mono ?_
      all_goals rintro _ w6 ⟨rfl, hb6⟩
      all_goals go_wp2
      all_goals go_ret
      all_goals exact ⟨rfl, hb5.trans (hb6.mono hb5.size)⟩
    · cases no
      all_goals go_wp2_with fail
      all_goals refine (begun_any _).mono ?_
      all_goals rintro _ w6 ⟨rfl, hb6⟩
      all_goals go_wp2
      all_goals go_ret
      all_goals exact ⟨rfl, hb5.trans (hb6.mono hb5.size)⟩
end Go.Proofs.Ytngippkfmdcdoaa
