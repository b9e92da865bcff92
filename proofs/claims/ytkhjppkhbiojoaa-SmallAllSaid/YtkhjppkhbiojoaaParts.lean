/-
  SmallParts: the walk of the law.
-/
import Derived.Test.YtkhjppkhbiojoaaBegun
namespace Go.Proofs.Ytkhjppkhbiojoaa
open Go.RowKit Go.Sort

/-- Two lists lie in w (the second one may be empty), and of what lay in W nothing has turned. -/
structure S3 (W w : World) (p q r : Option Addr) (c d e : Nat) (l m n : List Int) : Prop where
  l : SlI w p c l
  m : SlI w q d m
  n : SlI w r e n
  bel : Below W.heap.size W w
theorem S3.next {W w w' : World} {p q r : Option Addr} {c d e : Nat} {l m n : List Int} (h : S3 W w p q r c d e l m n) (hb : Below w.heap.size w w') : S3 W w' p q r c d e l m n :=
  ⟨h.l.below hb, h.m.below hb, h.n.below hb, h.bel.trans (hb.mono h.bel.size)⟩

theorem withoutE_cases (l : List Int) (a b : Int) : (∃ e, withoutE l a b = ([], e) ∧ (e = 1 ∨ e = 2)) ∨ (∃ i j : Nat, a = i ∧ b = j ∧ i ≤ j ∧ j ≤ l.length ∧ l.length ≤ 200 ∧ withoutE l a b = (withoutM l i j, 0)) := by
  unfold withoutE
  by_cases h1 : 200 < l.length
  · rw [if_pos h1]; exact .inl ⟨2, rfl, .inr rfl⟩
  · rw [if_neg h1]
    by_cases h2 : a < 0 ∨ b < a ∨ (l.length : Int) < b
    · rw [if_pos h2]; exact .inl ⟨1, rfl, .inl rfl⟩
    · rw [if_neg h2]
      exact .inr ⟨a.toNat, b.toNat, by omega, by omega, by omega, by omega, by omega, rfl⟩

theorem withoutE_ok {l : List Int} {i j : Nat} (h1 : i ≤ j) (h2 : j ≤ l.length) (h3 : l.length ≤ 200) : withoutE l i j = (withoutM l i j, 0) := by
  unfold withoutE
  rw [if_neg (by omega), if_neg (by omega)]
  simp

theorem ints_one_take {k : IntKind} {l : List Int} {n : Nat} : ∀ u ∈ (ints k l).take n, u.oneCell' = true := fun u hu => ints_one u (List.mem_of_mem_take hu)
theorem ints_one_drop {k : IntKind} {l : List Int} {n : Nat} : ∀ u ∈ (ints k l).drop n, u.oneCell' = true := fun u hu => ints_one u (List.mem_of_mem_drop hu)

set_option maxRecDepth 100000 in
set_option maxHeartbeats 2000000 in
theorem parts_any {w : World} {p : Option Addr} {cap : Nat} {l : List Int} (hR : SlI w p cap l) (a b c : Int) :
    Calls Try.prog 5 #[.slice p l.length cap, .int .i64 a, .int .i64 b, .int .i64 c] w fun e w' => e = .returned (.bool true) ∧ Below w.heap.size w w' := by
  obtain ⟨i0, hi, hz0, hz1, hz2⟩ := info_parts info3
  have hS : S3 w w p none none cap 0 0 l [] [] := ⟨hR, Sl.zero _ _, Sl.zero _ _, Below.refl _ _⟩
  clear hR
  rcases withoutE_cases l a b with ⟨e, hx, he⟩ | ⟨i, j, rfl, rfl, hij, hjl, h200, hx⟩
  · obtain ⟨y, f, hy⟩ : ∃ y f, withoutE l a c = (y, f) := ⟨_, _, rfl⟩
    have hb1 : (e != 0) = true := by rcases he with rfl | rfl <;> rfl
    have hb2 : (e == 0) = false := by rcases he with rfl | rfl <;> rfl
    clear he
    have HX := Lib.hid hx; have HY := Lib.hid hy; clear hx hy
    go_enter Try.func5, Try.ntmps5
    go_wp2_with fail
    refine (begun_any _).mono ?_
    rintro _ w1 ⟨rfl, hb⟩
    replace hS := hS.next hb
    clear hb
    go_wp2_with fail
    refine (without_is hS.l HX.out).mono ?_
    rintro _ w2 ⟨p2, c2, rfl, hs2, hb⟩
    replace hS := hS.next hb
    clear hb
    go_wp2_with fail
    refine (without_is hS.l HY.out).mono ?_
    rintro _ w3 ⟨p3, c3, rfl, hs3, hb⟩
    replace hS := hS.next hb
    clear hb hs2 hs3
    go_wp2_with fail
    refine (begun_any _).mono ?_
    rintro _ w4 ⟨rfl, hb⟩
    go_wp2_with fail
    go_ret
    exact ⟨rfl, (hS.next hb).bel⟩
  · rcases withoutE_cases l i c with ⟨e, hy, he⟩ | ⟨i', k, hii, rfl, hik, hkl, -, hy⟩
    · have hb1 : (e != 0) = true := by rcases he with rfl | rfl <;> rfl
      clear he
      have HX := Lib.hid hx; have HY := Lib.hid hy; clear hx hy
      go_enter Try.func5, Try.ntmps5
      go_wp2_with fail
      refine (begun_any _).mono ?_
      rintro _ w1 ⟨rfl, hb⟩
      replace hS := hS.next hb
      clear hb
      go_wp2_with fail
      refine (without_is hS.l HX.out).mono ?_
      rintro _ w2 ⟨p2, c2, rfl, hs2, hb⟩
      replace hS := hS.next hb
      clear hb
      go_wp2_with fail
      refine (without_is hS.l HY.out).mono ?_
      rintro _ w3 ⟨p3, c3, rfl, hs3, hb⟩
      replace hS := hS.next hb
      clear hb hs2 hs3
      go_wp2_with fail
      refine (begun_any _).mono ?_
      rintro _ w4 ⟨rfl, hb⟩
      go_wp2_with fail
      go_ret
      exact ⟨rfl, (hS.next hb).bel⟩
    · obtain rfl : i = i' := by omega
      by_cases hjk : j ≤ k
      · have hq : decide ((k : Int) < (j : Int)) = false := decide_eq_false (by omega)
        have hq' : decide (k < j) = false := decide_eq_false (by omega)
        have hxl := withoutM_length (l := l) hij hjl
        have hz := withoutE_ok (l := withoutM l i j) (i := i) (j := i + k - j) (by omega) (by omega) (by omega)
        rw [without_without l hij hjk hkl] at hz
        have hback := put_back l hij hjl
        have hxi : i ≤ (withoutM l i j).length := by omega
        have hx2 : (withoutM l i j).length ≤ l.length := by omega
        rw [show ((i + k - j : Nat) : Int) = (i : Int) + (k : Int) - (j : Int) from by omega] at hz
        clear hxl
        generalize withoutM l i j = x at *
        generalize withoutM l i k = y at *
        have HX := Lib.hid hx; have HY := Lib.hid hy; have HZ := Lib.hid hz; have HB := Lib.hid hback; clear hx hy hz hback
        have g1 : (i : Int) ≤ (x.length : Int) := by omega
        have g2 : (i : Int) ≤ (j : Int) := by omega
        have g3 : (j : Int) ≤ (l.length : Int) := by omega
        have g4 : 0 ≤ (i : Int) := by omega
        have g1' : i ≤ x.length := by omega
        have g5 : 0 ≤ (j : Int) := by omega
        go_enter Try.func5, Try.ntmps5
        go_wp2_with fail
        refine (begun_any _).mono ?_
        rintro _ w1 ⟨rfl, hb⟩
        replace hS := hS.next hb
        clear hb
        go_wp2_with fail
        refine (without_is hS.l HX.out).mono ?_
        rintro _ w2 ⟨p2, c2, rfl, hs2, hb⟩
        replace hS := hS.next hb
        clear hb
        go_wp2_with fail
        refine (without_is hS.l HY.out).mono ?_
        rintro _ w3 ⟨p3, c3, rfl, hs3, hb⟩
        replace hS := hS.next hb
        replace hs2 := hs2.below hb
        clear hb
        go_wp2_with fail
        refine (without_is hs2 HZ.out).mono ?_
        rintro _ w4 ⟨p4, c4, rfl, hs4, hb⟩
        replace hS := hS.next hb
        replace hs2 := hs2.below hb
        replace hs3 := hs3.below hb
        clear hb
        have hl1 := hS.l.le
        have hx1 := hs2.le
        have g6 : (i : Int) ≤ (c2 : Int) := by omega
        have g7 : (j : Int) ≤ (cap : Int) := by omega
        go_wp2_with fail
        refine wp_region_mix (fun _ => True) [([1, 2, 3, 5, 6, 7, 8, 10, 11, 12], 0), ([], 4), ([], 9), ([], 13)] [14] rfl (by kernel_rfl) (by kernel_rfl) (by kernel_rfl) trivial ?_
        change wpMix _ _ _ _ _ _ _ w4.drew
        have hd := (Below.refl w4.heap.size w4).drew
        replace hS := hS.next hd
        replace hs2 := hs2.below hd
        replace hs3 := hs3.below hd
        replace hs4 := hs4.below hd
        clear hd
        generalize w4.drew = w5 at *
        obtain ⟨q1, hq1, hc1⟩ : ∃ q1, Hid (q1 = (if cap = i then p else p.map (·.add (i * 1)))) ∧ Sl w5 1 q1 (j - i) (cap - i) (((ints .i64 l).take (j * 1)).drop (i * 1)) := ⟨_, rfl, hS.l.cut hij hjl⟩
        obtain ⟨q2, hq2, hc2⟩ : ∃ q2, Hid (q2 = (if c2 = i then p2 else p2.map (·.add (i * 1)))) ∧ Sl w5 1 q2 (x.length - i) (c2 - i) ((ints .i64 x).drop (i * 1)) := ⟨_, rfl, hs2.from_ g1'⟩
        refine wpMix_cons fun K hK => ?_
        have HK := Lib.hid hK; clear hK
        simp only [pick, List.getD_cons_succ, List.getD_cons_zero]
        iterate 6 (go_big_quiet_step (fail))
        refine quiet_slice_lh (.tmp 69) (.tmp 70) (.tmp 71) 22 3 i0 1 rfl rfl Try.underlying22 hi hz1 p q1 l.length cap i j _ _ rfl rfl rfl hij (by omega) hq1.out ?_
        simp only [Act.put, List.setIfInBounds_toArray, List.set_cons_succ, List.set_cons_zero]
        iterate 2 (go_big_quiet_step (fail))
        refine quiet_slice_l (.tmp 74) (.tmp 75) 22 3 i0 1 rfl rfl Try.underlying22 hi hz1 p2 q2 x.length c2 i _ rfl rfl g1' hq2.out ?_
        simp only [Act.put, List.setIfInBounds_toArray, List.set_cons_succ, List.set_cons_zero]
        refine wpQuiet_nil ?_
        clear hq1 hq2
        go_wp2_with fail
        first | refine ⟨trivial, HK.out _ _ ?_⟩ | refine HK.out _ _ ?_
        clear HK K
        have hown := World.ownsRow_lit (base := w5.heap.size) (e := 3) (size := 1) w5 #[] 0 (Nat.le_refl _) (Nat.zero_le _) rfl
        have hT := hs2.take g1'
        have hBw : Below w5.heap.size w5 (w5.alloc (.cells #[] 3)) := (Below.refl w5.heap.size w5).alloc (Nat.le_refl _) (.cells #[] 3)
        generalize w5.alloc (.cells #[] 3) = w6 at *
        refine wpMix_cons fun K hK => ?_
        have HK := Lib.hid hK; clear hK
        simp only [pick, List.getD_cons_succ, List.getD_cons_zero]
        refine wpQuiet_nil ?_
        refine (wpList_append_sl _ rfl _ _ 22 rfl w5.heap.size 3 i0 (.int .i64 0) 1 8 Try.underlying22 hi hz0 hz1 hz2 rfl (by decide) _ 0 [] rfl hown _ i c2 _ rfl (hT.below hBw) ints_one_take (by omega) (by omega) hBw.size ?_)
        intro p6 c6 w7 hown2 hbel
        replace hBw := hBw.trans hbel
        clear hown hbel hT
        refine ⟨trivial, HK.out _ _ ?_⟩
        clear HK K
        simp only [Act.put, List.setIfInBounds_toArray, List.set_cons_succ, List.set_cons_zero]
        refine wpMix_cons fun K hK => ?_
        have HK := Lib.hid hK; clear hK
        simp only [pick, List.getD_cons_succ, List.getD_cons_zero]
        refine wpQuiet_nil ?_
        refine (wpList_append_sl _ rfl _ _ 22 rfl w5.heap.size 3 i0 (.int .i64 0) 1 8 Try.underlying22 hi hz0 hz1 hz2 rfl (by decide) _ (0 + i) _ rfl hown2 _ (j - i) (cap - i) _ rfl (hc1.below hBw) (fun u hu => ints_one_take u (List.mem_of_mem_drop hu)) (by omega) (by omega) hBw.size ?_)
        intro p7 c7 w8 hown3 hbel
        replace hBw := hBw.trans hbel
        clear hown2 hbel
        refine ⟨trivial, HK.out _ _ ?_⟩
        clear HK K
        simp only [Act.put, List.setIfInBounds_toArray, List.set_cons_succ, List.set_cons_zero]
        refine wpMix_cons fun K hK => ?_
        have HK := Lib.hid hK; clear hK
        simp only [pick, List.getD_cons_succ, List.getD_cons_zero]
        refine wpQuiet_nil ?_
        refine (wpList_append_sl _ rfl _ _ 22 rfl w5.heap.size 3 i0 (.int .i64 0) 1 8 Try.underlying22 hi hz0 hz1 hz2 rfl (by decide) _ (0 + i + (j - i)) _ rfl hown3 _ (x.length - i) (c2 - i) _ rfl (hc2.below hBw) ints_one_drop (by omega) (by omega) hBw.size ?_)
        intro p8 c8 w9 hown4 hbel
        replace hBw := hBw.trans hbel
        clear hown3 hbel
        refine ⟨trivial, HK.out _ _ ?_⟩
        clear HK K
        simp only [Act.put, List.setIfInBounds_toArray, List.set_cons_succ, List.set_cons_zero]
        have hbk : SlI w9 p8 c8 l := by
          have e1 : [] ++ List.take (i * 1) (ints .i64 x) ++ List.drop (i * 1) (List.take (j * 1) (ints .i64 l)) ++ List.drop (i * 1) (ints .i64 x) = ints .i64 l := by
            rw [Nat.mul_one, Nat.mul_one, List.nil_append, ← ints_take, ← ints_take, ← ints_drop, ← ints_drop, ← ints_append, ← ints_append, HB.out]
          have e2 : 0 + i + (j - i) + (x.length - i) = l.length := by
            have := congrArg List.length HB.out
            simp at this; omega
          have := Sl.of_own hown4
          rw [e1, e2] at this
          exact this
        have e2 : 0 + i + (j - i) + (x.length - i) = l.length := by
          have := congrArg List.length HB.out
          simp at this; omega
        rw [e2]
        replace hS := hS.next hBw
        replace hs3 := hs3.below hBw
        replace hs4 := hs4.below hBw
        clear hown4 hBw hc1 hc2 e2 hs2
        refine wpMix_nil ?_
        simp only [pick, List.getD_cons_succ, List.getD_cons_zero]
        repeat (go_big_quiet_step (fail))
        refine wpQuiet_nil ?_
        refine NoPanic.normal ?_
        go_wp2_with fail
        refine (begun_any _).mono ?_
        rintro _ w10 ⟨rfl, hb⟩
        replace hS := hS.next hb
        replace hs3 := hs3.below hb
        replace hs4 := hs4.below hb
        replace hbk := hbk.below hb
        clear hb
        go_wp2_with fail
        refine (same_is hs4 hs3 rfl).mono ?_
        rintro _ w11 ⟨rfl, hb⟩
        replace hS := hS.next hb
        replace hbk := hbk.below hb
        clear hb hs3 hs4
        go_wp2_with fail
        refine (same_is hbk hS.l rfl).mono ?_
        rintro _ w12 ⟨rfl, hb⟩
        go_wp2_with fail
        go_ret
        exact ⟨rfl, (hS.next hb).bel⟩
      · have hq : decide ((k : Int) < (j : Int)) = true := decide_eq_true (by omega)
        have hq' : decide (k < j) = true := decide_eq_true (by omega)
        have HX := Lib.hid hx; have HY := Lib.hid hy; clear hx hy
        go_enter Try.func5, Try.ntmps5
        go_wp2_with fail
        refine (begun_any _).mono ?_
        rintro _ w1 ⟨rfl, hb⟩
        replace hS := hS.next hb
        clear hb
        go_wp2_with fail
        refine (without_is hS.l HX.out).mono ?_
        rintro _ w2 ⟨p2, c2, rfl, hs2, hb⟩
        replace hS := hS.next hb
        clear hb
        go_wp2_with fail
        refine (without_is hS.l HY.out).mono ?_
        rintro _ w3 ⟨p3, c3, rfl, hs3, hb⟩
        replace hS := hS.next hb
        clear hb hs2 hs3
        go_wp2_with fail
        refine (begun_any _).mono ?_
        rintro _ w4 ⟨rfl, hb⟩
        go_wp2_with fail
        go_ret
        exact ⟨rfl, (hS.next hb).bel⟩

end Go.Proofs.Ytkhjppkhbiojoaa
