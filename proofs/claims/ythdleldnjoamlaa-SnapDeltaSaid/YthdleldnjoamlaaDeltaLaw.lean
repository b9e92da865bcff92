/-
  The walk of SnapDelta.
-/
import Derived.Test.YthdleldnjoamlaaRowLaw
namespace Go.Proofs.Ythdleldnjoamlaa
open Go.RowKit

theorem pa_len (l : List Pa) : (l.flatMap Pa.cells).length = l.length * 2 := fm_len (cells := Pa.cells) (k := 2) (fun _ => rfl) l
theorem pa_take (l : List Pa) (n : Nat) : (l.take n).flatMap Pa.cells = (l.flatMap Pa.cells).take (n * 2) := by
  induction l generalizing n with
  | nil => simp
  | cons a l ih =>
    cases n with
    | zero => simp
    | succ n => rw [List.take_succ_cons, List.flatMap_cons, List.flatMap_cons, ih, List.take_append, show (Pa.cells a).length = 2 from rfl, List.take_of_length_le (l := Pa.cells a) (by show 2 ≤ _; omega), show (n + 1) * 2 - 2 = n * 2 from by omega]
theorem pa_drop (l : List Pa) (n : Nat) : (l.drop n).flatMap Pa.cells = (l.flatMap Pa.cells).drop (n * 2) := by
  induction l generalizing n with
  | nil => simp
  | cons a l ih =>
    cases n with
    | zero => simp
    | succ n => rw [List.drop_succ_cons, List.flatMap_cons, ih, List.drop_append, show (Pa.cells a).length = 2 from rfl, List.drop_of_length_le (l := Pa.cells a) (by show 2 ≤ _; omega), show (n + 1) * 2 - 2 = n * 2 from by omega, List.nil_append]
theorem pa_one {l : List Pa} : ∀ u ∈ l.flatMap Pa.cells, u.oneCell' = true := by
  intro u hu
  obtain ⟨x, -, h⟩ := List.mem_flatMap.1 hu
  simp only [Pa.cells, List.mem_cons, List.not_mem_nil, or_false] at h
  rcases h with rfl | rfl <;> rfl

set_option maxRecDepth 100000 in
set_option maxHeartbeats 2000000 in
theorem deltaLaw_any {w : World} {p1 p2 : Option Addr} {c1 c2 : Nat} {a0 b0 : List Int} (hA0 : SlI w p1 c1 a0) (hB0 : SlI w p2 c2 b0) (i : Int) :
    Calls Try.prog 4 #[.slice p1 a0.length c1, .slice p2 b0.length c2, .int .i64 i] w fun e w' => e = .returned (.bool true) ∧ Below w.heap.size w w' := by
  obtain ⟨a, hla, hm1, hA, hga⟩ := cut_ints hA0 300 300 rfl
  obtain ⟨b, hlb, hm2, hB, hgb⟩ := cut_ints hB0 300 300 rfl
  have z1 := hA0.le
  have z2 := hA0.big
  have z3 := hB0.le
  have z4 := hB0.big
  have y1 : a.length ≤ c1 := by omega
  have y2 : b.length ≤ c2 := by omega
  clear hA0 hB0
  have y1I : (a.length : Int) ≤ (c1 : Int) := by omega
  have y2I : (b.length : Int) ≤ (c2 : Int) := by omega
  obtain ⟨iT, hiT, tz0, tz1, tz2⟩ := info_parts info_Pa
  go_enter Try.func4, Try.ntmps4
  go_wp2_with fail
  refine (begun_any _).mono ?_
  rintro _ w1 ⟨rfl, hB1⟩
  go_wp2_with fail
  have hi1 : (if (300 : Int) < (a0.length : Int) then (300 : Int) else (a0.length : Int)) = (a.length : Int) := by split <;> omega
  have hi2 : (if (300 : Int) < (b0.length : Int) then (300 : Int) else (b0.length : Int)) = (b.length : Int) := by split <;> omega
  refine quiet_below rfl (by kernel_rfl) (by kernel_rfl) ?_
  repeat (go_big_quiet_step (fail))
  refine wpQuiet_nil ?_
  intro w2 hw2
  try simp only [hi1, hi2, Int.toNat_natCast]
  have hB2 := hB1.trans (hw2.mono hB1.size)
  clear hm1 hm2 hB1 hw2 hi1 hi2
  have hA2 := hA.below hB2; have hBB2 := hB.below hB2
  clear hA hB
  have hn := Delta_any hA2 hBB2 (by omega)
  go_wp2_with fail
  refine hn.mono ?_
  rintro _ w3 ⟨⟨sp, sc, sl⟩, rfl, hs, hS, hb⟩
  dsimp only at hs
  have hok : OkP b.length sl := by rw [hs]; exact delta_ok a b
  have hn2 := Patched_any (hA2.below hb) (n := b.length) (by omega) hS hok
  dsimp only [Sv.val] at hn2 ⊢
  have hth : applyL (padL a b.length) sl = b := by rw [hs]; exact delta_there a b
  rw [hth] at hn2
  have hB3 := hB2.trans (hb.mono hB2.size)
  have hA3 := hA2.below hb; have hBB3 := hBB2.below hb
  have HSL := Lib.hid hs
  have hsl300 : sl.length ≤ b.length := by rw [hs]; exact deltaTo_len a b b.length
  clear hn hB2 hA2 hBB2 hs hb hth
  have HOK := Lib.hid hok; clear hok
  go_wp2_with fail
  refine hn2.mono ?_
  rintro _ w4 ⟨q1, rfl, hX, hb⟩
  have hB4 := hB3.trans (hb.mono hB3.size)
  have hA4 := hA3.below hb; have hBB4 := hBB3.below hb
  have hS4 := RdPa.st _ _ _ hS hb
  clear hn2 hB3 hA3 hBB3 hb hS
  have hn := sameI_is hX hBB4 (b := true) (decide_eq_true rfl)
  go_wp2_with fail
  refine hn.mono ?_
  rintro _ w5 ⟨rfl, hb⟩
  have hB5 := hB4.trans (hb.mono hB4.size)
  have hA5 := hA4.below hb; have hBB5 := hBB4.below hb
  have hS5 := RdPa.st _ _ _ hS4 hb
  clear hn hB4 hA4 hBB4 hb hS4 hX
  have hn := Delta_any hBB5 hBB5 (by omega)
  go_wp2_with fail
  refine hn.mono ?_
  rintro _ w6 ⟨⟨tp, tc, tl⟩, rfl, hs, -, hb⟩
  dsimp only at hs
  rw [delta_self] at hs
  subst hs
  dsimp only [Sv.val]
  have hB6 := hB5.trans (hb.mono hB5.size)
  have hA6 := hA5.below hb; have hBB6 := hBB5.below hb
  have hS6 := RdPa.st _ _ _ hS5 hb
  clear hn hB5 hA5 hBB5 hb hS5
  by_cases h0 : i < 0
  · go_wp2_with fail
    refine (begun_any _).mono ?_
    rintro _ w7 ⟨rfl, hb⟩
    have hB7 := hB6.trans (hb.mono hB6.size)
    go_wp2_with fail
    go_ret
    exact ⟨rfl, hB7⟩
  · obtain ⟨k, rfl⟩ := Int.eq_ofNat_of_zero_le (show 0 ≤ i by omega)
    by_cases hk : sl.length ≤ k
    · have hk1 : (sl.length : Int) ≤ (k : Int) := by omega
      go_wp2_with fail
      refine (begun_any _).mono ?_
      rintro _ w7 ⟨rfl, hb⟩
      have hB7 := hB6.trans (hb.mono hB6.size)
      go_wp2_with fail
      go_ret
      exact ⟨rfl, hB7⟩
    · have hk1 : ¬ (sl.length : Int) ≤ (k : Int) := by omega
      have hk2 : k < sl.length := by omega
      obtain ⟨j, hj⟩ : ∃ j, j = k + 1 := ⟨_, rfl⟩
      have hjI : (k : Int) + 1 = (j : Int) := by omega
      have hjl : j ≤ sl.length := by omega
      have HJ := Lib.hid hj; clear hj
      have hle := hS6.row.le
      have hbig := hS6.row.big
      dsimp only at hle hbig
      have g1 : (k : Int) ≤ (sc : Int) := by omega
      have g2 : k ≤ sc := by omega
      have g3 : (j : Int) ≤ (sl.length : Int) := by omega
      go_wp2_with fail
      refine wp_region_mix (fun _ => True) [([0, 1, 2, 4, 5, 6, 8, 9, 10, 11], 3), ([], 7), ([], 12), ([], 13)] [14, 15, 16, 17, 18] rfl (by kernel_rfl) (by kernel_rfl) (by kernel_rfl) trivial ?_
      change wpMix _ _ _ _ _ _ _ w6.drew
      have hd := (Below.refl w6.heap.size w6).drew
      have hA7 := hA6.below hd; have hBB7 := hBB6.below hd
      have hS7 := RdPa.st _ _ _ hS6 hd
      have hB7 := hB6.trans (hd.mono hB6.size)
      clear hd hA6 hBB6 hS6 hB6
      generalize w6.drew = w7 at *
      obtain ⟨q2, hq2, hc2⟩ : ∃ q2, Hid (q2 = (if sc = j then sp else sp.map (·.add (j * 2)))) ∧ Sl w7 2 q2 (sl.length - j) (sc - j) ((sl.flatMap Pa.cells).drop (j * 2)) := ⟨_, rfl, hS7.row.from_ hjl⟩
      refine wpMix_cons fun K hK => ?_
      have HK := Lib.hid hK; clear hK
      simp only [pick, List.getD_cons_succ, List.getD_cons_zero]
      iterate 9 (go_big_quiet_step (fail))
      refine quiet_slice_l (.tmp 68) (.tmp 70) 38 45 iT 2 rfl rfl Try.underlying38 hiT tz1 sp q2 sl.length sc j _ rfl rfl hjl hq2.out ?_
      simp only [Act.put, List.setIfInBounds_toArray, List.set_cons_succ, List.set_cons_zero]
      refine wpQuiet_nil ?_
      clear hq2
      go_wp2_with fail
      first | refine ⟨trivial, HK.out _ _ ?_⟩ | refine HK.out _ _ ?_
      clear HK K
      have hown := World.ownsRow_lit (base := w7.heap.size) (e := 45) (size := 2) w7 #[] 0 (Nat.le_refl _) (Nat.zero_le _) rfl
      have hT := hS7.row.take (m := k) (by show k ≤ sl.length; omega)
      have hBw : Below w7.heap.size w7 (w7.alloc (.cells #[] 45)) := (Below.refl w7.heap.size w7).alloc (Nat.le_refl _) (.cells #[] 45)
      generalize w7.alloc (.cells #[] 45) = w8 at *
      refine wpMix_cons fun K hK => ?_
      have HK := Lib.hid hK; clear hK
      simp only [pick, List.getD_cons_succ, List.getD_cons_zero]
      refine wpQuiet_nil ?_
      refine (wpList_append_sl _ rfl _ _ 38 rfl w7.heap.size 45 iT (.agg #[.int .i64 0, .int .i64 0]) 2 16 Try.underlying38 hiT tz0 tz1 tz2 rfl (by decide) _ 0 [] rfl hown _ k sc _ rfl (hT.below hBw) (fun u hu => pa_one u (List.mem_of_mem_take hu)) (by omega) (by omega) hBw.size ?_)
      intro p6 c6 w9 hown2 hbel
      replace hBw := hBw.trans hbel
      clear hown hbel hT
      refine ⟨trivial, HK.out _ _ ?_⟩
      clear HK K
      simp only [Act.put, List.setIfInBounds_toArray, List.set_cons_succ, List.set_cons_zero]
      refine wpMix_cons fun K hK => ?_
      have HK := Lib.hid hK; clear hK
      simp only [pick, List.getD_cons_succ, List.getD_cons_zero]
      refine wpQuiet_nil ?_
      refine (wpList_append_sl _ rfl _ _ 38 rfl w7.heap.size 45 iT (.agg #[.int .i64 0, .int .i64 0]) 2 16 Try.underlying38 hiT tz0 tz1 tz2 rfl (by decide) _ (0 + k) _ rfl hown2 _ (sl.length - j) (sc - j) _ rfl (hc2.below hBw) (fun u hu => pa_one u (List.mem_of_mem_drop hu)) (by omega) (by omega) hBw.size ?_)
      intro p7 c7 w10 hown3 hbel
      replace hBw := hBw.trans hbel
      clear hown2 hbel hc2
      refine ⟨trivial, HK.out _ _ ?_⟩
      clear HK K
      simp only [Act.put, List.setIfInBounds_toArray, List.set_cons_succ, List.set_cons_zero]
      have hll : (sl.take k ++ sl.drop j).length = 0 + k + (sl.length - j) := by simp; omega
      have hR : RdPa w10 ⟨p7, c7, sl.take k ++ sl.drop j⟩ := by
        refine ⟨?_, fun _ _ => trivial⟩
        have := Sl.of_own hown3
        show Sl w10 2 p7 (sl.take k ++ sl.drop j).length c7 _
        rw [hll, List.flatMap_append, pa_take, pa_drop]
        simpa using this
      have hsub : (sl.take k ++ sl.drop j).Sublist sl := by
        have h1 : (sl.drop j).Sublist (sl.drop k) := by
          rw [HJ.out, ← List.drop_drop]; exact List.drop_sublist _ _
        have := (List.Sublist.refl (sl.take k)).append h1
        rwa [List.take_append_drop] at this
      have hne : applyL (padL a b.length) (sl.take k ++ sl.drop j) ≠ b := by
        have h1 := HSL.out
        rw [h1, HJ.out]
        exact delta_least (by rw [← h1]; exact hk2)
      have hB10 := hB7.trans (hBw.mono hB7.size)
      have hA10 := hA7.below hBw; have hBB10 := hBB7.below hBw
      have hn := Patched_any hA10 (n := b.length) (by omega) hR (HOK.out.sub hsub)
      dsimp only [Sv.val] at hn
      rw [hll, Nat.zero_add] at hn
      have hyl : (applyL (padL a b.length) (sl.take k ++ sl.drop j)).length = b.length := by rw [apply_len, pad_len]
      have HN := Lib.hid hn; have HNE := Lib.hid hne; have HYL := Lib.hid hyl
      clear hn hne hyl hll hR hsub hown3 hBw hA7 hBB7 hS7 hB7 hA10
      generalize applyL (padL a b.length) (sl.take k ++ sl.drop j) = Y at *
      refine wpMix_cons fun K hK => ?_
      have HK := Lib.hid hK; clear hK
      simp only [pick, List.getD_cons_succ, List.getD_cons_zero]
      refine wpQuiet_nil ?_
      go_wp2_with fail
      refine HN.out.mono ?_
      rintro _ w11 ⟨q3, rfl, hY, hb⟩
      have hB11 := hB10.trans (hb.mono hB10.size)
      have hBB11 := hBB10.below hb
      clear HN hB10 hBB10 hb
      go_wp2_with fail
      first | refine ⟨trivial, HK.out _ _ ?_⟩ | refine HK.out _ _ ?_
      clear HK K
      try simp only [Act.put, List.setIfInBounds_toArray, List.set_cons_succ, List.set_cons_zero]
      refine wpMix_nil ?_
      simp only [pick, List.getD_cons_succ, List.getD_cons_zero]
      repeat (go_big_quiet_step (fail))
      refine wpQuiet_nil ?_
      refine NoPanic.normal ?_
      go_wp2_with fail
      refine (begun_any _).mono ?_
      rintro _ w12 ⟨rfl, hb⟩
      have hB12 := hB11.trans (hb.mono hB11.size)
      have hn := sameI_is (hY.below hb) (hBB11.below hb) (b := false) (decide_eq_false HNE.out)
      clear hB11 hBB11 hY hb
      go_wp2_with fail
      refine hn.mono ?_
      rintro _ w13 ⟨rfl, hb⟩
      have hB13 := hB12.trans (hb.mono hB12.size)
      go_wp2_with fail
      go_ret
      exact ⟨rfl, hB13⟩
end Go.Proofs.Ythdleldnjoamlaa
