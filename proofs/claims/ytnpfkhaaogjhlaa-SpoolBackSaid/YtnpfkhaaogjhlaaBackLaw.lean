/-
  The walk of SpoolBack.
-/
import Derived.Test.YtnpfkhaaogjhlaaTornLaw
import Derived.Test.YtnpfkhaaogjhlaaGuard
namespace Go.Proofs.Ytnpfkhaaogjhlaa
open Go.RowKit Go.Sort

set_option maxRecDepth 100000 in
set_option maxHeartbeats 2000000 in
theorem backLaw_any (p p' : Option Addr) (cap cap' : Nat) (l0 m0 : List Vl) (w : World) (hR : Sl w 2 p l0.length cap (vls l0)) (hwf : ∀ v ∈ l0, v.Wf) (hR' : Sl w 2 p' m0.length cap' (vls m0)) (hwf' : ∀ v ∈ m0, v.Wf) :
    Calls Try.prog 3 #[.slice p l0.length cap, .slice p' m0.length cap'] w fun e w' => e = .returned (.bool true) ∧ Below w.heap.size w w' := by
  obtain ⟨i0, hi, hz0, hz1, hz2⟩ := info_parts infoCB
  obtain ⟨iv, hi', hz0', hz1', hz2'⟩ := info_parts infoV
  have b1 := Nat.le_trans hR.le hR.big
  have b2 := Nat.le_trans hR'.le hR'.big
  obtain ⟨l, hl60, hm1, hL, hll, hsub⟩ := cut_vls hR 60 60 rfl
  obtain ⟨m, hm60, hm2, hM, hml, hsub'⟩ := cut_vls hR' 60 60 rfl
  replace hwf : ∀ v ∈ l, v.Wf := fun v hv => hwf v (hsub v hv)
  replace hwf' : ∀ v ∈ m, v.Wf := fun v hv => hwf' v (hsub' v hv)
  have c1 := hR.le
  have c2 := hR'.le
  have i1 : (l.length : Int) ≤ (cap : Int) := by omega
  have i3 : 0 ≤ (l.length : Int) := by omega
  have i4 : (m.length : Int) ≤ (cap' : Int) := by omega
  have i5 : 0 ≤ (m.length : Int) := by omega
  clear hR hsub hR' hsub'
  go_enter Try.func3, Try.ntmps3
  go_wp2_with fail
  refine (begun_any _).mono ?_
  rintro _ w1 ⟨rfl, hb⟩
  replace hL := hL.below hb
  replace hM := hM.below hb
  have hB := hb
  clear hb
  go_wp2_with fail
  refine quiet_below rfl (by kernel_rfl) (by kernel_rfl) ?_
  repeat (go_big_quiet_step (fail))
  refine wpQuiet_nil ?_
  intro wz hwz
  replace hL := hL.below hwz
  replace hM := hM.below hwz
  replace hB := hB.trans (hwz.mono hB.size)
  clear hwz hm1 hm2
  obtain ⟨⟨ra, ea⟩, ha⟩ : ∃ x, allM l = x := ⟨_, rfl⟩
  obtain ⟨⟨rb, eb⟩, hbb⟩ : ∃ x, allM m = x := ⟨_, rfl⟩
  have Ha := Lib.hid ha; have Hb := Lib.hid hbb; clear ha hbb
  go_wp2_with fail
  refine (all_is hL (by omega) Ha.out).mono ?_
  rintro _ w2 ⟨pa, ca, rfl, hA, hb⟩
  replace hL := hL.below hb
  replace hM := hM.below hb
  replace hB := hB.trans (hb.mono hB.size)
  clear hb
  go_wp2_with fail
  refine (all_is hM (by omega) Hb.out).mono ?_
  rintro _ w3 ⟨pb, cb, rfl, hA', hb⟩
  replace hL := hL.below hb
  replace hM := hM.below hb
  replace hA := hA.below hb
  replace hB := hB.trans (hb.mono hB.size)
  clear hb
  by_cases hok : ea = 0 ∧ eb = 0
  · obtain ⟨rfl, rfl⟩ := hok
    have hea : errM l = 0 := by
      have := Ha.out; unfold allM at this; split at this
      · assumption
      · simp at this; exact this.2
    have heb : errM m = 0 := by
      have := Hb.out; unfold allM at this; split at this
      · assumption
      · simp at this; exact this.2
    have hra : ra = recs l := by have := Ha.out; unfold allM at this; rw [if_pos hea] at this; simp at this; exact this.symm
    have hrb : rb = recs m := by have := Hb.out; unfold allM at this; rw [if_pos heb] at this; simp at this; exact this.symm
    have hlaw := back_law (good_of hea hwf) (good_of heb hwf')
    rw [← hra, ← hrb] at hlaw
    have hla : ra.length = l.length * 13 := by rw [hra, recs_length]
    have hlb : rb.length = m.length * 13 := by rw [hrb, recs_length]
    have Hlaw := Lib.hid hlaw; have Hla := Lib.hid hla; have Hlb := Lib.hid hlb
    have ka : ra.length ≤ 1000 := by omega
    have kb : rb.length ≤ 1000 := by omega
    clear hea heb hra hrb hlaw hla hlb
    have hown := lit_nil w3 5
    have hal := (Below.refl w3.heap.size w3).alloc (Nat.le_refl _) (.cells #[] 5)
    have hAl := hA.below hal
    go_wp2_with (first
      | (at_builtin; refine wpList_append_sl _ rfl (.tmp 60) (.tmp 61) 24 rfl w3.heap.size 5 i0 (.int .u8 0) 1 1 Try.underlying24 hi hz0 hz1 hz2 rfl (by decide) _ 0 [] rfl hown _ _ _ _ rfl hAl bts_one (by omega) (by omega) hal.size ?_; intro p4 c4 w4 hown4 hb4; simp only [Nat.zero_add, List.nil_append] at hown4)
      | (at_builtin; refine wpList_append_sl _ rfl (.tmp 62) (.tmp 63) 24 rfl w3.heap.size 5 i0 (.int .u8 0) 1 1 Try.underlying24 hi hz0 hz1 hz2 rfl (by decide) _ _ _ rfl hown4 _ _ _ _ rfl (hA'.below (hal.trans hb4)) bts_one (by omega) (by omega) (hal.trans hb4).size ?_; intro p5 c5 w5 hown5 hb5))
    have hS5 := Sl.of_own hown5
    rw [← bts_append] at hS5
    have hb35 := (hal.trans hb4).trans hb5
    replace hL := hL.below hb35
    replace hM := hM.below hb35
    replace hB := hB.trans (hb35.mono hB.size)
    clear hown hown4 hown5 hal hb4 hb5 hb35 hAl hA hA'
    refine (read_is hS5 (by omega) Hlaw.out).mono ?_
    rintro _ w6 ⟨p6, c6, rfl, h6, hb⟩
    replace hL := hL.below hb
    replace hM := hM.below hb
    replace hB := hB.trans (hb.mono hB.size)
    clear hb hS5 Hlaw
    obtain ⟨x, hx⟩ : ∃ x, (l ++ m).length = x := ⟨_, rfl⟩
    have hxs : ((13 * (x : Int)) == ((ra.length : Int) + (rb.length : Int))) = true := by
      have := Hla.out; have := Hlb.out
      rw [List.length_append] at hx
      simp; omega
    rw [hx] at h6 ⊢
    have Hx := Lib.hid hx; clear hx
    have hx0 : x ≤ 1000 := by have := Hx.out; rw [List.length_append] at this; omega
    go_wp2_with fail
    refine (begun_any _).mono ?_
    rintro _ w7 ⟨rfl, hb⟩
    replace hL := hL.below hb
    replace hM := hM.below hb
    replace h6 := h6.below hb
    replace hB := hB.trans (hb.mono hB.size)
    clear hb
    have hown := World.ownsRow_lit (base := w7.heap.size) (e := 34) (size := 2) (n := 0) w7 #[] (Nat.le_refl _) (Nat.zero_le _) rfl
    have hal := (Below.refl w7.heap.size w7).alloc (Nat.le_refl _) (.cells #[] 34)
    go_wp2_with (first
      | (at_builtin; refine wpList_append_slg rfl (.tmp 85) (.tmp 86) 22 rfl w7.heap.size 34 iv (.agg #[.int .i64 0, .int .i64 0]) 2 16 Try.underlying22 hi' hz0' hz1' hz2' rfl (by decide) _ 0 [] rfl hown _ _ _ _ rfl (hL.below hal) vls_one (by omega) (by omega) hal.size ?_; intro p8 c8 w8 hown8 hb8; simp only [Nat.zero_add, List.nil_append] at hown8)
      | (at_builtin; refine wpList_append_slg rfl (.tmp 87) (.tmp 88) 22 rfl w7.heap.size 34 iv (.agg #[.int .i64 0, .int .i64 0]) 2 16 Try.underlying22 hi' hz0' hz1' hz2' rfl (by decide) _ _ _ rfl hown8 _ _ _ _ rfl (hM.below (hal.trans hb8)) vls_one (by omega) (by omega) (hal.trans hb8).size ?_; intro p9 c9 w9 hown9 hb9))
    have hS9 := Sl.of_own hown9
    rw [← vls_append] at hS9
    have hb79 := (hal.trans hb8).trans hb9
    replace h6 := h6.below hb79
    replace hB := hB.trans (hb79.mono hB.size)
    clear hown hown8 hown9 hal hb8 hb9 hb79
    refine (same_is h6 hS9 rfl).mono ?_
    rintro _ w10 ⟨rfl, hb⟩
    go_wp2_with fail
    go_ret
    exact ⟨rfl, hB.trans (hb.mono hB.size)⟩
  · have hra : ea ≠ 0 → ra = [] := fun h => by
      have := Ha.out
      unfold allM at this
      split at this
      · simp at this; exact absurd this.2.symm h
      · simp at this; exact this.1
    have hrb : eb ≠ 0 → rb = [] := fun h => by
      have := Hb.out
      unfold allM at this
      split at this
      · simp at this; exact absurd this.2.symm h
      · simp at this; exact this.1
    by_cases h1 : ea = 0
    · have h2 : eb ≠ 0 := fun h => hok ⟨h1, h⟩
      obtain rfl := hrb h2
      subst h1
      have h2' : (eb != 0) = true := by simpa using h2
      have h2'' : (eb == 0) = false := by simpa using h2
      clear hok hra hrb h2
      go_wp2_with fail
      refine (begun_any _).mono ?_
      rintro _ w4 ⟨rfl, hb⟩
      go_wp2_with fail
      go_ret
      exact ⟨rfl, hB.trans (hb.mono hB.size)⟩
    · obtain rfl := hra h1
      have h1' : (ea != 0) = true := by simpa using h1
      have h1'' : (ea == 0) = false := by simpa using h1
      by_cases h2 : eb = 0
      · subst h2
        clear hok hra hrb h1
        go_wp2_with fail
        refine (begun_any _).mono ?_
        rintro _ w4 ⟨rfl, hb⟩
        go_wp2_with fail
        go_ret
        exact ⟨rfl, hB.trans (hb.mono hB.size)⟩
      · obtain rfl := hrb h2
        have h2' : (eb != 0) = true := by simpa using h2
        have h2'' : (eb == 0) = false := by simpa using h2
        clear hok hra hrb h1 h2
        go_wp2_with fail
        refine (begun_any _).mono ?_
        rintro _ w4 ⟨rfl, hb⟩
        go_wp2_with fail
        go_ret
        exact ⟨rfl, hB.trans (hb.mono hB.size)⟩
end Go.Proofs.Ytnpfkhaaogjhlaa
