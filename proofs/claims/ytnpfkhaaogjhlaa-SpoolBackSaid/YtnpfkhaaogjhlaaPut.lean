/-
  The walk of Put.
-/
import Derived.Test.YtnpfkhaaogjhlaaBig
import Derived.Test.YtnpfkhaaogjhlaaWk
import Derived.Test.YtnpfkhaaogjhlaaConcat
import Derived.Test.YtnpfkhaaogjhlaaPlan
import Derived.Test.YtnpfkhaaogjhlaaFast
import Derived.Test.YtnpfkhaaogjhlaaCut
namespace Go.Proofs.Ytnpfkhaaogjhlaa
open Go.RowKit Go.Sort

abbrev OwnB (w : World) (base : Nat) (p : Option Addr) (cap : Nat) (l : List UInt8) : Prop := w.ownsRow base 5 1 (.slice p l.length cap) l.length (bts l)
def putM (b : List UInt8) (v : Vl) : List UInt8 × Int := if 4000 < b.length + 13 then ([], 2) else if rightM v = 0 then (b ++ recM v, 0) else ([], rightM v)

theorem slb_of_blk {w : World} {B : Nat} {l : List UInt8} {c : Nat} (h : Blk w B (bts l).toArray 5) (hc : l.length = c) (hc2 : c ≤ 9223372036854775807) : Sl w 1 (some ⟨B, 0, none⟩) c c (bts l) :=
  ⟨⟨B, 0, fun _ => ⟨rfl, h.lt⟩, fun i _ => by rw [Nat.zero_add, h.cell i]; simp⟩, by simp [hc], Nat.le_refl _, hc2, fun h => by cases h⟩

theorem u64of_lt (n : Int) : u64of n < 18446744073709551616 := by unfold u64of; omega
theorem u64_conv (n : Int) : n % 18446744073709551616 = (u64of n : Int) := by unfold u64of; omega
theorem u8_conv (k : Int) : k % 256 = ((UInt8.ofNat (k % 256).toNat).toNat : Int) := by
  rw [UInt8.toNat_ofNat']; omega

theorem blk_of_drew {w : World} {B : Nat} {cs : Array Value} {t : TypeId} (h : Blk w B cs t) : Blk w.drew B cs t := h
theorem own_of_blk {w : World} {B base : Nat} {l : List UInt8} {n : Nat} (h : Blk w B (bts l).toArray 5) (hb : base ≤ B) (hn : l.length = n) (hm : n ≤ 1000) : w.ownsRow base 5 1 (.slice (some ⟨B, 0, none⟩) n n) n (bts l) :=
  And.intro (by simp [hn]) (.inr ⟨B, n, (bts l).toArray, rfl, hb, h, Nat.le_refl _, by unfold maxLen; omega, by simp [hn], by rw [Nat.mul_one, List.take_of_length_le (by simp [hn])]⟩)
theorem sum_sl {w : World} {p : Option Addr} {n cap : Nat} {l : List UInt8} (h : Sl w 1 p n cap (bts l)) : Calls Try.prog 15 #[.slice p n cap] w fun e w' => e = .returned (.int .u32 (sumB l : Int)) ∧ w = w' := by
  have := h.len
  rw [bts_length, Nat.mul_one] at this
  subst this
  exact sum_any h
theorem wrap_u64of (n : Int) : IntKind.u64.wrap n = (u64of n : Int) := by rw [IntKind.wrap_u64, u64_conv]

set_option maxRecDepth 100000 in
set_option maxHeartbeats 1000000 in
theorem put_any {w : World} {p : Option Addr} {cap : Nat} {b : List UInt8} (hR : SlB w p cap b) (hb4 : b.length ≤ 4000) (v : Vl) :
    Calls Try.prog 10 #[.slice p b.length cap, v.val] w fun e w' => ∃ p' c', e = .returned (.tuple #[.slice p' (putM b v).1.length c', .int .i64 (putM b v).2]) ∧ OwnB w' w.heap.size p' c' (putM b v).1 ∧ Below w.heap.size w w' := by
  have hle := hR.le
  have hbig := hR.big
  obtain ⟨k, n⟩ := v
  dsimp only [Vl.val]
  by_cases h1 : 4000 < b.length + 13
  · have h1' : 4000 < (b.length : Int) + 13 := by omega
    have hp : putM b ⟨k, n⟩ = ([], 2) := by unfold putM; rw [if_pos h1]
    rw [hp]
    clear hp
    go_enter Try.func10, Try.ntmps10
    go_wp2_with fail
    go_ret2
    exact ⟨none, 0, rfl, World.ownsRow_nil _ _ _ _, (Below.refl _ _).alloc (Nat.le_refl _) _⟩
  · have h1' : ¬ (4000 < (b.length : Int) + 13) := by omega
    have hR' := fun {w'} (h : Below w.heap.size w w') => hR.below h
    by_cases hr : rightM ⟨k, n⟩ = 0
    · have hp : putM b ⟨k, n⟩ = (b ++ recM ⟨k, n⟩, 0) := by unfold putM; rw [if_neg h1, if_pos hr]
      rw [hp]
      clear hp
      have Hr := Lib.hid hr; clear hr
      obtain ⟨kb, hkb⟩ : ∃ kb, UInt8.ofNat (k % 256).toNat = kb := ⟨_, rfl⟩
      have Hkb := Lib.hid hkb; clear hkb
      obtain ⟨i0, hi, hz0, hz1, hz2⟩ := info_parts infoCB
      go_enter Try.func10, Try.ntmps10
      go_wp2_with fail
      refine (right_any ⟨k, n⟩ _).mono ?_
      rintro _ w1 ⟨rfl, hb1⟩
      have bX := (Blk.mk_ w #[.int .i64 k, .int .i64 n] 34 rfl).next hb1
      have hb := ((Below.refl w.heap.size w).alloc (Nat.le_refl _) (.cells #[.int .i64 k, .int .i64 n] 34)).trans (hb1.mono (by simp))
      clear hb1
      rw [Hr.out]
      go_wp2_with fail
      have r0 := cell_regrown (bX.cell 0)
      have r1 := cell_regrown (bX.cell 1)
      refine wp_region_plan (fun w' => ∃ p : Regrown, w' = grow (redrawn w1 p.d) p.os) (.two [0, 1, 2, 4, 5, 6] 3 (.one [] 7 (.one [] 8 (.last [9]))) 7 (.one [] 3 (.one [] 8 (.last [9])))) rfl (by kernel_rfl) (by kernel_rfl) (by kernel_rfl) (regrown_of_below ((Below.refl _ _).drew)) ?_
      change wpPlan _ _ _ _ _ _ w1.drew
      refine wpPlan_two fun K K' hK hK' => ?_
      have HK := Lib.hid hK; have HK' := Lib.hid hK'; clear hK hK'
      simp only [pick, List.getD_cons_succ, List.getD_cons_zero]
      iterate 6 (go_big_quiet_step (fail))
      refine wpQuiet_nil ?_
      constructor
      case' left =>
        clear HK' K'
        go_wp2_with fail
        rw [wrap_u64of, u8_conv, Hkb.out]
        have hbA := (((Below.refl w1.heap.size w1).alloc (Nat.le_refl _) (.cells #[.int .u8 (kb.toNat : Int)] 5))).drew
        have bY : Blk (w1.alloc (.cells #[.int .u8 (kb.toNat : Int)] 5)).drew w1.heap.size (bts [kb]).toArray 5 := blk_of_drew (Blk.mk_ w1 _ 5 rfl)
        generalize (w1.alloc (.cells #[.int .u8 (kb.toNat : Int)] 5)).drew = w2 at *
        refine ⟨regrown_of_below hbA, HK.out _ _ ?_⟩
        clear HK K
        refine wpPlan_one fun K hK => ?_
        have HK := Lib.hid hK; clear hK
        simp only [pick, List.getD_cons_succ, List.getD_cons_zero]
        refine wpQuiet_nil ?_
        go_wp2_with fail
        refine (big8_any _ (u64of_lt n) _).mono ?_
        rintro _ w3 ⟨B, rfl, hge, bB, hb3⟩
        have bY3 := bY.next hb3
        have hbB := hbA.trans (hb3.mono hbA.size)
        have hz := hbA.size
        clear bY hb3
        go_wp2_with fail
        refine ⟨regrown_of_below hbB, HK.out _ _ ?_⟩
        clear HK K hbA
        refine wpPlan_one fun K hK => ?_
        have HK := Lib.hid hK; clear hK
        simp only [pick, List.getD_cons_succ, List.getD_cons_zero]
        refine wpQuiet_nil ?_
        refine wpList_append_sl _ rfl _ _ 24 rfl w1.heap.size 5 i0 (.int .u8 0) 1 1 Try.underlying24 hi hz0 hz1 hz2 rfl (by decide) _ 1 _ rfl (own_of_blk bY3 (Nat.le_refl _) rfl (by omega)) _ 8 8 _ rfl (slb_of_blk bB rfl (by omega)) bts_one (by omega) (by omega) hbB.size ?_
        intro p' c' w4 hown hb4'
        replace hbB := hbB.trans hb4'
        clear hb4' bY3 bB hge hz
        refine ⟨regrown_of_below hbB, HK.out _ _ ?_⟩
        clear HK K
      case' right =>
        clear HK K
        go_wp2_with fail
        rw [wrap_u64of, u8_conv, Hkb.out]
        have hbD := (Below.refl w1.heap.size w1).drew
        refine (big8_any _ (u64of_lt n) _).mono ?_
        rintro _ w3 ⟨B, rfl, hge, bB, hb3⟩
        have hbA := hbD.trans (hb3.mono hbD.size)
        clear hb3
        go_wp2_with fail
        refine ⟨regrown_of_below hbA, HK'.out _ _ ?_⟩
        clear HK' K'
        refine wpPlan_one fun K hK => ?_
        have HK := Lib.hid hK; clear hK
        simp only [pick, List.getD_cons_succ, List.getD_cons_zero]
        refine wpQuiet_nil ?_
        have bY3 := Blk.mk_ w3 (bts [kb]).toArray 5 rfl
        have bB' := bB.alloc (.cells (bts [kb]).toArray 5)
        have hbB := hbA.alloc hbA.size (.cells (bts [kb]).toArray 5)
        have hz3 := hbA.size
        go_wp2_with fail
        refine ⟨regrown_of_below hbB, HK.out _ _ ?_⟩
        clear HK K
        refine wpPlan_one fun K hK => ?_
        have HK := Lib.hid hK; clear hK
        simp only [pick, List.getD_cons_succ, List.getD_cons_zero]
        refine wpQuiet_nil ?_
        refine wpList_append_sl _ rfl _ _ 24 rfl w1.heap.size 5 i0 (.int .u8 0) 1 1 Try.underlying24 hi hz0 hz1 hz2 rfl (by decide) _ 1 _ rfl (own_of_blk bY3 hz3 rfl (by omega)) _ 8 8 _ rfl (slb_of_blk bB' rfl (by omega)) bts_one (by omega) (by omega) hbB.size ?_
        intro p' c' w4 hown hb4'
        replace hbB := hbB.trans hb4'
        clear hb4' bY3 bB bB' hge hz3 hbA
        refine ⟨regrown_of_below hbB, HK.out _ _ ?_⟩
        clear HK K
      all_goals
        refine wpPlan_last ?_
        simp only [pick, Act.put, List.setIfInBounds_toArray, List.set_cons_succ, List.set_cons_zero, List.getD_cons_succ, List.getD_cons_zero]
        repeat (go_big_quiet_step (fail))
        refine wpQuiet_nil ?_
        have hS4 := Sl.of_own hown
        rw [← bts_append] at hS4
        simp only [Nat.reduceAdd] at hS4
        have how : [kb] ++ big8 (u64of n) = ownM ⟨k, n⟩ := by unfold ownM; rw [Hkb.out]; rfl
        rw [how] at hS4
        have hRw := hR.below (hb.trans (hbB.mono hb.size))
        replace hb := hb.trans (hbB.mono hb.size)
        have h32 := sumB_lt (ownM ⟨k, n⟩)
        have hsum := sum_sl hS4
        obtain ⟨sm, hsm⟩ : ∃ sm, sumB (ownM ⟨k, n⟩) = sm := ⟨_, rfl⟩
        rw [hsm] at hsum h32
        have Hsum := Lib.hid hsum; have Hsm := Lib.hid hsm
        clear hown hbB bX r0 r1 how hsum hsm
        refine NoPanic.normal ?_
        have hs0 : 0 ≤ (sm : Int) := by omega
        have hs1 : (sm : Int) < 4294967296 := by omega
        go_wp2_with fail
        refine Hsum.out.mono ?_
        rintro _ w5 ⟨rfl, rfl⟩
        go_wp2_with fail
        refine (big4_any sm (by omega) _).mono ?_
        rintro _ w6 ⟨B4, rfl, hge4, bB4, hb6⟩
        replace hS4 := hS4.below hb6
        replace hRw := hRw.below hb6
        replace hb := hb.trans (hb6.mono hb.size)
        clear hb6
        go_wp2_with fail
        have hAl := (Below.refl w6.heap.size w6).alloc (Nat.le_refl _) (.cells #[.slice p b.length cap, .slice p' 9 c', .slice (some ⟨B4, 0, none⟩) 4 4] 24)
        have hPA : PartsAtB (w6.alloc (.cells #[.slice p b.length cap, .slice p' 9 c', .slice (some ⟨B4, 0, none⟩) 4 4] 24)) w6.heap.size [⟨p, b.length, cap, bts b⟩, ⟨p', 9, c', bts (ownM ⟨k, n⟩)⟩, ⟨some ⟨B4, 0, none⟩, 4, 4, bts (big4 sm)⟩] :=
          parts3B (by simp) (new_cell w6 _ _ _ 0) (new_cell w6 _ _ _ 1) (new_cell w6 _ _ _ 2) ⟨hRw.below hAl, bts_one⟩ ⟨hS4.below hAl, bts_one⟩ ⟨(slb_of_blk (c := 4) bB4 rfl (by decide)).below hAl, bts_one⟩
        have hcc := concatB_any hPA (by simp) (by simp [flatNB]; omega)
        have e1 : flatNB [⟨p, b.length, cap, bts b⟩, ⟨p', 9, c', bts (ownM ⟨k, n⟩)⟩, ⟨some ⟨B4, 0, none⟩, 4, 4, bts (big4 sm)⟩] = (b ++ recM ⟨k, n⟩).length := by
          rw [List.length_append, recM_length]; simp [flatNB]
        have e2 : flatB [⟨p, b.length, cap, bts b⟩, ⟨p', 9, c', bts (ownM ⟨k, n⟩)⟩, ⟨some ⟨B4, 0, none⟩, 4, 4, bts (big4 sm)⟩] = bts (b ++ recM ⟨k, n⟩) := by
          unfold recM; rw [bts_append, bts_append, Hsm.out]; simp [flatB]
        rw [e1, e2] at hcc
        have hz6 := hAl.size
        refine hcc.mono ?_
        clear hcc hPA e1 e2
        rintro _ w7 ⟨p7, c7, rfl, hown, hb7⟩
        go_wp2_with fail
        go_ret2
        exact ⟨p7, c7, by rw [List.length_append, recM_length]; rfl, own_mono hown (Nat.le_trans hb.size hz6), (hb.trans (hAl.mono hb.size)).trans (hb7.mono (Nat.le_trans hb.size hz6))⟩
    · have hp : putM b ⟨k, n⟩ = ([], rightM ⟨k, n⟩) := by unfold putM; rw [if_neg h1, if_neg hr]
      rw [hp]
      clear hp
      have hr' : (rightM ⟨k, n⟩ != 0) = true := by simpa using hr
      clear hr
      go_enter Try.func10, Try.ntmps10
      go_wp2_with fail
      refine (right_any ⟨k, n⟩ _).mono ?_
      rintro _ w1 ⟨rfl, hb1⟩
      have hb := ((Below.refl w.heap.size w).alloc (Nat.le_refl _) (.cells #[.int .i64 k, .int .i64 n] 34)).trans (hb1.mono (by simp))
      go_wp2_with fail
      go_ret2
      exact ⟨none, 0, rfl, World.ownsRow_nil _ _ _ _, hb⟩
end Go.Proofs.Ytnpfkhaaogjhlaa
