/-
  The walk of one.
-/
import Derived.Test.YtnpfkhaaogjhlaaPut
namespace Go.Proofs.Ytnpfkhaaogjhlaa
open Go.RowKit Go.Sort

theorem number_sl {w : World} {p : Option Addr} {n cap : Nat} {l : List UInt8} (h : Sl w 1 p n cap (bts l)) : Calls Try.prog 16 #[.slice p n cap] w fun e w' => e = .returned (.int .u64 (numB l : Int)) ∧ Below w.heap.size w w' := by
  have := h.len
  rw [bts_length, Nat.mul_one] at this
  subst this
  exact (number_any h).mono fun _ _ ⟨h1, h2⟩ => ⟨h1, h2 ▸ Below.refl _ _⟩
theorem sum_slb {w : World} {p : Option Addr} {n cap : Nat} {l : List UInt8} (h : Sl w 1 p n cap (bts l)) : Calls Try.prog 15 #[.slice p n cap] w fun e w' => e = .returned (.int .u32 (sumB l : Int)) ∧ Below w.heap.size w w' :=
  (sum_sl h).mono fun _ _ ⟨h1, h2⟩ => ⟨h1, h2 ▸ Below.refl _ _⟩
theorem i64_conv {n : Nat} (h : n < 18446744073709551616) : wrap64 (n : Int) = i64of n := by
  unfold wrap64 i64of
  split <;> omega

set_option maxRecDepth 100000 in
set_option maxHeartbeats 1000000 in
theorem one_any {w : World} {p : Option Addr} {cap : Nat} {b : List UInt8} (hR : Sl w 1 p 13 cap (bts b)) :
    Calls Try.prog 11 #[.slice p 13 cap] w fun e w' => e = .returned (.tuple #[(oneM b).1.val, .int .i64 (oneM b).2]) ∧ Below w.heap.size w w' := by
  have hl : b.length = 13 := by have := hR.len; simpa using this
  have hle := hR.le
  have hbig := hR.big
  obtain ⟨bk, off, rfl, hbk, hcell⟩ := hR.row.cons (by simp; omega)
  have h9 := hR.drop (m := 9) (by omega)
  have h0 := hR.take (m := 9) (by omega)
  have h18 := (hR.take (m := 9) (by omega)).drop (m := 1) (by omega)
  have hc0 : w.cell? ⟨bk, off, none⟩ = some (.int .u8 ((b.getD 0 0).toNat : Int)) := by
    have := (hcell 0 (by simp; omega)).trans (bts_get (by omega))
    simpa using this
  rw [Nat.mul_one, ← bts_drop] at h9
  rw [Nat.mul_one, ← bts_take] at h0 h18
  rw [← bts_drop] at h18
  simp only [Nat.reduceSub, Nat.reduceMul] at h9 h0 h18
  have n9 : ¬ cap = 9 := by omega
  have n1 : ¬ cap = 1 := by omega
  have i9 : (9 : Int) ≤ (cap : Int) := by omega
  have c9 := fun W (h : Below w.heap.size w W) d os => Calls.regrown_of (d := d) (os := os) (number_sl ((h9.below h).below (below_regrown W d os)))
  have c0 := fun W (h : Below w.heap.size w W) d os => Calls.regrown_of (d := d) (os := os) (sum_slb ((h0.below h).below (below_regrown W d os)))
  have K1 := Lib.hid c9; have K2 := Lib.hid c0; clear c9 c0 hcell h9 h0
  have hn9 := numB_lt (b.drop 9)
  have hs9 := sumB_lt (b.take 9)
  by_cases hsum : numB (b.drop 9) = sumB (b.take 9)
  · have hsum' : ((numB (b.drop 9) : Int) != (sumB (b.take 9) : Int)) = false := by simp; omega
    have hm0 : rightM ⟨((b.getD 0 0).toNat : Int), i64of (numB ((b.take 9).drop 1))⟩ = 0 → oneM b = (⟨((b.getD 0 0).toNat : Int), i64of (numB ((b.take 9).drop 1))⟩, 0) := fun h => by
      unfold oneM; rw [if_neg (by simpa using hsum)]; dsimp only; rw [if_neg (by simpa using h)]
    have hm1 : rightM ⟨((b.getD 0 0).toNat : Int), i64of (numB ((b.take 9).drop 1))⟩ ≠ 0 → oneM b = (⟨0, 0⟩, 3) := fun h => by
      unfold oneM; rw [if_neg (by simpa using hsum)]; dsimp only; rw [if_pos h]
    have M0 := Lib.hid hm0; have M1 := Lib.hid hm1; clear hm0 hm1
    generalize numB (b.drop 9) = x at *
    generalize sumB (b.take 9) = y at *
    have Hs := Lib.hid hsum; clear hsum
    have y0 : 0 ≤ (y : Int) := by omega
    have y1 : (y : Int) < 4294967296 := by omega
    have h18' := fun W (h : Below w.heap.size w W) => number_sl (h18.below h)
    have n18 := numB_lt ((b.take 9).drop 1)
    have K5 := Lib.hid h18'; clear h18' h18
    generalize numB ((b.take 9).drop 1) = z at *
    have E64 := Lib.hid (i64_conv n18); clear n18 hn9
    generalize (b.getD 0 0) = k0 at *
    have k80 := u8_lt k0
    go_enter Try.func11, Try.ntmps11
    go_wp2_with fail
    have kX := Blk.mk_ w #[.int .i64 0, .int .i64 0] 34 rfl
    have hal := (Below.refl w.heap.size w).alloc (Nat.le_refl _) (.cells #[.int .i64 0, .int .i64 0] 34)
    have hc1 := (hal.cell (p := ⟨bk, off, none⟩) hbk).trans hc0
    generalize w.alloc (.cells #[.int .i64 0, .int .i64 0] 34) = W at *
    have k1 := K1.out W hal
    have k2 := K2.out W hal
    have K3 := Lib.hid k1; have K4 := Lib.hid k2; clear k1 k2 K1 K2
    refine quiet_below rfl (by kernel_rfl) (by kernel_rfl) ?_
    repeat (go_big_quiet_step (first | (with_reducible exact K3.out _ _) | (with_reducible exact K4.out _ _)))
    refine wpQuiet_nil ?_
    intro wz hwz
    have bX := kX.next hwz
    have hc2 := (hwz.cell (p := ⟨bk, off, none⟩) (Nat.lt_of_lt_of_le hbk hal.size)).trans hc1
    have hbz : Below w.heap.size w wz := hal.trans (hwz.mono hal.size)
    clear kX hwz hal K3 K4 hc0 hc1
    go_wp2_with fail
    have hnum := fun W (h : Below wz.heap.size wz W) => K5.out W (hbz.trans (h.mono hbz.size))
    have K6 := Lib.hid hnum; clear hnum K5
    have r0 := cell_regrown hc2
    refine wp_region_plan (fun w' => ∃ p : Regrown, w' = grow (redrawn wz p.d) p.os) (.two [0, 1, 2, 3, 4, 5] 6 (.one [7, 8] 9 (.one [] 10 (.last []))) 9 (.one [] 6 (.one [7, 8] 10 (.last [])))) rfl (by kernel_rfl) (by kernel_rfl) (by kernel_rfl) (regrown_of_below ((Below.refl _ _).drew)) ?_
    change wpPlan _ _ _ _ _ _ wz.drew
    refine wpPlan_two fun K K' hK hK' => ?_
    have HK := Lib.hid hK; have HK' := Lib.hid hK'; clear hK hK'
    simp only [pick, List.getD_cons_succ, List.getD_cons_zero]
    iterate 6 (go_big_quiet_step (fail))
    refine wpQuiet_nil ?_
    have hbd := (Below.refl wz.heap.size wz).drew
    constructor
    case' left =>
      clear HK' K'
      go_wp2_with fail
      refine (K6.out _ hbd).mono ?_
      rintro _ wa ⟨rfl, hba⟩
      replace hbd := hbd.trans (hba.mono hbd.size)
      clear hba
      go_wp2_with fail
      refine ⟨regrown_of_below hbd, HK.out _ _ ?_⟩
      clear HK K
      refine wpPlan_one fun K hK => ?_
      have HK := Lib.hid hK; clear hK
      simp only [pick, List.getD_cons_succ, List.getD_cons_zero]
      iterate 2 (go_big_quiet_step (fail))
      refine wpQuiet_nil ?_
      rw [E64.out]
      have hbe := hbd.alloc hbd.size (.cells #[.int .i64 0, .int .i64 0] 34)
      go_wp2_with fail
      refine ⟨regrown_of_below hbe, HK.out _ _ ?_⟩
      clear HK K hbe
      refine wpPlan_one fun K hK => ?_
      have HK := Lib.hid hK; clear hK
      simp only [pick, List.getD_cons_succ, List.getD_cons_zero]
      refine wpQuiet_nil ?_
      go_wp2_with fail
      replace hbd := hbd.alloc hbd.size (.cells #[.int .i64 (k0.toNat : Int), .int .i64 (i64of z)] 34)
      have bY := Blk.mk_ wa #[.int .i64 (k0.toNat : Int), .int .i64 (i64of z)] 34 rfl
      have bX' := bX.next hbd
      have hBf := hbz.trans (hbd.mono hbz.size)
      have hrg := regrown_of_below hbd
      generalize wa.heap.size = By at *
      generalize wa.alloc (.cells #[.int .i64 (k0.toNat : Int), .int .i64 (i64of z)] 34) = we at *
      refine ⟨hrg, HK.out _ _ ?_⟩
      clear HK K
    case' right =>
      clear HK K
      have hbe := hbd.alloc hbd.size (.cells #[.int .i64 0, .int .i64 0] 34)
      have bY0 : Blk (wz.alloc (.cells #[.int .i64 0, .int .i64 0] 34)).drew wz.heap.size #[.int .i64 0, .int .i64 0] 34 := blk_of_drew (Blk.mk_ wz _ 34 rfl)
      have hbe : Below wz.heap.size wz (wz.alloc (.cells #[.int .i64 0, .int .i64 0] 34)).drew := ((Below.refl wz.heap.size wz).alloc (Nat.le_refl _) _).drew
      clear hbd
      go_wp2_with fail
      generalize (wz.alloc (.cells #[.int .i64 0, .int .i64 0] 34)).drew = wa0 at *
      refine ⟨regrown_of_below hbe, HK'.out _ _ ?_⟩
      clear HK' K'
      refine wpPlan_one fun K hK => ?_
      have HK := Lib.hid hK; clear hK
      simp only [pick, List.getD_cons_succ, List.getD_cons_zero]
      refine wpQuiet_nil ?_
      go_wp2_with fail
      refine (K6.out _ hbe).mono ?_
      rintro _ wa ⟨rfl, hba⟩
      have bY1 := bY0.next hba
      have hbd := hbe.trans (hba.mono hbe.size)
      clear hba hbe bY0
      go_wp2_with fail
      refine ⟨regrown_of_below hbd, HK.out _ _ ?_⟩
      clear HK K
      refine wpPlan_one fun K hK => ?_
      have HK := Lib.hid hK; clear hK
      simp only [pick, List.getD_cons_succ, List.getD_cons_zero]
      iterate 2 (go_big_quiet_step (fail))
      refine wpQuiet_nil ?_
      rw [E64.out]
      have p0 := bY1.cell 0
      have p1 := bY1.cell 1
      have f0 := bY1.frozen 0
      have f1 := bY1.frozen 1
      go_wp2_with fail
      have bY := (bY1.set 0 (.int .i64 (k0.toNat : Int))).set 1 (.int .i64 (i64of z))
      replace hbd := (hbd.setCell (p := ⟨wz.heap.size, 0, none⟩) (Nat.le_refl _) (.int .i64 (k0.toNat : Int))).setCell (p := ⟨wz.heap.size, 1, none⟩) (Nat.le_refl _) (.int .i64 (i64of z))
      have bX' := bX.next hbd
      have hBf := hbz.trans (hbd.mono hbz.size)
      have hrg := regrown_of_below hbd
      clear hbd
      generalize wz.heap.size = By at *
      generalize (wa.setCell ⟨By, 0, none⟩ (.int .i64 (k0.toNat : Int))).setCell ⟨By, 1, none⟩ (.int .i64 (i64of z)) = we at *
      refine ⟨hrg, HK.out _ _ ?_⟩
      clear HK K bY1 p0 p1 f0 f1
    all_goals
      refine wpPlan_last ?_
      simp only [pick]
      refine wpQuiet_nil ?_
      refine NoPanic.normal ?_
      have q0 := bY.cell 0
      have q1 := bY.cell 1
      go_wp2_with fail
      refine (right_any ⟨(k0.toNat : Int), i64of z⟩ _).mono ?_
      rintro _ wf ⟨rfl, hbf⟩
      have bXf := bX'.next hbf
      have q0 := (bY.next hbf).cell 0
      have q1 := (bY.next hbf).cell 1
      replace hBf := hBf.trans (hbf.mono hBf.size)
      clear hbf hrg K6 r0
      have x0 := bXf.cell 0
      have x1 := bXf.cell 1
      have f0 := bXf.frozen 0
      have f1 := bXf.frozen 1
      by_cases hr : rightM ⟨(k0.toNat : Int), i64of z⟩ = 0
      · have hm := M0.out hr
        rw [hr]
        have HM := Lib.hid hm; clear hm hr
        go_wp2_with fail
        refine bodyPost_ret (v := .tuple #[.agg #[.int .i64 (k0.toNat : Int), .int .i64 (i64of z)], .int .i64 0]) ?_ rfl ?_
        · have s0 := ((bXf.set 0 (.int .i64 (k0.toNat : Int))).set 1 (.int .i64 (i64of z))).cell 0
          have s1 := ((bXf.set 0 (.int .i64 (k0.toNat : Int))).set 1 (.int .i64 (i64of z))).cell 1
          simp [results, Try.f11, go_sem, s0, s1]
        · rw [HM.out]
          exact ⟨rfl, (hBf.setCell (p := ⟨_, 0, none⟩) (Nat.le_refl _) _).setCell (p := ⟨_, 1, none⟩) (Nat.le_refl _) _⟩
      · have hm := M1.out hr
        have hr' : (rightM ⟨(k0.toNat : Int), i64of z⟩ != 0) = true := by simpa using hr
        have HM := Lib.hid hm; clear hm hr
        go_wp2_with fail
        refine bodyPost_ret (v := .tuple #[.agg #[.int .i64 0, .int .i64 0], .int .i64 3]) ?_ rfl ?_
        · have s0 := ((bXf.set 0 (.int .i64 0)).set 1 (.int .i64 0)).cell 0
          have s1 := ((bXf.set 0 (.int .i64 0)).set 1 (.int .i64 0)).cell 1
          simp [results, Try.f11, go_sem, s0, s1]
        · rw [HM.out]
          exact ⟨rfl, (hBf.setCell (p := ⟨_, 0, none⟩) (Nat.le_refl _) _).setCell (p := ⟨_, 1, none⟩) (Nat.le_refl _) _⟩
  · have hm : oneM b = (⟨0, 0⟩, 11) := by unfold oneM; rw [if_pos hsum]
    rw [hm]
    dsimp only [Vl.val]
    have hsum' : ((numB (b.drop 9) : Int) != (sumB (b.take 9) : Int)) = true := by simp; omega
    clear hm
    generalize numB (b.drop 9) = x at *
    generalize sumB (b.take 9) = y at *
    have Hs := Lib.hid hsum; clear hsum
    have y0 : 0 ≤ (y : Int) := by omega
    have y1 : (y : Int) < 4294967296 := by omega
    go_enter Try.func11, Try.ntmps11
    go_wp2_with fail
    have kX := Blk.mk_ w #[.int .i64 0, .int .i64 0] 34 rfl
    have hal := (Below.refl w.heap.size w).alloc (Nat.le_refl _) (.cells #[.int .i64 0, .int .i64 0] 34)
    generalize w.alloc (.cells #[.int .i64 0, .int .i64 0] 34) = W at *
    have k1 := K1.out W hal
    have k2 := K2.out W hal
    have K3 := Lib.hid k1; have K4 := Lib.hid k2; clear k1 k2 K1 K2
    refine quiet_below rfl (by kernel_rfl) (by kernel_rfl) ?_
    repeat (go_big_quiet_step (first | (with_reducible exact K3.out _ _) | (with_reducible exact K4.out _ _)))
    refine wpQuiet_nil ?_
    intro wz hwz
    have cX0 := (kX.next hwz).cell 0
    have cX1 := (kX.next hwz).cell 1
    have fX0 := (kX.next hwz).frozen 0
    have fX1 := (kX.next hwz).frozen 1
    have bX := kX.next hwz
    have hbz : Below w.heap.size w wz := hal.trans (hwz.mono hal.size)
    go_wp2_with fail
    refine bodyPost_ret (v := .tuple #[.agg #[.int .i64 0, .int .i64 0], .int .i64 11]) ?_ rfl ?_
    · have s0 := ((bX.set 0 (.int .i64 0)).set 1 (.int .i64 0)).cell 0
      have s1 := ((bX.set 0 (.int .i64 0)).set 1 (.int .i64 0)).cell 1
      simp [results, Try.f11, go_sem, s0, s1]
    · exact ⟨rfl, (hbz.setCell (p := ⟨_, 0, none⟩) (Nat.le_refl _) _).setCell (p := ⟨_, 1, none⟩) (Nat.le_refl _) _⟩
end Go.Proofs.Ytnpfkhaaogjhlaa
