/-
  The walk of HuntParts.
-/
import Derived.Test.YtoillodfabdeeaaParts
namespace Go.Proofs.Ytoillodfabdeeaa
open Go.RowKit Go.Sort

set_option maxRecDepth 100000 in
set_option maxHeartbeats 4000000 in
theorem partsLaw_any {w : World} {p q : Option Addr} {cap cap2 : Nat} {ps0 : List Pt} {good0 : List Int} (hR0 : Deps w p cap ps0) (bad : Int) (hG0 : SlI w q cap2 good0) :
    Calls Try.prog 5 #[.slice p ps0.length cap, .int .i64 bad, .slice q good0.length cap2] w fun e w' => e = .returned (.bool true) ∧ Below w.heap.size w w' := by
  obtain ⟨ps, hl30, hm1, hR, hll⟩ := cut_deps hR0 30 30 rfl
  obtain ⟨good, hg5, hm2, hG, hgg⟩ := cut_ints hG0 5 5 rfl
  have z1 := hR0.sl.le
  have z2 := hR0.sl.big
  have z3 := hG0.le
  have z4 := hG0.big
  have hlc : ps.length ≤ cap := by omega
  have hgc : good.length ≤ cap2 := by omega
  clear hR0 hG0
  have hlcI : (ps.length : Int) ≤ (cap : Int) := by omega
  have hgcI : (good.length : Int) ≤ (cap2 : Int) := by omega
  go_enter Try.func5, Try.ntmps5
  go_wp2_with fail
  refine (begun_any _).mono ?_
  rintro _ w1 ⟨rfl, hB⟩
  go_wp2_with fail
  go_region
  have hB2 := hB.drew
  generalize w1.drew = w2 at *
  clear hm1 hm2 hB
  have hsus := Suspects_any (hR.below hB2) (hG.below hB2) bad
  have HS := Lib.hid hsus; clear hsus
  by_cases he : askE ps bad good = 0
  · obtain ⟨hO, hbr, hgok, hbs, hsl⟩ := askE_zero he
    obtain ⟨k, rfl⟩ := Int.eq_ofNat_of_zero_le hbr.1
    have hk : k < ps.length := by omega
    rw [Int.toNat_natCast] at hbs hsl
    have hHS := HS.out
    rw [hsl, he] at hHS
    have HS2 := Lib.hid hHS; clear hHS HS
    have hpl := fun h => parts_law hO hk hgok hbs h
    have hpe := fun h => parts_end hO hk hbs h
    have hPk := fun w h1 h2 => Pick_any (w := w) (p := p) (cap := cap) (ps := ps) (q := q) (cap2 := cap2) (good := good) h1 h2 (k : Int)
    rw [he] at hPk
    have HPk := Lib.hid hPk; have HPL := Lib.hid hpl; have HPE := Lib.hid hpe; have HO := Lib.hid hO
    clear hPk hpl hpe hsl he hbs hO
    generalize suspP ps k good = S at *
    go_wp2_with fail
    refine HS2.out.mono ?_
    rintro _ w3 ⟨p3, c3, rfl, hown, hb3⟩
    have hB3 := hB2.trans (hb3.mono hB2.size)
    have hpk := HPk.out w3 (hR.below hB3) (hG.below hB3)
    have hS := Sl.of_own hown
    clear hown hb3 HS2 HPk
    by_cases hp0 : pickM ps (k : Int) good < 0
    · have hSk := HPE.out hp0
      subst hSk
      rw [show decide (0 ≤ pickM ps (k : Int) good) = false from decide_eq_false (by omega)] at hpk
      have HK := Lib.hid hpk; clear hpk HPL HPE
      generalize (if (0 : Int) = 0 then max (pickM ps (k : Int) good) 0 else 0) = pv at *
      go_wp2_with fail
      refine HK.out.mono ?_
      rintro _ w4 ⟨rfl, hb4⟩
      have hB4 := hB3.trans (hb4.mono hB3.size)
      have hS4 := hS.below hb4
      go_wp2_with fail
      refine (begun_any _).mono ?_
      rintro _ w5 ⟨rfl, hb5⟩
      obtain ⟨b, off, rfl, hbb, hcc⟩ := Sl.int_at (Sl.below hS4 hb5) (l := [(k : Int)]) (i := 0) (by simp)
      rw [Nat.add_zero] at hcc
      change w5.cell? ⟨b, off, none⟩ = some (.int .i64 (k : Int)) at hcc
      go_wp2_with fail
      go_ret
      exact ⟨rfl, hB4.trans (hb5.mono hB4.size)⟩
    · obtain ⟨n, a, b, hL⟩ := HPL.out (by omega)
      rw [hL.pick] at hpk
      rw [show decide (0 ≤ (n : Int)) = true from decide_eq_true (by omega), show max (n : Int) 0 = (n : Int) from by omega] at hpk
      simp only [if_true, decide_true, Bool.true_and] at hpk
      have hsa := fun w h => Suspects_any (w := w) (ps := ps) (p := p) (cap := cap) (hR.below h) (hG.below h) (n : Int)
      rw [hL.ea, hL.la] at hsa
      have hsb := fun w (q' : Option Addr) (c' : Nat) h h2 => Suspects_any (w := w) (ps := ps) (p := p) (cap := cap) (q := q') (cap2 := c') (good := good ++ [(n : Int)]) (hR.below h) h2 (k : Int)
      rw [hL.eb, hL.lb] at hsb
      have HK := Lib.hid hpk; have HSa := Lib.hid hsa; have HSb := Lib.hid hsb; have HL := Lib.hid hL; clear hpk hsa hsb hL HPL HPE
      clear hp0
      go_wp2_with fail
      refine HK.out.mono ?_
      rintro _ w4 ⟨rfl, hb4⟩
      have hB4 := hB3.trans (hb4.mono hB3.size)
      have hS4 := hS.below hb4
      go_wp2_with fail
      refine (HSa.out _ hB4).mono ?_
      rintro _ w5 ⟨pa, ca, rfl, howna, hb5⟩
      have hB5 := hB4.trans (hb5.mono hB4.size)
      have hS5 := hS4.below hb5
      have hA5 := Sl.of_own howna
      obtain ⟨i0, hi0, iz0, iz1, iz2⟩ := info_parts infoI
      clear howna hb5 hb4 hS4 hS HSa HK
      go_wp2_with (first
        | (at_builtin; refine wpList_append_sl _ rfl _ _ 23 rfl w5.heap.size 3 i0 (.int .i64 0) 1 8 Try.underlying23 hi0 iz0 iz1 iz2 rfl (by decide) _ 0 [] rfl (World.ownsRow_lit (n := 0) w5 #[] (Nat.le_refl _) (Nat.zero_le _) rfl) _ good.length cap2 (ints .i64 good) rfl ((hG.below hB5).below ((Below.refl _ _).alloc (Nat.le_refl _) _)) ints_one (by omega) (by omega) (by simp) ?_; intro p6 c6 w6 hown6 hbel6; simp only [Nat.zero_add, List.nil_append] at hown6; have hbel6' := ((Below.refl w5.heap.size w5).alloc (Nat.le_refl _) _).trans hbel6; have hal6 := (Below.refl w6.heap.size w6).alloc (Nat.le_refl _) (.cells #[.int .i64 (n : Int)] 3); have hz6 := hbel6'.size; have hz7 := hal6.size)
        | (at_builtin; refine wpList_append_sl _ rfl _ _ 23 rfl w5.heap.size 3 i0 (.int .i64 0) 1 8 Try.underlying23 hi0 iz0 iz1 iz2 rfl (by decide) _ _ _ rfl (own_below hown6 hal6) _ 1 1 (ints .i64 [(n : Int)]) rfl (lit_sl w6 [(n : Int)] (by simp) #[.int .i64 (n : Int)] rfl _ rfl 1 rfl) ints_one (by omega) (by omega) (by omega) ?_; intro p7 c7 w7 hown7 hbel7))
      have hlg : good.length + 1 = (good ++ [(n : Int)]).length := by simp
      rw [← ints_append] at hown7
      have hown8 : OwnI w7 w5.heap.size p7 c7 (good ++ [(n : Int)]) := by unfold OwnI; rw [← hlg]; exact hown7
      have hb7 : Below w5.heap.size w5 w7 := hbel6'.trans ((hal6.mono hz6).trans hbel7)
      have hB7 := hB5.trans (hb7.mono hB5.size)
      have hbb := HSb.out w7 p7 c7 hB7 (Sl.of_own hown8)
      rw [← hlg] at hbb
      have hS7 := hS5.below hb7
      have hA7 := hA5.below hb7
      have HBb := Lib.hid hbb; clear hbb hown7 hown8 hown6 hbel6 hbel6' hal6 hbel7 HSb hS5 hA5 hlg
      refine HBb.out.mono ?_
      rintro _ w8 ⟨pb, cb, rfl, hownb, hb8⟩
      have hB8 := hB7.trans (hb8.mono hB7.size)
      have hS8 := hS7.below hb8
      have hA8 := hA7.below hb8
      have hBB := Sl.of_own hownb
      have lta := HL.out.lta
      have ltb := HL.out.ltb
      have hsum := HL.out.sum
      have heach := HL.out.each
      have hmem := HL.out.mem
      have hne := HL.out.ne
      have hSl : S.length ≤ 9223372036854775807 := Nat.le_trans hS8.le hS8.big
      have q1 : decide ((S.length : Int) ≤ (a.length : Int)) = false := decide_eq_false (by omega)
      have q2 : decide ((S.length : Int) ≤ (b.length : Int)) = false := decide_eq_false (by omega)
      have q3 : ((a.length : Int) + (b.length : Int) != (S.length : Int)) = false := by simp; omega
      have q4 : ((n : Int) != (k : Int)) = true := by simp; omega
      have q5 : (a.length : Int) + (b.length : Int) = (S.length : Int) := by omega
      have HE := Lib.hid heach; have HM := Lib.hid hmem
      clear hS7 hA7 hownb HBb hb8 heach hmem HL
      go_wp2_with fail
      go_loopw [16] (fun s wr => ∃ j : Nat, j ≤ S.length ∧ s = .int .i64 j ∧ Below w8.heap.size w8 wr) (fun s _ => S.length - (intOf s).toNat)
      case atStart => exact ⟨0, Nat.zero_le _, rfl, Below.refl _ _⟩
      case round =>
        obtain ⟨j, hj, rfl, hbr⟩ := hrel
        by_cases hjl : j < S.length
        · have hx := HE.out (S.getD j 0) (by simp [hjl])
          obtain ⟨b2, off2, rfl, hb2, hc2⟩ := Sl.int_at hS8 hjl
          have hc3 := (hbr.cell (p := ⟨b2, off2 + j, none⟩) hb2).trans hc2
          have hjI : (j : Int) < (S.length : Int) := by omega
          generalize S.getD j 0 = x at *
          have h1 := fun d os => Calls.regrown_of (d := d) (os := os) (has_is (x := x) ((hA8.below hbr).below (below_regrown wr d os)) rfl)
          have h2 := fun d os => Calls.regrown_of (d := d) (os := os) (has_is (x := x) ((hBB.below hbr).below (below_regrown wr d os)) rfl)
          rw [hx] at h1
          have H1 := Lib.hid h1; have H2 := Lib.hid h2; clear h1 h2 hx hc2
          generalize decide (x ∈ b) = bv at *
          have r1 := cell_regrown hc3
          clear hc3
          go_wp2_with fail
          refine quiet_below rfl (by kernel_rfl) (by kernel_rfl) ?_
          repeat (go_big_quiet_step (first | with_reducible exact H1.out _ _ | with_reducible exact H2.out _ _))
          refine wpQuiet_nil ?_
          intro wz hwz
          clear r1 H1 H2
          cases bv
          all_goals
            go_wp2_with fail
            go_roundw
            case rel => exact ⟨j + 1, by omega, by go_num, hbr.trans (hwz.mono hbr.size)⟩
            case measure => simp [intOf]; omega
        · obtain rfl : j = S.length := by omega
          go_wp2_with fail
          refine (begun_any _).mono ?_
          rintro _ w9 ⟨rfl, hb9⟩
          have hb89 := hbr.trans (hb9.mono hbr.size)
          have hh := has_is (x := (n : Int)) (hS8.below hb89) (decide_eq_true HM.out)
          have HH := Lib.hid hh; clear hh
          go_wp2_with fail
          refine HH.out.mono ?_
          rintro _ w10 ⟨rfl, hb10⟩
          go_wp2_with fail
          go_ret
          exact ⟨rfl, hB8.trans ((hb89.trans (hb10.mono hb89.size)).mono hB8.size)⟩
  · have he' : (askE ps bad good != 0) = true := by simpa using he
    have hse : susL ps bad good = [] := by unfold susL; rw [if_neg he]
    have hPk := fun w h1 h2 => Pick_any (w := w) (p := p) (cap := cap) (ps := ps) (q := q) (cap2 := cap2) (good := good) h1 h2 bad
    have hHS := HS.out
    rw [hse] at hHS
    simp only [if_neg he, decide_eq_false he, Bool.false_and] at hPk
    have HPk := Lib.hid hPk; have HS2 := Lib.hid hHS; clear hPk hHS HS hse he
    generalize askE ps bad good = er at *
    go_wp2_with fail
    refine HS2.out.mono ?_
    rintro _ w3 ⟨p3, c3, rfl, hown, hb3⟩
    have hB3 := hB2.trans (hb3.mono hB2.size)
    have hpk := HPk.out w3 (hR.below hB3) (hG.below hB3)
    have HK := Lib.hid hpk; clear hpk
    go_wp2_with fail
    refine HK.out.mono ?_
    rintro _ w4 ⟨rfl, hb4⟩
    have hB4 := hB3.trans (hb4.mono hB3.size)
    go_wp2_with fail
    refine (begun_any _).mono ?_
    rintro _ w5 ⟨rfl, hb5⟩
    go_wp2_with fail
    go_ret
    exact ⟨rfl, hB4.trans (hb5.mono hB4.size)⟩
end Go.Proofs.Ytoillodfabdeeaa
