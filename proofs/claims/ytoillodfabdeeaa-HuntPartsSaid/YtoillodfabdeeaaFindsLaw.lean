/-
  The walk of HuntFinds.
-/
import Derived.Test.YtoillodfabdeeaaFinds
import Derived.RegionTactic
import Derived.BigRegion
namespace Go.Proofs.Ytoillodfabdeeaa
open Go.RowKit Go.Sort

theorem cut_deps {w : World} {p : Option Addr} {cap : Nat} {l : List Pt} (h : Deps w p cap l) (N : Nat) (M : Int) (hM : M = (N : Int)) : ∃ l' : List Pt, l'.length ≤ N ∧ min (l.length : Int) M = (l'.length : Int) ∧ Deps w p cap l' ∧ l'.length ≤ l.length := by
  subst hM
  have e : (l.take (min l.length N)).length = min l.length N := by simp
  refine ⟨l.take (min l.length N), by omega, by rw [e]; omega, ⟨?_, fun i hi => ?_⟩, by omega⟩
  · have := h.sl.take (m := min l.length N) (by omega)
    rw [Nat.mul_one] at this
    rw [e]
    rwa [show pts (l.take (min l.length N)) = (pts l).take (min l.length N) from by simp [pts, List.map_take]]
  · have hi' : i < min l.length N := by rw [e] at hi; exact hi
    rw [show (l.take (min l.length N)).getD i .none = l.getD i .none from by
      rw [List.getD_eq_getElem?_getD, List.getElem?_take, if_pos hi', ← List.getD_eq_getElem?_getD]]
    exact h.each i (by omega)
theorem cut_ints {w : World} {p : Option Addr} {cap : Nat} {l : List Int} (h : SlI w p cap l) (N : Nat) (M : Int) (hM : M = (N : Int)) : ∃ l' : List Int, l'.length ≤ N ∧ min (l.length : Int) M = (l'.length : Int) ∧ SlI w p cap l' ∧ l'.length ≤ l.length := by
  subst hM
  have e : (l.take (min l.length N)).length = min l.length N := by simp
  refine ⟨l.take (min l.length N), by omega, by rw [e]; omega, ?_, by omega⟩
  have := h.take (m := min l.length N) (by omega)
  rw [Nat.mul_one, ← ints_take] at this
  unfold SlI
  rw [e]
  exact this

set_option maxRecDepth 100000 in
set_option maxHeartbeats 4000000 in
theorem findsLaw_any {w : World} {p q : Option Addr} {cap cap2 : Nat} {ps0 : List Pt} {good0 : List Int} (hR0 : Deps w p cap ps0) (bad culprit : Int) (hG0 : SlI w q cap2 good0) :
    Calls Try.prog 3 #[.slice p ps0.length cap, .int .i64 bad, .int .i64 culprit, .slice q good0.length cap2] w fun e w' => e = .returned (.bool true) ∧ Below w.heap.size w w' := by
  obtain ⟨ps, hl30, hm1, hR, hll⟩ := cut_deps hR0 30 30 rfl
  obtain ⟨good, hg5, hm2, hG, hgg⟩ := cut_ints hG0 5 5 rfl
  have z1 := hR0.sl.le
  have z2 := hR0.sl.big
  have z3 := hG0.le
  have z4 := hG0.big
  have hlc : ps.length ≤ cap := by omega
  have hgc : good.length ≤ cap2 := by omega
  clear hR0 hG0
  have hal := (((Below.refl w.heap.size w).alloc (Nat.le_refl _) (.cells #[.slice p ps0.length cap] 22)).alloc (by simp) (.cells #[.int .i64 culprit] 3))
  have bL := (Blk.mk_ w #[.slice p ps0.length cap] 22 rfl).alloc (.cells #[.int .i64 culprit] 3)
  have bC : Blk ((w.alloc (.cells #[.slice p ps0.length cap] 22)).alloc (.cells #[.int .i64 culprit] 3)) (w.heap.size + 1) #[.int .i64 culprit] 3 := Blk.mk_ _ _ 3 (by simp)
  go_enter Try.func3, Try.ntmps3
  go_wp2_with fail
  refine (begun_any _).mono ?_
  rintro _ w1 ⟨rfl, hb1⟩
  replace bL := bL.next hb1
  replace bC := bC.next hb1
  have hB := hal.trans (hb1.mono hal.size)
  clear hal hb1
  go_wp2_with fail
  have c1 := bL.cell 0
  change w1.cell? ⟨w.heap.size, 0, none⟩ = some (.slice p ps0.length cap) at c1
  have f1 := bL.frozen 0
  have hlcI : (ps.length : Int) ≤ (cap : Int) := by omega
  have hgcI : (good.length : Int) ≤ (cap2 : Int) := by omega
  go_region
  have hB2 := (hB.setCell (p := ⟨w.heap.size, 0, none⟩) (Nat.le_refl _) (.slice p ps.length cap)).drew
  have bL2 : Blk (w1.setCell ⟨w.heap.size, 0, none⟩ (.slice p ps.length cap)).drew w.heap.size #[.slice p ps.length cap] 22 := (bL.set 0 (.slice p ps.length cap)).drew
  have bC2 := (bC.other (C := w.heap.size) (k := 0) (.slice p ps.length cap) (by omega)).drew
  generalize (w1.setCell ⟨w.heap.size, 0, none⟩ (.slice p ps.length cap)).drew = w2 at *
  clear c1 f1 bL bC hB hm1 hm2
  have hz := hB2.size
  have c1 := bL2.cell 0
  change w2.cell? ⟨w.heap.size, 0, none⟩ = some (.slice p ps.length cap) at c1
  have hsus := Suspects_any (hR.below hB2) (hG.below hB2) bad
  have HS := Lib.hid hsus; clear hsus
  by_cases he : askE ps bad good = 0
  · have hsl : susL ps bad good = suspP ps bad.toNat good := by unfold susL; rw [if_pos he]
    have hez : errB ps bad good = 0 ∧ bad ∈ suspP ps bad.toNat good := by
      unfold askE at he
      split at he
      · next h => split at he
                  · next h2 => exact ⟨h, h2⟩
                  · omega
      · next h => exact absurd he h
    obtain ⟨hO, hbad, hgok⟩ := errB_zero hez.1
    have hHS := HS.out
    rw [hsl, he] at hHS
    have HS2 := Lib.hid hHS; have He := Lib.hid he; have Hbs := Lib.hid hez.2; have HO := Lib.hid hO; clear hHS HS he hez hsl hO
    have hsm : ∀ c, Hid (FindI ps c (suspP ps bad.toNat good).length bad good 0 ↔ c ∈ suspP ps bad.toNat good) := fun c => ⟨fun h => h.1, fun h => ⟨h, Hbs.out, by omega⟩⟩
    have hslen := suspP_len (ps := ps) (bad := bad.toNat) (good := good)
    generalize suspP ps bad.toNat good = sl at *
    go_wp2_with fail
    refine HS2.out.mono ?_
    rintro _ w3 ⟨p3, c3, rfl, hown, hb3⟩
    have hB3 := hB2.trans (hb3.mono hz)
    have bL3 := bL2.next hb3
    have bC3 := bC2.next hb3
    have c2 := bC3.cell 0
    change w3.cell? ⟨w.heap.size + 1, 0, none⟩ = some (.int .i64 culprit) at c2
    have c1' := bL3.cell 0
    change w3.cell? ⟨w.heap.size, 0, none⟩ = some (.slice p ps.length cap) at c1'
    clear c1 HS2
    have hhas := hasInt_any culprit (Sl.of_own hown)
    have HH := Lib.hid hhas; clear hhas
    go_wp2_with fail
    refine HH.out.mono ?_
    rintro _ w4 ⟨rfl, rfl⟩
    cases hd : decide (culprit ∈ sl) with
    | false =>
      clear HH
      go_wp2_with fail
      refine (begun_any _).mono ?_
      rintro _ w5 ⟨rfl, hb5⟩
      go_wp2_with fail
      go_ret
      exact ⟨rfl, hB3.trans (hb5.mono hB3.size)⟩
    | true =>
      have hI0 := ((hsm culprit).out).2 (of_decide_eq_true hd)
      have hpred := finds1_pred (hR.below hB3) HO.out bL3 bC3
      have hhunt := Hunt_any (hR.below hB3) (hG.below hB3) (by omega) bad hpred (fun w' n _ h1 h2 => ⟨h1, h2⟩) He.out hI0 (find_goes HO.out culprit sl.length)
      have HU := Lib.hid hhunt; clear hhunt hpred hI0 HH hd
      go_wp2_with fail
      refine HU.out.mono ?_
      rintro _ w5 ⟨b, g, m, hinv, hpk, hbr, -, rfl, hb5⟩
      obtain ⟨rfl, hmn⟩ := find_end HO.out hinv hbr hpk
      have hB5 := hB3.trans (hb5.mono hB3.size)
      have bC5 := bC3.next hb5
      clear hinv hpk HU c1' c2
      go_wp2_with fail
      refine (begun_any _).mono ?_
      rintro _ w6 ⟨rfl, hb6⟩
      have c5 := (bC5.next hb6).cell 0
      change w6.cell? ⟨w.heap.size + 1, 0, none⟩ = some (.int .i64 b) at c5
      have hmn' : (m : Int) < (sl.length : Int) := by omega
      go_wp2_with fail
      go_ret
      exact ⟨rfl, hB5.trans (hb6.mono hB5.size)⟩
  · have he' : (askE ps bad good != 0) = true := by simpa using he
    clear he
    generalize askE ps bad good = er at *
    generalize susL ps bad good = sl at *
    go_wp2_with fail
    refine HS.out.mono ?_
    rintro _ w3 ⟨p3, c3, rfl, hown, hb3⟩
    have hB3 := hB2.trans (hb3.mono hz)
    go_wp2_with fail
    refine (begun_any _).mono ?_
    rintro _ w5 ⟨rfl, hb5⟩
    go_wp2_with fail
    go_ret
    exact ⟨rfl, hB3.trans (hb5.mono hB3.size)⟩
end Go.Proofs.Ytoillodfabdeeaa
