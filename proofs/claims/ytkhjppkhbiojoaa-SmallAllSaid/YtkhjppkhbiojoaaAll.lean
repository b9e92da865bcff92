/-
  SmallAll: the walk of the law.
-/
import Derived.Test.YtkhjppkhbiojoaaOne
namespace Go.Proofs.Ytkhjppkhbiojoaa
open Go.RowKit Go.Sort

theorem has_true {w : World} {p : Option Addr} {cap : Nat} {l : List Int} {n : Int} (hR : SlI w p cap l) (h : n ∈ l) :
    Calls Try.prog 10 #[.slice p l.length cap, .int .i64 n] w fun e w' => e = .returned (.bool true) ∧ Below w.heap.size w w' :=
  (hasInt_any n hR).mono fun e w' ⟨he, hw⟩ => ⟨by rw [he, decide_eq_true h], hw ▸ Below.refl _ _⟩
theorem has_false {w : World} {p : Option Addr} {cap : Nat} {l : List Int} {n : Int} (hR : SlI w p cap l) (h : ¬ n ∈ l) :
    Calls Try.prog 10 #[.slice p l.length cap, .int .i64 n] w fun e w' => e = .returned (.bool false) ∧ Below w.heap.size w w' :=
  (hasInt_any n hR).mono fun e w' ⟨he, hw⟩ => ⟨by rw [he, decide_eq_false h], hw ▸ Below.refl _ _⟩

theorem factQ_zero (need l : List Int) : factQ 0 need l = need.all fun x => decide (x ∈ l) := by
  unfold factQ
  rw [if_pos (by decide)]

set_option maxRecDepth 100000 in
set_option maxHeartbeats 2000000 in
theorem all_any {w : World} {p p2 : Option Addr} {cap cap2 : Nat} {l0 need0 : List Int} (hR : SlI w p cap l0) (hN : SlI w p2 cap2 need0) :
    Calls Try.prog 4 #[.slice p l0.length cap, .slice p2 need0.length cap2] w fun e w' => e = .returned (.bool true) ∧ Below w.heap.size w w' := by
  have b1 := Nat.le_trans hR.le hR.big
  have b2 := Nat.le_trans hN.le hN.big
  obtain ⟨l, hl30, hm1, hL, hll⟩ := cut_list hR 30 30 rfl
  obtain ⟨need, hn5, hm2, hD, hnn⟩ := cut_list hN 8 8 rfl
  have c1 := hR.le
  have c2 := hN.le
  have i1 : (l.length : Int) ≤ (cap : Int) := by omega
  have i2 : (need.length : Int) ≤ (cap2 : Int) := by omega
  have i3 : 0 ≤ (l.length : Int) := by omega
  have i4 : 0 ≤ (need.length : Int) := by omega
  clear hR hN
  go_enter Try.func4, Try.ntmps4
  go_wp2_with fail
  refine (begun_any _).mono ?_
  rintro _ w1 ⟨rfl, hb⟩
  replace hL := hL.below hb
  replace hD := hD.below hb
  have hB := hb
  clear hb
  go_wp2_with fail
  refine quiet_below rfl (by kernel_rfl) (by kernel_rfl) ?_
  repeat (go_big_quiet_step (fail))
  refine wpQuiet_nil ?_
  intro wz hwz
  replace hL := hL.below hwz
  replace hD := hD.below hwz
  replace hB := hB.trans (hwz.mono hB.size)
  clear hwz hm1 hm2 i1 i2 i3 i4
  go_wp2_with fail
  refine (fact_any 0 hD).mono ?_
  rintro _ w2 ⟨capt, rfl, hF, hb⟩
  have hH := hF.holds
  replace hL := hL.below hb
  replace hD := hD.below hb
  replace hB := hB.trans (hb.mono hB.size)
  clear hb hF
  cases hq : factQ 0 need l with
  | false =>
    have HQ := Lib.hid hq; clear hq
    go_wp2_with fail
    refine (min_is hH hL (minM_no (by omega) HQ.out)).mono ?_
    rintro _ w3 ⟨p3, c3, rfl, hs3, hb⟩
    replace hB := hB.trans (hb.mono hB.size)
    clear hb hs3 hL hH
    go_wp2_with fail
    refine (begun_any _).mono ?_
    rintro _ w5 ⟨rfl, hb⟩
    go_wp2_with fail
    go_ret
    exact ⟨rfl, hB.trans (hb.mono hB.size)⟩
  | true =>
    obtain ⟨he, hqm, hsub, hmin, -⟩ := minM_spec hl30 hq
    have hmin_is := min_any hH hL
    obtain ⟨⟨m, n, e⟩, hx⟩ : ∃ x, minM (factQ 0 need) l = x := ⟨_, rfl⟩
    rw [hx] at he hqm hsub hmin hmin_is
    dsimp only at he hqm hsub hmin hmin_is
    subst he
    have hml := hsub.length_le
    rw [factQ_zero] at hqm
    have hall := min_all hqm (fun i hi => by rw [← factQ_zero]; exact hmin i hi)
    have hin : ∀ i, i < need.length → need.getD i 0 ∈ m := fun i hi => by
      have := List.all_eq_true.1 hqm (need.getD i 0) (by simp [hi])
      exact of_decide_eq_true this
    have HA := Lib.hid hall; have HN := Lib.hid hin; have HI := Lib.hid hmin_is; clear hq hqm hsub hmin hmin_is hx hall hin
    go_wp2_with fail
    refine HI.out.mono ?_
    clear HI
    rintro _ w3 ⟨p3, c3, rfl, hM, hb⟩
    replace hD := hD.below hb
    replace hB := hB.trans (hb.mono hB.size)
    clear hb hL hH
    go_wp2_with fail
    go_loopw [8] (fun s wr => ∃ i : Nat, s = .int .i64 i ∧ i ≤ m.length ∧ SlI wr p3 c3 m ∧ SlI wr p2 cap2 need ∧ Below w.heap.size w wr) (fun s _ => m.length - (intOf s).toNat)
    case atStart => exact ⟨0, rfl, Nat.zero_le _, hM, hD, hB⟩
    case round =>
      clear hM hD hB
      obtain ⟨i, rfl, hi, hM, hD, hB⟩ := hrel
      by_cases him : i < m.length
      · obtain ⟨ha, hn⟩ := HA.out i him
        obtain ⟨bl, off, hp, hbb, hcl⟩ := hM.int_at him
        have hT := hM.take (m := i) hi
        rw [Nat.mul_one, ← ints_take] at hT
        have e1 : (m.take i).length = i := by simp; omega
        have hA := fun d os => Calls.regrown_of (d := d) (os := os) (has_true (hD.below (below_regrown wr d os)) ha)
        have hN2 := fun d os => Calls.regrown_of (d := d) (os := os) (has_false (w := Sort.grow (redrawn wr d) os) (p := p3) (cap := c3) (l := m.take i) (n := m.getD i 0) (by unfold SlI; rw [e1]; exact hT.below (below_regrown wr d os)) hn)
        rw [e1] at hN2
        have r1 := cell_regrown hcl
        have hle := hM.le
        have i1 : (i : Int) ≤ (c3 : Int) := by omega
        have i2 : 0 ≤ (i : Int) := by omega
        clear hcl hT e1 ha hn
        generalize m.getD i 0 = x at *
        have K1 := Lib.hid hA; have K2 := Lib.hid hN2; clear hA hN2
        subst hp
        go_wp2_with fail
        refine quiet_below rfl (by kernel_rfl) (by kernel_rfl) ?_
        repeat (go_big_quiet_step (first | (with_reducible exact K1.out _ _) | (with_reducible exact K2.out _ _)))
        refine wpQuiet_nil ?_
        intro wz hwz
        replace hM := hM.below hwz
        replace hD := hD.below hwz
        replace hB := hB.trans (hwz.mono hB.size)
        clear hwz r1 K1 K2
        go_wp2_with fail
        go_roundw
        case rel => exact ⟨i + 1, by go_num, by omega, hM, hD, hB⟩
        case measure => simp [intOf]; omega
      · obtain rfl : i = m.length := by omega
        go_wp2_with fail
        go_loopw [9] (fun s wr => ∃ i : Nat, s = .int .i64 i ∧ i ≤ need.length ∧ SlI wr p3 c3 m ∧ SlI wr p2 cap2 need ∧ Below w.heap.size w wr) (fun s _ => need.length - (intOf s).toNat)
        case atStart => exact ⟨0, rfl, Nat.zero_le _, hM, hD, hB⟩
        case round =>
          clear hM hD hB
          obtain ⟨i, rfl, hi, hM, hD, hB⟩ := hrel
          by_cases him : i < need.length
          · have ha := HN.out i him
            obtain ⟨bl, off, rfl, hbb, hcl⟩ := hD.int_at him
            have hh := has_true hM ha
            have K1 := Lib.hid hh; clear hh ha
            generalize need.getD i 0 = x at *
            go_wp2_with fail
            refine K1.out.mono ?_
            rintro _ wz ⟨rfl, hwz⟩
            replace hM := hM.below hwz
            replace hD := hD.below hwz
            replace hB := hB.trans (hwz.mono hB.size)
            clear hwz K1 hcl
            go_wp2_with fail
            go_roundw
            case rel => exact ⟨i + 1, by go_num, by omega, hM, hD, hB⟩
            case measure => simp [intOf]; omega
          · obtain rfl : i = need.length := by omega
            go_wp2_with fail
            refine (begun_any _).mono ?_
            rintro _ w5 ⟨rfl, hb⟩
            go_wp2_with fail
            go_ret
            exact ⟨rfl, hB.trans (hb.mono hB.size)⟩

end Go.Proofs.Ytkhjppkhbiojoaa
