/-
  SmallOne: the walk of the law.
-/
import Derived.Test.YtkhjppkhbiojoaaParts
namespace Go.Proofs.Ytkhjppkhbiojoaa
open Go.RowKit Go.Sort

/-- What is left of a list that is cut at N. -/
theorem cut_list {w : World} {p : Option Addr} {cap : Nat} {l : List Int} (h : SlI w p cap l) (N : Nat) (M : Int) (hM : M = (N : Int)) : ∃ l' : List Int, l'.length ≤ N ∧ (if M < (l.length : Int) then M else (l.length : Int)) = (l'.length : Int) ∧ SlI w p cap l' ∧ l'.length ≤ l.length := by
  subst hM
  have e : (l.take (min l.length N)).length = min l.length N := by simp
  refine ⟨l.take (min l.length N), by omega, by rw [e]; split <;> omega, ?_, by omega⟩
  have := h.take (m := min l.length N) (by omega)
  rw [Nat.mul_one, ← ints_take] at this
  unfold SlI
  rw [e]
  exact this

/-- What the law on smaller lists goes through. -/
structure SO (W w : World) (p q : Option Addr) (c d : Nat) (l m : List Int) (capt : Array Value) (which : Int) (need : List Int) : Prop where
  l : SlI w p c l
  m : SlI w q d m
  f : IsFact w capt which need
  bel : Below W.heap.size W w
theorem SO.next {W w w' : World} {p q : Option Addr} {c d : Nat} {l m : List Int} {capt : Array Value} {which : Int} {need : List Int} (h : SO W w p q c d l m capt which need) (hb : Below w.heap.size w w') : SO W w' p q c d l m capt which need :=
  ⟨h.l.below hb, h.m.below hb, h.f.below hb, h.bel.trans (hb.mono h.bel.size)⟩

set_option maxRecDepth 100000 in
set_option maxHeartbeats 2000000 in
theorem one_any {w : World} {p p2 : Option Addr} {cap cap2 : Nat} {l0 need0 : List Int} (hR : SlI w p cap l0) (which : Int) (hN : SlI w p2 cap2 need0) :
    Calls Try.prog 3 #[.slice p l0.length cap, .int .i64 which, .slice p2 need0.length cap2] w fun e w' => e = .returned (.bool true) ∧ Below w.heap.size w w' := by
  have b1 := Nat.le_trans hR.le hR.big
  have b2 := Nat.le_trans hN.le hN.big
  obtain ⟨l, hl30, hm1, hL, hll⟩ := cut_list hR 30 30 rfl
  obtain ⟨need, hn5, hm2, hD, hnn⟩ := cut_list hN 5 5 rfl
  have c1 := hR.le
  have c2 := hN.le
  have i1 : (l.length : Int) ≤ (cap : Int) := by omega
  have i2 : (need.length : Int) ≤ (cap2 : Int) := by omega
  have i3 : 0 ≤ (l.length : Int) := by omega
  have i4 : 0 ≤ (need.length : Int) := by omega
  clear hR hN
  go_enter Try.func3, Try.ntmps3
  go_wp2_with fail
  refine (begun_any _).mono ?_
  rintro _ w1 ⟨rfl, hb⟩
  replace hL := hL.below hb
  replace hD := hD.below hb
  have hB := hb
  clear hb
  go_wp2_with fail
  refine quiet_below rfl (by kernel_rfl) (by kernel_rfl) ?_
  repeat (go_big_quiet_step (fail))
  refine wpQuiet_nil ?_
  intro wz hwz
  replace hL := hL.below hwz
  replace hD := hD.below hwz
  replace hB := hB.trans (hwz.mono hB.size)
  clear hwz hm1 hm2 i1 i2 i3 i4
  go_wp2_with fail
  refine (fact_any which hD).mono ?_
  rintro _ w2 ⟨capt, rfl, hF, hb⟩
  have hH := hF.holds
  replace hL := hL.below hb
  replace hB := hB.trans (hb.mono hB.size)
  clear hb
  cases hq : factQ which need l with
  | false =>
    have HQ := Lib.hid hq; clear hq
    go_wp2_with fail
    refine (min_is hH hL (minM_no (by omega) HQ.out)).mono ?_
    rintro _ w3 ⟨p3, c3, rfl, hs3, hb⟩
    have hS : SO w w3 p p3 cap c3 l [] capt which need := ⟨hL.below hb, hs3, hF.below hb, hB.trans (hb.mono hB.size)⟩
    clear hb hs3 hL hB hH hF
    have hent := enters_own (P := Try.prog) Try.func14 (by kernel_rfl) rfl
    go_wp2_with fail
    have hc := hS.f.holds.call _ (Below.refl _ _) _ _ _ hS.l (by omega)
    rw [HQ.out] at hc
    refine hc.mono ?_
    clear hc
    rintro _ w4 ⟨rfl, hb⟩
    replace hS := hS.next hb
    clear hb
    go_wp2_with fail
    refine (begun_any _).mono ?_
    rintro _ w5 ⟨rfl, hb⟩
    go_wp2_with fail
    go_ret
    exact ⟨rfl, (hS.next hb).bel⟩
  | true =>
    obtain ⟨he, hqm, hsub, hmin, hmany⟩ := minM_spec hl30 hq
    have hmin_is := min_any hH hL
    obtain ⟨⟨m, n, e⟩, hx⟩ : ∃ x, minM (factQ which need) l = x := ⟨_, rfl⟩
    rw [hx] at he hqm hsub hmin hmany hmin_is
    dsimp only at he hqm hsub hmin hmany hmin_is
    subst he
    have hml := hsub.length_le
    have HQ := Lib.hid hq; have HM := Lib.hid hqm; have HS := Lib.hid hsub; have HN := Lib.hid hmin; have HI := Lib.hid hmin_is; clear hq hqm hsub hmin hmin_is hx
    go_wp2_with fail
    refine HI.out.mono ?_
    clear HI
    rintro _ w3 ⟨p3, c3, rfl, hs3, hb⟩
    have hS : SO w w3 p p3 cap c3 l m capt which need := ⟨hL.below hb, hs3, hF.below hb, hB.trans (hb.mono hB.size)⟩
    clear hb hs3 hL hB hH hF hD
    have hent := enters_own (P := Try.prog) Try.func14 (by kernel_rfl) rfl
    go_wp2_with fail
    have hc := hS.f.holds.call _ (Below.refl _ _) _ _ _ hS.l (by omega)
    rw [HQ.out] at hc
    refine hc.mono ?_
    clear hc
    rintro _ w4 ⟨rfl, hb⟩
    replace hS := hS.next hb
    clear hb
    have hsq : (l.length : Int) * (l.length : Int) ≤ 900 := by
      have := Nat.mul_le_mul hl30 hl30
      have e : ((l.length * l.length : Nat) : Int) ≤ 900 := by omega
      rwa [Int.natCast_mul] at e
    have hsq0 : 0 ≤ (l.length : Int) * (l.length : Int) := Int.mul_nonneg (by omega) (by omega)
    have hmany' : decide ((l.length : Int) * (l.length : Int) + 3 * (l.length : Int) + 2 < (n : Int)) = false := by
      refine decide_eq_false ?_
      have e : ((n : Nat) : Int) ≤ ((l.length * l.length + 3 * l.length + 2 : Nat) : Int) := Int.ofNat_le.2 hmany
      rw [Int.natCast_add, Int.natCast_add, Int.natCast_mul, Int.natCast_mul] at e
      omega
    clear hmany
    go_wp2_with fail
    have hc := hS.f.holds.call _ (Below.refl _ _) _ _ _ hS.m (by omega)
    rw [HM.out] at hc
    refine hc.mono ?_
    clear hc
    rintro _ w5 ⟨rfl, hb⟩
    replace hS := hS.next hb
    clear hb
    go_wp2_with fail
    clear hmany' hsq hsq0
    have hent' := Lib.hid hent
    clear hent
    go_loopw [11, 12] (fun t s wr => ∃ k i : Nat, t = .int .i64 k ∧ s = .int .i64 i ∧ k ≤ m.length ∧ i ≤ l.length ∧ SO w wr p p3 cap c3 l m capt which need ∧ Hid (List.Sublist (m.drop k) (l.drop i))) (fun _ s _ => l.length - (intOf s).toNat)
    case atStart => exact ⟨0, 0, rfl, rfl, Nat.zero_le _, Nat.zero_le _, hS, HS.out⟩
    case round =>
      clear hS
      obtain ⟨k, i, rfl, rfl, hk, hi, hS, hsb⟩ := hrel
      have q3 : decide ((k : Int) < (m.length : Int)) = decide (k < m.length) := by simp
      by_cases hgo : i < l.length ∧ k < m.length
      · obtain ⟨g1, g2⟩ := hgo
        have d1 : decide (i < l.length) = true := decide_eq_true g1
        have d2 : decide (k < m.length) = true := decide_eq_true g2
        obtain ⟨bl, off, hp, hbb, hcl⟩ := hS.l.int_at g1
        obtain ⟨bl2, off2, hp2, hbb2, hcl2⟩ := hS.m.int_at g2
        subst hp hp2
        have e1 : l.drop i = l.getD i 0 :: l.drop (i + 1) := by rw [List.drop_eq_getElem_cons g1]; simp [g1]
        have e2 : m.drop k = m.getD k 0 :: m.drop (k + 1) := by rw [List.drop_eq_getElem_cons g2]; simp [g2]
        have hs0 := hsb.out
        rw [e1, e2] at hs0
        have r1 := cell_regrown hcl
        have r2 := cell_regrown hcl2
        clear hcl hcl2 e1 q3
        generalize l.getD i 0 = x at *
        generalize m.getD k 0 = y at *
        have H0 := Lib.hid hs0; have E2 := Lib.hid e2; clear hs0 e2
        go_wp2_with fail
        refine quiet_below rfl (by kernel_rfl) (by kernel_rfl) ?_
        repeat (go_big_quiet_step (fail))
        refine wpQuiet_nil ?_
        intro wz hwz
        replace hS := hS.next hwz
        clear hwz r1 r2
        go_wp2_with fail
        · have ht : (x == y) = true := by assumption
          go_roundw
          case rel =>
            refine ⟨k + 1, i + 1, by go_num, by go_num, by omega, by omega, hS, ?_⟩
            obtain rfl : x = y := by simpa using ht
            exact List.cons_sublist_cons.1 H0.out
          case measure => simp [intOf]; omega
        · have ht : (x == y) = false := by assumption
          go_roundw
          case rel =>
            refine ⟨k, i + 1, by go_num, by go_num, by omega, by omega, hS, ?_⟩
            have hne : ¬ x = y := by simpa using ht
            unfold Hid
            rw [E2.out]
            have h0 := H0.out
            cases h0 with
            | cons _ h => exact h
            | cons_cons _ h => exact absurd rfl hne
          case measure => simp [intOf]; omega
      · have hkm : k = m.length := by
          rcases Nat.lt_or_ge i l.length with g1 | g1
          · omega
          · have := hsb.out.length_le
            simp at this; omega
        subst hkm
        have hend : decide (m.length < m.length) = false := decide_eq_false (by omega)
        clear hgo q3
        by_cases g1 : i < l.length
        all_goals
          clear hsb
          go_wp2_with fail
          go_loopw [13] (fun s wr => ∃ i : Nat, s = .int .i64 i ∧ i ≤ m.length ∧ SO w wr p p3 cap c3 l m capt which need) (fun s _ => m.length - (intOf s).toNat)
          case atStart => exact ⟨0, rfl, Nat.zero_le _, hS⟩
          case round =>
            clear hS
            obtain ⟨j, rfl, hj, hS⟩ := hrel
            by_cases hjm : j < m.length
            · have hw := withoutE_ok (l := m) (i := j) (j := j + 1) (by omega) (by omega) (by omega)
              rw [show ((j + 1 : Nat) : Int) = (j : Int) + 1 from by omega] at hw
              have hxl := withoutM_length (l := m) (a := j) (b := j + 1) (by omega) (by omega)
              have hxq := HN.out j hjm
              have hx2 : (withoutM m j (j + 1)).length ≤ 200 := by omega
              have hxb : ((((withoutM m j (j + 1)).length : Nat) : Int) != (m.length : Int) - 1) = false := by
                rw [bne_eq_false_iff_eq, hxl]; omega
              clear hxl
              generalize withoutM m j (j + 1) = x at *
              have HW := Lib.hid hw; have HXQ := Lib.hid hxq; clear hw hxq
              go_wp2_with fail
              refine (without_is hS.m HW.out).mono ?_
              rintro _ w6 ⟨p4, c4, rfl, hs4, hb⟩
              replace hS := hS.next hb
              clear hb
              have hent := hent'.out
              go_wp2_with fail
              have hc := hS.f.holds.call _ (Below.refl _ _) _ _ _ hs4 hx2
              rw [HXQ.out] at hc
              refine hc.mono ?_
              clear hc hs4
              rintro _ w7 ⟨rfl, hb⟩
              replace hS := hS.next hb
              clear hb
              go_wp2_with fail
              go_roundw
              case rel => exact ⟨j + 1, by go_num, by omega, hS⟩
              case measure => simp [intOf]; omega
            · obtain rfl : j = m.length := by omega
              go_wp2_with fail
              refine (begun_any _).mono ?_
              rintro _ w6 ⟨rfl, hb⟩
              go_wp2_with fail
              go_ret
              exact ⟨rfl, (hS.next hb).bel⟩

end Go.Proofs.Ytkhjppkhbiojoaa
