/-
  The walk of SliceClosed.
-/
import Derived.Test.YtjabhkpifpcccaaBegun
import Derived.Test.YtjabhkpifpcccaaLaws
import Derived.Test.YtjabhkpifpcccaaFast
namespace Go.Proofs.Ytjabhkpifpcccaa
open Go.RowKit Go.Sort

theorem backM_eq {ps : List Pt} {i : Int} (h : checkM ps [i] = 0) : backM ps i = (listedL ps.length [backL ps i.toNat], 0) := by unfold backM; rw [if_pos h]
theorem backM_ne {ps : List Pt} {i : Int} (h : checkM ps [i] ≠ 0) : backM ps i = ([], checkM ps [i]) := by unfold backM; rw [if_neg h]

set_option maxRecDepth 100000 in
set_option maxHeartbeats 4000000 in
theorem closedLaw_any (p : Option Addr) (cap : Nat) (ps : List Pt) (i : Int) (w : World) (hR : Deps w p cap ps) :
    Calls Try.prog 4 #[.slice p ps.length cap, .int .i64 i] w fun e w' => e = .returned (.bool true) ∧ Below w.heap.size w w' := by
  go_enter Try.func4, Try.ntmps4
  go_wp2_with fail
  refine (begun_any _).mono ?_
  rintro _ w1 ⟨rfl, hb⟩
  replace hR := hR.below hb
  have hB := hb
  clear hb
  by_cases hc : checkM ps [i] = 0
  · obtain ⟨hO, hi⟩ := checkM_zero hc
    have hi' := hi i (by simp)
    obtain ⟨n, rfl⟩ := Int.eq_ofNat_of_zero_le hi'.1
    have hnl : n < ps.length := by omega
    have hbe := backM_eq hc
    rw [Int.toNat_natCast] at hbe
    obtain ⟨a, ha⟩ : ∃ a, a = listedL ps.length [backL ps n] := ⟨_, rfl⟩
    rw [← ha] at hbe
    obtain ⟨hia, hlaw⟩ := closed_law hO hnl ha
    have h200 := hO.1
    have Hbe := Lib.hid hbe; have Hlaw := Lib.hid hlaw; clear hbe hlaw ha hc hi hi'
    go_wp2_with fail
    refine (back_is hR rfl (n : Int) Hbe.out).mono ?_
    rintro _ w2 ⟨p2, c2, rfl, hA, hb⟩
    replace hR := hR.below hb
    replace hB := hB.trans (hb.mono hB.size)
    clear hb Hbe
    have hal : a.length ≤ 9223372036854775807 := Nat.le_trans hA.le hA.big
    go_wp2_with fail
    go_loopw [7] (fun s wr => ∃ k : Nat, k ≤ a.length ∧ s = .int .i64 (k : Nat) ∧ Below w2.heap.size w2 wr) (fun s _ => a.length - (intOf s).toNat)
    case atStart => exact ⟨0, Nat.zero_le _, rfl, Below.refl _ _⟩
    case round =>
      obtain ⟨k, hk, rfl, hbw⟩ := hrel
      rcases Nat.lt_or_ge k a.length with hlt | hge
      · obtain ⟨v, hv, hvl, hvi, huse, hused⟩ := Hlaw.out k hlt
        have hlt' : (k : Int) < (a.length : Int) := by omega
        have hvl' : (v : Int) < (ps.length : Int) := by omega
        obtain ⟨ba, offa, rfl, hba, hca⟩ := Sl.int_at hA hlt
        rw [hv] at hca
        obtain ⟨bl, offl, rfl, hbl, hcl, hpt⟩ := hR.at_ hvl
        have hus : usesAt ps v = (ps.getD v .none).l := rfl
        rw [hus] at huse
        generalize hx : ps.getD v .none = x at *
        obtain ⟨xp, xc, xl⟩ := x
        dsimp only [Pt.val] at *
        have hpt' : Sl w2 1 xp xl.length xc (ints .i64 xl) := hpt
        have hxl := Nat.le_trans hpt'.le hpt'.big
        have Hhus := Lib.hid hus; have Hx := Lib.hid hx; have Huse := Lib.hid huse; have Hused := Lib.hid hused; have Hv := Lib.hid hv
        clear hus hx huse hused hv hpt
        go_wp2_with fail
        go_loopw [8] (fun s wr => ∃ q : Nat, q ≤ xl.length ∧ s = .int .i64 (q : Nat) ∧ Below w2.heap.size w2 wr) (fun s _ => xl.length - (intOf s).toNat)
        case atStart => exact ⟨0, Nat.zero_le _, rfl, hbw⟩
        case round =>
          clear hbw
          obtain ⟨q, hq, rfl, hbw⟩ := hrel
          have e1 := (hbw.cell (p := ⟨ba, offa + k, none⟩) hba).trans hca
          have e2 := (hbw.cell (p := ⟨bl, offl + v, none⟩) hbl).trans hcl
          rcases Nat.lt_or_ge q xl.length with hqlt | hqge
          · have hqlt' : (q : Int) < (xl.length : Int) := by omega
            obtain ⟨bu, offu, rfl, hbu, hcu⟩ := Sl.int_at hpt' hqlt
            have e3 := (hbw.cell (p := ⟨bu, offu + q, none⟩) hbu).trans hcu
            have hin := Huse.out (xl.getD q 0) (by simp [hqlt])
            have hhas := has_is (x := xl.getD q 0) (hA.below hbw) (decide_eq_true hin)
            have HH := Lib.hid hhas; clear hhas hin
            generalize xl.getD q 0 = y at *
            go_wp2_with fail
            refine HH.out.mono ?_
            rintro _ w3 ⟨rfl, hb3⟩
            go_wp2_with fail
            go_roundw
            case rel => exact ⟨q + 1, by omega, by go_num, hbw.trans (hb3.mono hbw.size)⟩
            case measure => simp [intOf]; omega
          · obtain rfl : q = xl.length := by omega
            have hvn : (v : Int) ≤ (n : Int) := by omega
            go_wp2_with fail
            go_loopw [9, 10] (fun us s wr => ∃ (m : Nat) (u : Bool), m ≤ a.length ∧ k + 1 ≤ m ∧ s = .int .i64 (m : Nat) ∧ us = .bool u ∧ Below w2.heap.size w2 wr ∧
              Hid ((v = n → u = true) ∧ ∀ m', k < m' → m' < m → ∀ z : Nat, a.getD m' 0 = (z : Int) → (v : Int) ∈ usesAt ps z → u = true)) (fun _ s _ => a.length - (intOf s).toNat)
            case atStart => exact ⟨k + 1, _, by omega, Nat.le_refl _, by go_num, rfl, hbw, ⟨fun h => by rw [h]; simp, fun m' h1 h2 => by omega⟩⟩
            case round =>
              clear hbw e1 e2
              obtain ⟨m, u, hm, hkm, rfl, rfl, hbw, hinv⟩ := hrel
              have e1 := (hbw.cell (p := ⟨ba, offa + k, none⟩) hba).trans hca
              rcases Nat.lt_or_ge m a.length with hmlt | hmge
              · have hmlt' : (m : Int) < (a.length : Int) := by omega
                cases u with
                | true =>
                  clear hinv
                  go_wp2_with fail
                  go_quiet (fail)
                  go_wp2_with fail
                  go_roundw
                  case rel => exact ⟨m + 1, true, by omega, by omega, by go_num, rfl, below_drewN hbw _, ⟨fun _ => rfl, fun _ _ _ _ _ _ => rfl⟩⟩
                  case measure => simp [intOf]; omega
                | false =>
                  obtain ⟨z, hz, hzl, -⟩ := Hlaw.out m hmlt
                  obtain ⟨_, _, ea, -, hcm⟩ := Sl.int_at hA hmlt
                  cases ea
                  rw [hz] at hcm
                  obtain ⟨_, _, el, -, hcz, hptz⟩ := hR.at_ hzl
                  cases el
                  have husz : usesAt ps z = (ps.getD z .none).l := rfl
                  obtain ⟨y, hy⟩ : ∃ y, ps.getD z .none = y := ⟨_, rfl⟩
                  rw [hy] at hcz hptz husz
                  obtain ⟨yp, yc, yl⟩ := y
                  dsimp only [Pt.val] at *
                  have e3 := (hbw.cell (p := ⟨ba, offa + m, none⟩) hba).trans hcm
                  have e4 := (hbw.cell (p := ⟨bl, offl + z, none⟩) hbl).trans hcz
                  have hzl' : (z : Int) < (ps.length : Int) := by omega
                  have hhas := fun d os => Calls.regrown_of (d := d) (os := os) (has_is (b := decide ((v : Int) ∈ yl)) (x := (v : Int)) ((Sl.below hptz hbw).below (below_regrown wr d os)) rfl)
                  have hn : Hid ((v = n → decide ((v : Int) ∈ yl) = true) ∧ ∀ m', k < m' → m' < m + 1 → ∀ z : Nat, a.getD m' 0 = (z : Int) → (v : Int) ∈ usesAt ps z → decide ((v : Int) ∈ yl) = true) := by
                    refine ⟨fun h => absurd (hinv.out.1 h) (by simp), fun m' h1 h2 z' hz' hm' => ?_⟩
                    by_cases e : m' = m
                    · subst e
                      rw [hz] at hz'
                      obtain rfl : z = z' := by omega
                      rw [husz] at hm'
                      simpa using hm'
                    · exact absurd (hinv.out.2 m' h1 (by omega) z' hz' hm') (by simp)
                  have HH := Lib.hid hhas; clear hhas hinv hy husz hz hptz hcm hcz
                  generalize decide ((v : Int) ∈ yl) = b at *
                  have r1 := cell_regrown e1
                  have r3 := cell_regrown e3
                  have r4 := cell_regrown e4
                  clear e1 e3 e4
                  go_wp2_with fail
                  refine quiet_below rfl (by kernel_rfl) (by kernel_rfl) ?_
                  repeat (go_big_quiet_step (with_reducible exact HH.out _ _))
                  refine wpQuiet_nil ?_
                  intro wz hwz
                  clear r1 r3 r4 HH
                  go_wp2_with fail
                  go_roundw
                  case rel => exact ⟨m + 1, b, by omega, by omega, by go_num, rfl, hbw.trans (hwz.mono hbw.size), hn⟩
                  case measure => simp [intOf]; omega
              · obtain rfl : m = a.length := by omega
                have hut : u = true := by
                  rcases Hused.out with h | ⟨m', h1, h2, z, hz, -, hm'⟩
                  · exact hinv.out.1 h
                  · exact hinv.out.2 m' h1 h2 z hz hm'
                subst hut
                clear hinv
                go_wp2_with fail
                go_roundw
                case rel => exact ⟨k + 1, by omega, by go_num, hbw⟩
                case measure => simp [intOf]; omega
      · obtain rfl : k = a.length := by omega
        have hhas := fun W (h : Below w2.heap.size w2 W) => has_is (x := (n : Int)) (hA.below h) (decide_eq_true hia)
        have HH := Lib.hid hhas; clear hhas
        go_wp2_with fail
        refine (begun_any _).mono ?_
        rintro _ w4 ⟨rfl, hb4⟩
        replace hbw := hbw.trans (hb4.mono hbw.size)
        go_wp2_with fail
        refine (HH.out _ hbw).mono ?_
        rintro _ w5 ⟨rfl, hb5⟩
        go_wp2_with fail
        go_ret
        exact ⟨rfl, hB.trans ((hbw.trans (hb5.mono hbw.size)).mono hB.size)⟩
  · have hbe := backM_ne hc
    have hc' : (checkM ps [i] != 0) = true := by simpa using hc
    have Hbe := Lib.hid hbe; clear hbe hc
    go_wp2_with fail
    refine (back_is hR rfl i Hbe.out).mono ?_
    rintro _ w2 ⟨p2, c2, rfl, hA, hb⟩
    replace hB := hB.trans (hb.mono hB.size)
    simp only [List.length_nil]
    go_wp2_with fail
    refine (begun_any _).mono ?_
    rintro _ w3 ⟨rfl, hb3⟩
    go_wp2_with fail
    go_ret
    exact ⟨rfl, hB.trans (hb3.mono hB.size)⟩
end Go.Proofs.Ytjabhkpifpcccaa
