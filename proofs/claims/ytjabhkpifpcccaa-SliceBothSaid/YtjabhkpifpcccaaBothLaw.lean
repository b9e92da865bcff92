/-
  The walk of SliceBoth.
-/
import Derived.Test.YtjabhkpifpcccaaClosedLaw
namespace Go.Proofs.Ytjabhkpifpcccaa
open Go.RowKit Go.Sort

theorem checkM_two {ps : List Pt} {i j : Int} : checkM ps [i, j] = 0 ↔ checkM ps [i] = 0 ∧ checkM ps [j] = 0 := by
  unfold checkM
  by_cases h1 : 200 < ps.length
  · simp [h1]
  · rw [if_neg h1, if_neg h1, if_neg h1]
    by_cases h2 : (List.range ps.length).any (depBad ps) = true
    · simp [h2]
    · rw [if_neg h2, if_neg h2, if_neg h2]
      cases h3 : placeBad ps.length i <;> cases h4 : placeBad ps.length j <;> simp [List.any_cons, h3, h4]
theorem onM_eq {ps : List Pt} {i : Int} (h : checkM ps [i] = 0) : onM ps i = (listedL ps.length [onL ps i.toNat], 0) := by unfold onM; rw [if_pos h]
theorem chopM_eq {ps : List Pt} {i j : Int} (h : checkM ps [i, j] = 0) : chopM ps i j = (listedL ps.length [onL ps i.toNat, backL ps j.toNat], 0) := by unfold chopM; rw [if_pos h]
theorem both_law {ps : List Pt} (h : OkD ps) {i j : Nat} (hi : i < ps.length) (hj : j < ps.length) {a b c : List Int} (ha : a = listedL ps.length [backL ps j]) (hb : b = listedL ps.length [onL ps i]) (hc : c = listedL ps.length [onL ps i, backL ps j]) :
    ((j : Int) ∈ b ↔ (i : Int) ∈ a) ∧ (0 < c.length ↔ (i : Int) ∈ a) ∧ (∀ x ∈ c, x ∈ a ∧ x ∈ b) ∧ ((i : Int) ∈ a → c.getD 0 0 = (i : Int) ∧ c.getD (c.length - 1) 0 = (j : Int)) := by
  have hO := okU_of h
  have hs : c.Pairwise (· < ·) := by rw [hc]; exact sorted_listedL _ _
  have ma : ∀ x, x ∈ a ↔ ∃ k : Nat, x = (k : Int) ∧ Reach (usesAt ps) j k := fun x => by rw [ha]; exact back_mem h hj
  have mb : ∀ x, x ∈ b ↔ ∃ k : Nat, x = (k : Int) ∧ k < ps.length ∧ Reach (usesAt ps) k i := fun x => by rw [hb]; exact on_mem h hi
  have mc : ∀ x, x ∈ c ↔ ∃ k : Nat, x = (k : Int) ∧ Reach (usesAt ps) k i ∧ Reach (usesAt ps) j k := fun x => by rw [hc]; exact chop_mem h hi hj
  have hia : (i : Int) ∈ a ↔ Reach (usesAt ps) j i := by
    rw [ma]
    exact ⟨fun ⟨k, e, hr⟩ => by obtain rfl : i = k := by omega
                                exact hr, fun hr => ⟨i, rfl, hr⟩⟩
  have hjb : (j : Int) ∈ b ↔ Reach (usesAt ps) j i := by
    rw [mb]
    exact ⟨fun ⟨k, e, _, hr⟩ => by obtain rfl : j = k := by omega
                                   exact hr, fun hr => ⟨j, rfl, hj, hr⟩⟩
  refine ⟨hjb.trans hia.symm, ?_, fun x hx => ?_, fun hm => ?_⟩
  · rw [hia]
    constructor
    · intro h0
      obtain ⟨k, -, h1, h2⟩ := (mc _).1 (get_mem h0)
      exact h2.trans h1
    · intro hr
      exact List.length_pos_of_mem ((mc _).2 ⟨i, rfl, .refl, hr⟩)
  · obtain ⟨k, rfl, h1, h2⟩ := (mc x).1 hx
    have := h2.le hO hj
    exact ⟨(ma _).2 ⟨k, rfl, h2⟩, (mb _).2 ⟨k, rfl, by omega, h1⟩⟩
  · have hr := hia.1 hm
    obtain ⟨q, hq, hqi⟩ := mem_get ((mc _).2 ⟨i, rfl, .refl, hr⟩)
    obtain ⟨r, hr2, hrj⟩ := mem_get ((mc _).2 ⟨j, rfl, hr, .refl⟩)
    have lo : ∀ k, k < c.length → (i : Int) ≤ c.getD k 0 ∧ c.getD k 0 ≤ (j : Int) := fun k hk => by
      obtain ⟨u, hu, h1, h2⟩ := (mc _).1 (get_mem hk)
      have a1 := h2.le hO hj
      have a2 := h1.le hO (by omega)
      omega
    constructor
    · rcases Nat.eq_zero_or_pos q with e | e
      · subst e; exact hqi
      · have := sorted_get hs e hq; have := (lo 0 (by omega)).1; omega
    · by_cases e : r = c.length - 1
      · rw [← e]; exact hrj
      · have := sorted_get hs (show r < c.length - 1 by omega) (by omega); have := (lo (c.length - 1) (by omega)).2; omega

set_option maxRecDepth 100000 in
set_option maxHeartbeats 4000000 in
theorem bothLaw_any (p : Option Addr) (cap : Nat) (ps : List Pt) (i j : Int) (w : World) (hR : Deps w p cap ps) :
    Calls Try.prog 5 #[.slice p ps.length cap, .int .i64 i, .int .i64 j] w fun e w' => e = .returned (.bool true) ∧ Below w.heap.size w w' := by
  obtain ⟨⟨a, ea⟩, hbe⟩ : ∃ x, backM ps j = x := ⟨_, rfl⟩
  obtain ⟨⟨b, eb⟩, hbo⟩ : ∃ x, onM ps i = x := ⟨_, rfl⟩
  obtain ⟨⟨c, ec⟩, hbc⟩ : ∃ x, chopM ps i j = x := ⟨_, rfl⟩
  have Ha := Lib.hid hbe; have Hb := Lib.hid hbo; have Hc := Lib.hid hbc; clear hbe hbo hbc
  go_enter Try.func5, Try.ntmps5
  go_wp2_with fail
  refine (begun_any _).mono ?_
  rintro _ w1 ⟨rfl, hb⟩
  replace hR := hR.below hb
  have hB := hb
  clear hb
  go_wp2_with fail
  refine (back_is hR rfl j Ha.out).mono ?_
  rintro _ w2 ⟨p2, c2, rfl, hA, hb⟩
  replace hR := hR.below hb
  replace hB := hB.trans (hb.mono hB.size)
  clear hb
  go_wp2_with fail
  refine (on_is hR rfl i Hb.out).mono ?_
  rintro _ w3 ⟨p3, c3, rfl, hBb, hb⟩
  replace hR := hR.below hb
  replace hA := hA.below hb
  replace hB := hB.trans (hb.mono hB.size)
  clear hb
  go_wp2_with fail
  refine (chop_is hR rfl i j Hc.out).mono ?_
  rintro _ w4 ⟨p4, c4, rfl, hC, hb⟩
  replace hA := hA.below hb
  replace hBb := hBb.below hb
  replace hB := hB.trans (hb.mono hB.size)
  clear hb hR
  by_cases hok : checkM ps [i] = 0 ∧ checkM ps [j] = 0
  · obtain ⟨hci, hcj⟩ := hok
    have hcc := checkM_two.2 ⟨hci, hcj⟩
    obtain ⟨hO, hi⟩ := checkM_zero hci
    obtain ⟨-, hj⟩ := checkM_zero hcj
    have hi' := hi i (by simp)
    have hj' := hj j (by simp)
    obtain ⟨n, rfl⟩ := Int.eq_ofNat_of_zero_le hi'.1
    obtain ⟨m, rfl⟩ := Int.eq_ofNat_of_zero_le hj'.1
    have xa := Ha.out; have xb := Hb.out; have xc := Hc.out
    rw [backM_eq hcj] at xa
    rw [onM_eq hci] at xb
    rw [chopM_eq hcc] at xc
    simp only [Prod.mk.injEq, Int.toNat_natCast] at xa xb xc
    obtain ⟨xa, rfl⟩ := xa
    obtain ⟨xb, rfl⟩ := xb
    obtain ⟨xc, rfl⟩ := xc
    obtain ⟨l1, l2, l3, l4⟩ := both_law hO (by omega : n < ps.length) (by omega : m < ps.length) xa.symm xb.symm xc.symm
    have hcl : c.length ≤ 9223372036854775807 := Nat.le_trans hC.le hC.big
    obtain ⟨is, his⟩ : ∃ is, decide ((n : Int) ∈ a) = is := ⟨_, rfl⟩
    have hjb : decide ((m : Int) ∈ b) = is := by rw [← his]; exact decide_eq_decide.2 l1
    have hpos : decide (0 < c.length) = is := by rw [← his]; exact decide_eq_decide.2 l2
    have hends : is = true → c.getD 0 0 = (n : Int) ∧ c.getD (c.length - 1) 0 = (m : Int) := fun h => l4 (of_decide_eq_true (his.trans h))
    have H1 := Lib.hid his; have H2 := Lib.hid hjb; have H3 := Lib.hid hpos; have H4 := Lib.hid hends; have HL := Lib.hid l3
    clear his hjb hpos hends l1 l2 l3 l4 xa xb xc hi hj hci hcj hcc
    go_wp2_with fail
    refine (has_is hA H1.out).mono ?_
    rintro _ w5 ⟨rfl, hb⟩
    replace hA := hA.below hb
    replace hBb := hBb.below hb
    replace hC := hC.below hb
    replace hB := hB.trans (hb.mono hB.size)
    clear hb
    have hposI : decide ((0 : Int) < (c.length : Int)) = is := by rw [← H3.out]; exact decide_eq_decide.2 (by omega)
    have hx1 : (is != is) = false := by cases is <;> rfl
    go_wp2_with fail
    refine (has_is hBb H2.out).mono ?_
    rintro _ w6 ⟨rfl, hb⟩
    replace hA := hA.below hb
    replace hBb := hBb.below hb
    replace hC := hC.below hb
    replace hB := hB.trans (hb.mono hB.size)
    clear hb
    have Hx := Lib.hid hposI; clear hposI
    cases is with
    | true =>
      have h0 : (0 : Int) < (c.length : Int) := of_decide_eq_true Hx.out
      have h0n : 0 < c.length := by omega
      have h0d : decide (0 < c.length) = true := decide_eq_true h0n
      go_wp2_with fail
      go_loopw [14] (fun s wr => ∃ k : Nat, k ≤ c.length ∧ s = .int .i64 (k : Nat) ∧ Below w6.heap.size w6 wr) (fun s _ => c.length - (intOf s).toNat)
      case atStart => exact ⟨0, Nat.zero_le _, rfl, Below.refl _ _⟩
      case round =>
        obtain ⟨k, hk, rfl, hbw⟩ := hrel
        rcases Nat.lt_or_ge k c.length with hlt | hge
        · have hlt' : (k : Int) < (c.length : Int) := by omega
          obtain ⟨bc, offc, rfl, hbc, hcc⟩ := Sl.int_at hC hlt
          have e1 := (hbw.cell (p := ⟨bc, offc + k, none⟩) hbc).trans hcc
          obtain ⟨ha', hb'⟩ := HL.out (c.getD k 0) (by simp [hlt])
          have hh1 := fun W (h : Below w6.heap.size w6 W) => has_is (x := c.getD k 0) (hA.below h) (decide_eq_true ha')
          have hh2 := fun W (h : Below w6.heap.size w6 W) => has_is (x := c.getD k 0) (hBb.below h) (decide_eq_true hb')
          have HH1 := Lib.hid hh1; have HH2 := Lib.hid hh2; clear hh1 hh2 ha' hb' hcc
          generalize c.getD k 0 = y at *
          go_wp2_with fail
          refine (HH1.out _ hbw).mono ?_
          rintro _ w7 ⟨rfl, hb7⟩
          have hbw7 := hbw.trans (hb7.mono hbw.size)
          have e2 := (hb7.cell (p := ⟨bc, offc + k, none⟩) (Nat.lt_of_lt_of_le hbc hbw.size)).trans e1
          go_wp2_with fail
          refine (HH2.out _ hbw7).mono ?_
          rintro _ w8 ⟨rfl, hb8⟩
          go_wp2_with fail
          go_roundw
          case rel => exact ⟨k + 1, by omega, by go_num, hbw7.trans (hb8.mono hbw7.size)⟩
          case measure => simp [intOf]; omega
        · obtain rfl : k = c.length := by omega
          obtain ⟨q0, q1⟩ := H4.out (by simp)
          obtain ⟨bc, offc, rfl, hbc, hc0⟩ := Sl.int_at hC h0n
          obtain ⟨_, _, e', -, hcl'⟩ := Sl.int_at hC (show c.length - 1 < c.length by omega)
          cases e'
          rw [q0] at hc0
          rw [q1] at hcl'
          have Hc0 := Lib.hid hc0; have Hcl := Lib.hid hcl'; clear q0 q1 hc0 hcl'
          go_wp2_with fail
          refine (begun_any _).mono ?_
          rintro _ w7 ⟨rfl, hb7⟩
          have hbw7 := hbw.trans (hb7.mono hbw.size)
          have f0 : w7.cell? ⟨bc, offc, none⟩ = some (.int .i64 (n : Int)) := (hbw7.cell (p := ⟨bc, offc, none⟩) hbc).trans (by simpa using Hc0.out)
          have f1 := (hbw7.cell (p := ⟨bc, offc + (c.length - 1), none⟩) hbc).trans Hcl.out
          go_wp2_with fail
          go_ret
          exact ⟨rfl, hB.trans (hbw7.mono hB.size)⟩
    | false =>
      have h0 : ¬ (0 : Int) < (c.length : Int) := of_decide_eq_false Hx.out
      obtain rfl : c = [] := List.eq_nil_of_length_eq_zero (by omega)
      simp only [List.length_nil]
      go_wp2_with fail
      go_loopw [14] (fun s wr => s = .int .i64 0 ∧ Below w6.heap.size w6 wr) (fun s _ => 0)
      case atStart => exact ⟨rfl, Below.refl _ _⟩
      case round =>
        obtain ⟨rfl, hbw⟩ := hrel
        go_wp2_with fail
        refine (begun_any _).mono ?_
        rintro _ w7 ⟨rfl, hb7⟩
        go_wp2_with fail
        go_ret
        exact ⟨rfl, hB.trans ((hbw.trans (hb7.mono hbw.size)).mono hB.size)⟩
  · have hec : c = [] := by
      have := Hc.out
      unfold chopM at this
      rw [if_neg (fun h => hok (checkM_two.1 h))] at this
      simp only [Prod.mk.injEq] at this
      exact this.1.symm
    have hecc : ec ≠ 0 := by
      have := Hc.out
      unfold chopM at this
      rw [if_neg (fun h => hok (checkM_two.1 h))] at this
      simp only [Prod.mk.injEq] at this
      rw [← this.2]
      exact fun h => hok (checkM_two.1 h)
    subst hec
    have hcc' : (ec != 0) = true := by simpa using hecc
    clear hok hecc
    simp only [List.length_nil] at hC ⊢
    by_cases h1 : ea = 0
    · subst h1
      by_cases h2 : eb = 0
      · subst h2
        go_wp2_with fail
        refine (begun_any _).mono ?_
        rintro _ w5 ⟨rfl, hb⟩
        go_wp2_with fail
        go_ret
        exact ⟨rfl, hB.trans (hb.mono hB.size)⟩
      · have h2' : (eb != 0) = true := by simpa using h2
        clear h2
        go_wp2_with fail
        refine (begun_any _).mono ?_
        rintro _ w5 ⟨rfl, hb⟩
        go_wp2_with fail
        go_ret
        exact ⟨rfl, hB.trans (hb.mono hB.size)⟩
    · have h1' : (ea != 0) = true := by simpa using h1
      clear h1
      go_wp2_with fail
      refine (begun_any _).mono ?_
      rintro _ w5 ⟨rfl, hb⟩
      go_wp2_with fail
      go_ret
      exact ⟨rfl, hB.trans (hb.mono hB.size)⟩
end Go.Proofs.Ytjabhkpifpcccaa
