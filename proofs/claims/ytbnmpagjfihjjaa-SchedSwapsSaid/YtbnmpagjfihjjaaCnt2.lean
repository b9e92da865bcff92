/-
  count, Max, without, Count.
-/
import Derived.Test.YtbnmpagjfihjjaaCnt
namespace Go.Proofs.Ytbnmpagjfihjjaa
open Go.RowKit

theorem take_sum_le (ps : List Nat) (i : Nat) : (ps.take i).sum ≤ ps.sum := by
  conv => rhs; rw [← List.take_append_drop i ps, List.sum_append]
  omega
theorem take_succ_sum {ps : List Nat} {i : Nat} (h : i < ps.length) : (ps.take (i + 1)).sum = (ps.take i).sum + ps.getD i 0 := by
  rw [List.take_add_one, List.sum_append, List.getD_eq_getElem?_getD, List.getElem?_eq_getElem h]; simp
theorem cM_take {ps : List Nat} {i : Nat} (h : i < ps.length) : cM 0 (ps.take (i + 1)) = cM 0 (ps.take i) * ch ((ps.take i).sum + ps.getD i 0) (ps.getD i 0) := by
  have e : ps.take (i + 1) = ps.take i ++ [ps.getD i 0] := by
    rw [List.take_add_one, List.getD_eq_getElem?_getD, List.getElem?_eq_getElem h]; rfl
  rw [e, cM_snoc, Nat.zero_add]
theorem step_div {o A k : Nat} : o * ch (A + k) k * (A + k + 1) / (k + 1) = o * ch (A + (k + 1)) (k + 1) := by
  have := ch_succ (A + k) k
  rw [Nat.mul_assoc, ← this, ← Nat.mul_assoc]
  exact Nat.mul_div_cancel _ (Nat.succ_pos k)

set_option maxHeartbeats 4000000 in
theorem count_any {w : World} {p : Option Addr} {cap : Nat} {ps : List Nat} (hS : SlI w p cap (nl ps)) (h12 : ps.sum ≤ 12) :
    Calls Try.prog 17 #[.slice p ps.length cap] w fun e w' => e = .returned (.int .i64 (cM 0 ps : Nat)) ∧ Below w.heap.size w w' := by
  have l1 := Sl.le hS
  have l2 := Sl.big hS
  rw [nl_len] at l1
  have HS := Lib.hid hS
  have H12 := Lib.hid h12
  clear hS h12
  go_enter Try.func17, Try.ntmps17
  go_wp2_with fail
  go_loopw [3, 4, 10] (fun u v s wr => ∃ (i o A : Nat), i ≤ ps.length ∧ s = .int .i64 i ∧ u = .int .i64 o ∧ v = .int .i64 A ∧ A ≤ 12 ∧ o ≤ 8916100448256 ∧ Below w.heap.size w wr ∧ Hid (o = cM 0 (ps.take i) ∧ A = (ps.take i).sum)) (fun _ _ s _ => ps.length - (intOf s).toNat)
  case atStart => exact ⟨0, 1, 0, Nat.zero_le _, rfl, rfl, rfl, by omega, by omega, Below.refl _ _, ⟨rfl, rfl⟩⟩
  case round =>
    obtain ⟨i, o, A, hi, rfl, rfl, rfl, hA, ho, hbl, hx⟩ := hrel
    by_cases hlt : i < ps.length
    · obtain ⟨b, off, rfl, hb, hc⟩ := Sl.int_at HS.out (i := i) (by rw [nl_len]; exact hlt)
      have hc' := (hbl.cell (p := ⟨b, off + i, none⟩) hb).trans hc
      rw [nl_getD] at hc'
      have hs1 := take_succ_sum hlt
      have hs2 := cM_take hlt
      have hs3 := take_sum_le ps (i + 1)
      have hs4 := H12.out
      have hcl := cM_le (ps.take (i + 1)) 0 (by omega)
      rw [← hx.out.1, ← hx.out.2] at hs2
      rw [← hx.out.2] at hs1
      have hq12 : A + ps.getD i 0 ≤ 12 := by omega
      have hol : o ≤ 12 ^ A := by
        have := cM_le (ps.take i) 0 (by have := take_sum_le ps i; omega)
        rwa [← hx.out.1, ← hx.out.2] at this
      have HS1 := Lib.hid hs1; have HS2 := Lib.hid hs2; have HOL := Lib.hid hol
      clear hc hs1 hs2 hs3 hs4 hcl hx hol
      generalize ps.getD i 0 = q at *
      go_wp2_with fail
      go_loopw [3, 4, 7] (fun u v s wr2 => ∃ (k x : Nat), k ≤ q ∧ s = .int .i64 ((k : Int) + 1) ∧ u = .int .i64 x ∧ v = .int .i64 ((A : Int) + (k : Int)) ∧ wr2 = wr ∧ x ≤ 8916100448256 ∧ Hid (x = o * ch (A + k) k)) (fun _ _ s _ => q + 1 - (intOf s).toNat)
      case atStart => exact ⟨0, o, Nat.zero_le _, rfl, rfl, by go_num, rfl, ho, by show _ = _; rw [ch_zero, Nat.mul_one]⟩
      case round =>
        obtain ⟨k, x, hk, rfl, rfl, rfl, hw, hx1, hx2⟩ := hrel
        subst hw
        by_cases hlt2 : k < q
        · have hkz : (k : Int) + 1 ≤ (q : Int) := by omega
          have hdiv : ((x : Int) * ((A : Int) + (k : Int) + 1)).tdiv ((k : Int) + 1) = ((o * ch (A + (k + 1)) (k + 1) : Nat) : Int) := by
            have e1 : ((x : Int) * ((A : Int) + (k : Int) + 1)) = ((x * (A + k + 1) : Nat) : Int) := by simp
            have e2 : (k : Int) + 1 = ((k + 1 : Nat) : Int) := by simp
            rw [e1, e2, ← Int.ofNat_tdiv, hx2.out, step_div]
          have hxb : o * ch (A + (k + 1)) (k + 1) ≤ 8916100448256 := by
            have h1 := ch_le A (k + 1) (by omega)
            have h2 : o * ch (A + (k + 1)) (k + 1) ≤ 12 ^ A * 12 ^ (k + 1) := Nat.mul_le_mul HOL.out h1
            rw [← Nat.pow_add] at h2
            have h3 : (12 : Nat) ^ (A + (k + 1)) ≤ 12 ^ 12 := Nat.pow_le_pow_right (by omega) (by omega)
            exact Nat.le_trans h2 (Nat.le_trans h3 (by decide))
          have hmul : (x : Int) * ((A : Int) + (k : Int) + 1) ≤ 8916100448256 * 12 := by
            have : (x * (A + k + 1) : Nat) ≤ 8916100448256 * 12 := Nat.mul_le_mul hx1 (by omega)
            have e1 : ((x : Int) * ((A : Int) + (k : Int) + 1)) = ((x * (A + k + 1) : Nat) : Int) := by simp
            omega
          have hmul0 : 0 ≤ (x : Int) * ((A : Int) + (k : Int) + 1) := by
            have e1 : ((x : Int) * ((A : Int) + (k : Int) + 1)) = ((x * (A + k + 1) : Nat) : Int) := by simp
            omega
          generalize hy : o * ch (A + (k + 1)) (k + 1) = y at *
          have HY := Lib.hid hy
          clear hy hx2
          go_wp2_with fail
          go_roundw
          case rel => exact ⟨k + 1, y, by omega, by go_num, by first | rfl | go_num, by go_num, by trivial, hxb, HY.out.symm⟩
          case measure => simp [intOf]; omega
        · obtain rfl : k = q := by omega
          have hkz : ¬ (k : Int) + 1 ≤ (k : Int) := by omega
          go_wp2_with fail
          go_roundw
          case rel => exact ⟨i + 1, x, A + k, by omega, by go_num, rfl, by go_num, hq12, hx1, hbl, ⟨by rw [HS2.out]; exact hx2.out, HS1.out.symm⟩⟩
          case measure => simp [intOf]; omega
    · obtain rfl : i = ps.length := by omega
      have hlz : ¬ (ps.length : Int) < (ps.length : Int) := by omega
      have e := hx.out.1
      rw [List.take_length] at e
      have He := Lib.hid e
      clear e hx
      go_wp2_with fail
      go_ret
      refine ⟨?_, hbl⟩
      rw [← He.out]
      rfl

set_option maxHeartbeats 2000000 in
theorem max_any {w : World} {p : Option Addr} {cap : Nat} {l : List Int} (hS : SlI w p cap l) (h0 : 0 < l.length) :
    Calls Try.prog 19 #[.slice p l.length cap] w fun e w' => ∃ m : Int, e = .returned (.int .i64 m) ∧ (0 < m ↔ ∃ x ∈ l, 0 < x) ∧ Below w.heap.size w w' := by
  have l1 := Sl.le hS
  have l2 := Sl.big hS
  obtain ⟨b, off, rfl⟩ := hS.ptr h0 (by decide)
  have hb : b < w.heap.size := hS.row.lt (by simpa using h0)
  have hc0 := hS.row.at_ (ints_getD (k := .i64) h0)
  rw [Nat.add_zero] at hc0
  have hz1 : ¬ (l.length : Int) < 1 := by omega
  have HS := Lib.hid hS
  clear hS
  obtain ⟨x0, hx0⟩ : ∃ x0, x0 = l.getD 0 0 := ⟨_, rfl⟩
  rw [← hx0] at hc0
  have HX := Lib.hid hx0
  clear hx0
  go_enter Try.func19, Try.ntmps19
  go_wp2_with fail
  go_loopw [3, 4] (fun u s wr => ∃ (k : Nat) (m : Int), 1 ≤ k ∧ k ≤ l.length ∧ s = .int .i64 k ∧ u = .int .i64 m ∧ Below w.heap.size w wr ∧ Hid (0 < m ↔ ∃ j, j < k ∧ 0 < l.getD j 0)) (fun _ s _ => l.length - (intOf s).toNat)
  case atStart => exact ⟨1, x0, Nat.le_refl _, h0, rfl, rfl, Below.refl _ _, ⟨fun h => ⟨0, by omega, by rw [← HX.out]; exact h⟩, fun ⟨j, h1, h2⟩ => by rw [show j = 0 from by omega, ← HX.out] at h2; exact h2⟩⟩
  case round =>
    obtain ⟨k, m, hk1, hk, rfl, rfl, hbl, hx⟩ := hrel
    by_cases hlt : k < l.length
    · have hc := HS.out.row.at_ (ints_getD (k := .i64) hlt)
      have hc' := (hbl.cell (p := ⟨b, off + k, none⟩) hb).trans hc
      have hst : ∀ z, z = max m (l.getD k 0) → (0 < z ↔ ∃ j, j < k + 1 ∧ 0 < l.getD j 0) := fun z hz => by
        constructor
        · intro h
          by_cases hm : 0 < m
          · obtain ⟨j, j1, j2⟩ := hx.out.1 hm
            exact ⟨j, by omega, j2⟩
          · exact ⟨k, by omega, by omega⟩
        · rintro ⟨j, j1, j2⟩
          rcases Nat.lt_or_ge j k with h | h
          · have := hx.out.2 ⟨j, h, j2⟩; omega
          · rw [show j = k from by omega] at j2; omega
      have HST := Lib.hid hst
      clear hc hst hx
      generalize l.getD k 0 = y at *
      obtain ⟨z, hz⟩ : ∃ z, z = max m y := ⟨_, rfl⟩
      have HZ := Lib.hid hz
      clear hz
      go_wp2_with fail
      all_goals go_roundw
      all_goals first
        | (case measure => simp [intOf]; omega)
        | (case rel => exact ⟨k + 1, z, by omega, by omega, by go_num, by first | (congr 1; have := HZ.out; omega) | (have := HZ.out; simp; omega), hbl, HST.out z HZ.out⟩)
    · obtain rfl : k = l.length := by omega
      have hlz : ¬ (l.length : Int) < (l.length : Int) := by omega
      go_wp2_with fail
      go_ret
      refine ⟨m, rfl, ?_, hbl⟩
      rw [hx.out]
      constructor
      · rintro ⟨j, j1, j2⟩
        rw [List.getD_eq_getElem?_getD, List.getElem?_eq_getElem j1] at j2
        exact ⟨_, List.getElem_mem j1, j2⟩
      · rintro ⟨y, hy, h⟩
        obtain ⟨j, hj, rfl⟩ := List.getElem_of_mem hy
        exact ⟨j, hj, by rw [List.getD_eq_getElem?_getD, List.getElem?_eq_getElem hj]; exact h⟩

theorem nl_set (ps : List Nat) (i n : Nat) : (nl ps).set i (n : Int) = nl (ps.set i n) := by simp [nl, List.map_set]

set_option maxHeartbeats 2000000 in
theorem without_any {w : World} {p : Option Addr} {cap : Nat} {ps : List Nat} (hS : SlI w p cap (nl ps)) (h12 : ps.sum ≤ 12) {k : Nat} (hk : k < ps.length) (h8 : ps.length ≤ 100) :
    Calls Try.prog 20 #[.slice p ps.length cap, .int .i64 k] w fun e w' => e = .returned (.int .i64 (wo ps k : Nat)) ∧ Below w.heap.size w w' := by
  have l1 := Sl.le hS
  have l2 := Sl.big hS
  rw [nl_len] at l1
  obtain ⟨b, off, rfl⟩ := hS.ptr (by rw [nl_len]; omega) (by decide)
  have hb : b < w.heap.size := hS.row.lt (by simp; omega)
  have hc := hS.row.at_ (ints_getD (k := .i64) (l := nl ps) (i := k) (by rw [nl_len]; exact hk))
  rw [nl_getD] at hc
  by_cases h0 : ps.getD k 0 = 0
  · have e : wo ps k = 0 := by unfold wo; rw [if_pos h0]
    rw [e]
    rw [h0] at hc
    clear h0 e hS
    go_enter Try.func20, Try.ntmps20
    go_wp2
    go_ret
    exact ⟨rfl, Below.refl _ _⟩
  · have e : wo ps k = cM 0 (dec ps k) := by unfold wo; rw [if_neg h0]
    rw [e]
    have hds := dec_sum (ps := ps) (k := k) (by omega)
    have hq : ((ps.getD k 0 : Nat) : Int) - 1 = ((ps.getD k 0 - 1 : Nat) : Int) := by omega
    have hcl := clone_any hS (by rw [nl_len]; omega)
    rw [nl_len] at hcl
    have hd : dec ps k = ps.set k (ps.getD k 0 - 1) := rfl
    have hqb : ps.getD k 0 ≤ 12 := by
      have h1 := take_succ_sum hk
      have h2 := take_sum_le ps (k + 1)
      omega
    have HCL := Lib.hid hcl; have HD := Lib.hid hd; have HDS := Lib.hid hds; have H12 := Lib.hid h12
    have hne : (((ps.getD k 0 : Nat) : Int) == 0) = false := by rw [beq_eq_false_iff_ne]; omega
    clear hcl hd hds h0 e hS h12
    generalize hv : ps.getD k 0 = v at *
    have HV := Lib.hid hv
    clear hv
    obtain ⟨u, hu⟩ : ∃ u, v = u + 1 := ⟨v - 1, by have h9 : ¬ ((v : Int) = 0) := (by simpa using hne); omega⟩
    subst hu
    rw [Nat.add_sub_cancel] at hq HD
    go_enter Try.func20, Try.ntmps20
    go_wp2_with fail
    refine HCL.out.mono ?_
    rintro _ w1 ⟨p1, c1, rfl, hown, hb1⟩
    have hown' : w1.ownsRow w.heap.size 3 1 (.slice p1 ps.length c1) ps.length (ints .i64 (nl ps)) := by unfold OwnI at hown; rw [nl_len] at hown; exact hown
    obtain ⟨U, hp, hU⟩ : ∃ U, p1 = some ⟨U, 0, none⟩ ∧ w.heap.size ≤ U := by
      rcases hown'.2 with ⟨hv, e⟩ | ⟨g, cap', cur, hv, hbg, hg, -⟩
      · omega
      · simp only [Value.slice.injEq, true_and] at hv
        exact ⟨g, hv.1, hbg⟩
    subst hp
    have hcell := own_cell hown' hk
    rw [nl_getD, HV.out] at hcell
    have hfz := World.ownsRow.frozenAt hown' k
    have hset := own_set hown' k ((u : Nat) : Int)
    rw [nl_set, ← HD.out] at hset
    have hb2 := hb1.setCell (p := ⟨U, k, none⟩) hU (.int .i64 (u : Int))
    have hc2 := count_any (ps := dec ps k) (w := w1.setCell ⟨U, k, none⟩ (.int .i64 ((u : Nat) : Int))) (p := some ⟨U, 0, none⟩) (cap := c1) (by have := Sl.of_own hset; unfold SlI; rw [nl_len, dec_len]; exact this) (by have := HDS.out; have := H12.out; omega)
    rw [dec_len] at hc2
    have HC2 := Lib.hid hc2
    clear hc2 hset hown hown' hb1
    go_wp2_with fail
    refine HC2.out.mono ?_
    rintro _ w2 ⟨rfl, hb3⟩
    go_wp2_with fail
    go_ret
    exact ⟨rfl, hb2.trans (hb3.mono hb2.size)⟩

def cntR (l : List Int) : Int × Int := if rightM l = 0 then ((cM 0 (l.map Int.toNat) : Nat), 0) else (0, rightM l)
theorem nl_toNat (ps : List Nat) : (nl ps).map Int.toNat = ps := by
  unfold nl
  rw [List.map_map]
  exact (List.map_congr_left fun _ _ => Int.toNat_natCast _).trans (List.map_id _)
theorem countC_any {w : World} {p : Option Addr} {cap : Nat} {l : List Int} (hS : SlI w p cap l) :
    Calls Try.prog 9 #[.slice p l.length cap] w fun e w' => e = .returned (.tuple #[.int .i64 (cntR l).1, .int .i64 (cntR l).2]) ∧ Below w.heap.size w w' := by
  unfold cntR
  have hr := right_any hS
  by_cases h0 : rightM l = 0
  · rw [if_pos h0]
    rw [h0] at hr
    obtain ⟨ps, rfl, h8, h12⟩ := rightM_ok h0
    rw [nl_len] at hr ⊢
    have hc := fun W (hW : Below w.heap.size w W) => count_any (ps := ps) (hS.below hW) h12
    rw [nl_toNat]
    have HR := Lib.hid hr; have HC := Lib.hid hc
    clear hr hc hS h0
    go_enter Try.func9, Try.ntmps9
    go_wp2_with fail
    refine HR.out.mono ?_
    rintro _ w1 ⟨rfl, hb1⟩
    go_wp2_with fail
    refine (HC.out _ hb1).mono ?_
    rintro _ w2 ⟨rfl, hb2⟩
    go_wp2_with fail
    go_ret2
    exact ⟨rfl, hb1.trans (hb2.mono hb1.size)⟩
  · rw [if_neg h0]
    have hd : (rightM l != 0) = true := by simpa using h0
    have HR := Lib.hid hr
    clear hr hS h0
    generalize rightM l = r at *
    go_enter Try.func9, Try.ntmps9
    go_wp2_with fail
    refine HR.out.mono ?_
    rintro _ w1 ⟨rfl, hb1⟩
    go_wp2_with fail
    go_ret2
    exact ⟨rfl, hb1⟩
end Go.Proofs.Ytbnmpagjfihjjaa
