/-
  The walk of SpoolTorn.
-/
import Derived.Test.YtnpfkhaaogjhlaaBegun
namespace Go.Proofs.Ytnpfkhaaogjhlaa
open Go.RowKit Go.Sort

/-- What is left of a list that is cut at N. -/
theorem cut_vls {w : World} {p : Option Addr} {cap : Nat} {l : List Vl} (h : Sl w 2 p l.length cap (vls l)) (N : Nat) (M : Int) (hM : M = (N : Int)) : ∃ l' : List Vl, l'.length ≤ N ∧ (if M < (l.length : Int) then M else (l.length : Int)) = (l'.length : Int) ∧ Sl w 2 p l'.length cap (vls l') ∧ l'.length ≤ l.length ∧ ∀ v ∈ l', v ∈ l := by
  subst hM
  have e : (l.take (min l.length N)).length = min l.length N := by simp
  refine ⟨l.take (min l.length N), by omega, by rw [e]; split <;> omega, ?_, by omega, fun v hv => List.mem_of_mem_take hv⟩
  have := h.tk_vls (m := min l.length N) (by omega)
  rw [e]
  exact this
theorem all_is {w : World} {p : Option Addr} {cap : Nat} {l : List Vl} {r : List UInt8} {e : Int} (hR : Sl w 2 p l.length cap (vls l)) (hl : l.length ≤ 300) (h : allM l = (r, e)) :
    Calls Try.prog 7 #[.slice p l.length cap] w fun x w' => ∃ p' c', x = .returned (.tuple #[.slice p' r.length c', .int .i64 e]) ∧ SlB w' p' c' r ∧ Below w.heap.size w w' := by
  have := all_any hR hl
  rw [h] at this
  exact this.mono fun x w' ⟨p', c', h1, h2, h3⟩ => ⟨p', c', h1, Sl.of_own h2, h3⟩

set_option maxRecDepth 100000 in
set_option maxHeartbeats 2000000 in
theorem tornLaw_any (p : Option Addr) (cap : Nat) (l0 : List Vl) (at_ : Int) (w : World) (hR : Sl w 2 p l0.length cap (vls l0)) (hwf : ∀ v ∈ l0, v.Wf) :
    Calls Try.prog 4 #[.slice p l0.length cap, .int .i64 at_] w fun e w' => e = .returned (.bool true) ∧ Below w.heap.size w w' := by
  have b1 := Nat.le_trans hR.le hR.big
  obtain ⟨l, hl60, hm1, hL, hll, hsub⟩ := cut_vls hR 60 60 rfl
  replace hwf : ∀ v ∈ l, v.Wf := fun v hv => hwf v (hsub v hv)
  have c1 := hR.le
  have i1 : (l.length : Int) ≤ (cap : Int) := by omega
  have i3 : 0 ≤ (l.length : Int) := by omega
  clear hR hsub
  go_enter Try.func4, Try.ntmps4
  go_wp2_with fail
  refine (begun_any _).mono ?_
  rintro _ w1 ⟨rfl, hb⟩
  replace hL := hL.below hb
  have hB := hb
  clear hb
  by_cases he : errM l = 0
  · have ha : allM l = (recs l, 0) := by unfold allM; rw [if_pos he]
    have hg := good_of he hwf
    have hrl := recs_length l
    have Ha := Lib.hid ha; have Hrl := Lib.hid hrl; clear ha he hrl
    go_wp2_with fail
    refine (all_is hL (by omega) Ha.out).mono ?_
    rintro _ w2 ⟨p2, c2, rfl, hA, hb⟩
    replace hL := hL.below hb
    replace hB := hB.trans (hb.mono hB.size)
    clear hb hm1
    have ca := hA.le
    have cb := hA.big
    have h780 : (recs l).length ≤ 1000 := by have := Hrl.out; omega
    by_cases h0 : at_ < 0
    · go_wp2_with fail
      refine (begun_any _).mono ?_
      rintro _ w3 ⟨rfl, hb⟩
      go_wp2_with fail
      go_ret
      exact ⟨rfl, hB.trans (hb.mono hB.size)⟩
    · obtain ⟨n, rfl⟩ := Int.eq_ofNat_of_zero_le (by omega : 0 ≤ at_)
      by_cases hn : (recs l).length < n
      · have hn' : ((recs l).length : Int) < (n : Int) := by omega
        go_wp2_with fail
        refine (begun_any _).mono ?_
        rintro _ w3 ⟨rfl, hb⟩
        go_wp2_with fail
        go_ret
        exact ⟨rfl, hB.trans (hb.mono hB.size)⟩
      · have hn' : ¬ ((recs l).length : Int) < (n : Int) := by omega
        have hn2 : (n : Int) ≤ (c2 : Int) := by omega
        have hn3 : 0 ≤ (n : Int) := by omega
        have hT := hA.take (m := n) (by omega)
        rw [Nat.mul_one, ← bts_take] at hT
        have htl := torn_law hg (n := n) (by omega)
        have hq : (l.take (n / 13)).length = n / 13 := by have := Hrl.out; rw [List.length_take, Nat.min_eq_left (by omega)]
        have hQ : n / 13 ≤ l.length := by have := Hrl.out; omega
        have Ht := Lib.hid htl; clear htl
        go_wp2_with fail
        refine (read_is hT (by omega) Ht.out).mono ?_
        rintro _ w3 ⟨p3, c3, rfl, h3, hb⟩
        replace hL := hL.below hb
        replace hB := hB.trans (hb.mono hB.size)
        clear hb hT hA Ht
        rw [hq] at h3 ⊢
        have Hq := Lib.hid hq; clear hq
        obtain ⟨q, hqq⟩ : ∃ q, n / 13 = q := ⟨_, rfl⟩
        rw [hqq] at h3 hQ ⊢
        have k1 : (13 : Int) * (q : Int) ≤ (n : Int) := by omega
        have k2 : (n : Int) - 13 * (q : Int) < 13 := by omega
        have k3 : (13 : Int) * (q : Int) / 13 = (q : Int) := by omega
        have k4 : (q : Int) ≤ (cap : Int) := by omega
        have k5 : 0 ≤ (13 : Int) * (q : Int) := by omega
        have K3 := Lib.hid k3; clear k3 hqq
        go_wp2_with fail
        refine (begun_any _).mono ?_
        rintro _ w4 ⟨rfl, hb⟩
        replace hL := hL.below hb
        replace h3 := h3.below hb
        replace hB := hB.trans (hb.mono hB.size)
        clear hb
        have hL2 := hL.tk_vls hQ
        go_wp2_with fail
        refine (same_is h3 hL2 rfl).mono ?_
        rintro _ w5 ⟨rfl, hb⟩
        go_wp2_with fail
        go_ret
        exact ⟨rfl, hB.trans (hb.mono hB.size)⟩
  · have ha : allM l = ([], errM l) := by unfold allM; rw [if_neg he]
    have Ha := Lib.hid ha; clear ha
    have he' : (errM l != 0) = true := by simpa using he
    clear he
    go_wp2_with fail
    refine (all_is hL (by omega) Ha.out).mono ?_
    rintro _ w2 ⟨p2, c2, rfl, hA, hb⟩
    replace hB := hB.trans (hb.mono hB.size)
    clear hb hm1
    go_wp2_with fail
    refine (begun_any _).mono ?_
    rintro _ w3 ⟨rfl, hb⟩
    go_wp2_with fail
    go_ret
    exact ⟨rfl, hB.trans (hb.mono hB.size)⟩
end Go.Proofs.Ytnpfkhaaogjhlaa
