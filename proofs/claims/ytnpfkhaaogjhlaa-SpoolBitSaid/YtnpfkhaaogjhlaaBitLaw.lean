/-
  The walk of SpoolBit.
-/
import Derived.Test.YtnpfkhaaogjhlaaTornLaw
import Derived.RegionTactic
import Derived.BigRegion
namespace Go.Proofs.Ytnpfkhaaogjhlaa
open Go.RowKit Go.Sort

theorem pow8 {j : Nat} (h : j < 8) : (2 : Int) ^ j % 256 = ((2 ^ j : Nat) : Int) ∧ 2 ^ j < 256 ∧ 0 < 2 ^ j := by
  match j, h with
  | 0, _ => decide
  | 1, _ => decide
  | 2, _ => decide
  | 3, _ => decide
  | 4, _ => decide
  | 5, _ => decide
  | 6, _ => decide
  | 7, _ => decide
theorem flip_byte (x : UInt8) {j : Nat} (h : j < 8) : ∃ x' : UInt8, x' ≠ x ∧ bits .xor .u8 (x.toNat : Int) ((2 : Int) ^ j % 256) = (x'.toNat : Int) := by
  obtain ⟨h1, h2, h3⟩ := pow8 h
  have hx := u8_lt x
  have hlt : x.toNat ^^^ 2 ^ j < 256 := by
    have := Nat.xor_lt_two_pow (n := 8) (x := x.toNat) (y := 2 ^ j) (by omega) (by omega)
    omega
  have ht : (UInt8.ofNat (x.toNat ^^^ 2 ^ j)).toNat = x.toNat ^^^ 2 ^ j := by rw [ofNat_toNat]; omega
  refine ⟨UInt8.ofNat (x.toNat ^^^ 2 ^ j), fun e => ?_, by rw [h1, bits_xor_u8 _ _ hx h2, ht]⟩
  have e1 := congrArg UInt8.toNat e
  rw [ht] at e1
  have e2 : x.toNat ^^^ 2 ^ j = x.toNat ^^^ 0 := by simpa using e1
  rw [Nat.xor_comm, Nat.xor_comm _ 0] at e2
  have := xor_cancel e2
  omega

theorem own_some {w : World} {base : Nat} {e : TypeId} {size n cap : Nat} {p : Option Addr} {xs : List Value} (h : w.ownsRow base e size (.slice p n cap) n xs) (hn : 1 ≤ n) : ∃ g, p = some ⟨g, 0, none⟩ ∧ base ≤ g := by
  rcases h.2 with ⟨-, h'⟩ | ⟨g, cap', cur, h', hb, -⟩
  · omega
  · simp only [Value.slice.injEq, true_and] at h'
    exact ⟨g, h'.1, hb⟩

set_option maxRecDepth 100000 in
set_option maxHeartbeats 2000000 in
theorem bitLaw_any (p : Option Addr) (cap : Nat) (l0 : List Vl) (at_ : Int) (w : World) (hR : Sl w 2 p l0.length cap (vls l0)) (hwf : ∀ v ∈ l0, v.Wf) :
    Calls Try.prog 5 #[.slice p l0.length cap, .int .i64 at_] w fun e w' => e = .returned (.bool true) ∧ Below w.heap.size w w' := by
  obtain ⟨i0, hi, hz0, hz1, hz2⟩ := info_parts infoCB
  have b1 := Nat.le_trans hR.le hR.big
  obtain ⟨l, hl60, hm1, hL, hll, hsub⟩ := cut_vls hR 60 60 rfl
  replace hwf : ∀ v ∈ l, v.Wf := fun v hv => hwf v (hsub v hv)
  have c1 := hR.le
  have i1 : (l.length : Int) ≤ (cap : Int) := by omega
  have i3 : 0 ≤ (l.length : Int) := by omega
  clear hR hsub
  go_enter Try.func5, Try.ntmps5
  go_wp2_with fail
  refine (begun_any _).mono ?_
  rintro _ w1 ⟨rfl, hb⟩
  replace hL := hL.below hb
  have hB := hb
  clear hb
  by_cases he : errM l = 0
  · have ha : allM l = (recs l, 0) := by unfold allM; rw [if_pos he]
    have hg := good_of he hwf
    have hrl := recs_length l
    have Ha := Lib.hid ha; have Hrl := Lib.hid hrl; clear ha he hrl
    go_wp2_with fail
    refine (all_is hL (by omega) Ha.out).mono ?_
    rintro _ w2 ⟨p2, c2, rfl, hA, hb⟩
    replace hB := hB.trans (hb.mono hB.size)
    clear hb hm1 hL
    have ca := hA.le
    have cb := hA.big
    have h780 : (recs l).length ≤ 1000 := by have := Hrl.out; omega
    by_cases h0 : at_ < 0
    · go_wp2_with fail
      refine (begun_any _).mono ?_
      rintro _ w3 ⟨rfl, hb⟩
      go_wp2_with fail
      go_ret
      exact ⟨rfl, hB.trans (hb.mono hB.size)⟩
    · obtain ⟨n, rfl⟩ := Int.eq_ofNat_of_zero_le (by omega : 0 ≤ at_)
      by_cases hn : 8 * (recs l).length ≤ n
      · have hn' : 8 * ((recs l).length : Int) ≤ (n : Int) := by omega
        go_wp2_with fail
        refine (begun_any _).mono ?_
        rintro _ w3 ⟨rfl, hb⟩
        go_wp2_with fail
        go_ret
        exact ⟨rfl, hB.trans (hb.mono hB.size)⟩
      · have hn' : ¬ 8 * ((recs l).length : Int) ≤ (n : Int) := by omega
        have hbit := fun x hx => bit_law hg (n := n / 8) (by omega) (x := x) hx
        have Hbit := Lib.hid hbit; clear hbit
        have hn3 : 0 ≤ (n : Int) := by omega
        have hidx : n / 8 < (recs l).length := by omega
        have hr1 : 1 ≤ (recs l).length := by omega
        clear Ha
        generalize recs l = r at *
        have hown := lit_nil w2 5
        have hal := (Below.refl w2.heap.size w2).alloc (Nat.le_refl _) (.cells #[] 5)
        have hAl := hA.below hal
        go_wp2_with (at_builtin; refine wpList_append_sl _ rfl (.tmp 37) (.tmp 38) 24 rfl w2.heap.size 5 i0 (.int .u8 0) 1 1 Try.underlying24 hi hz0 hz1 hz2 rfl (by decide) _ 0 [] rfl hown _ _ _ _ rfl hAl bts_one (by omega) (by omega) hal.size ?_; intro p4 c4 w4 hown4 hb4; simp only [Nat.zero_add, List.nil_append] at hown4)
        obtain ⟨g, rfl, hg2⟩ := own_some hown4 hr1
        have hc0 : w4.cell? ⟨g, n / 8, none⟩ = some (.int .u8 ((r.getD (n / 8) 0).toNat : Int)) := (hown4.cellAt (n / 8) (by omega)).trans (bts_get hidx)
        have hf0 := hown4.frozenAt (n / 8)
        have hi' : (n : Int) / 8 < (r.length : Int) := by omega
        have k8 := u8_lt (r.getD (n / 8) 0)
        obtain ⟨x, hx⟩ : ∃ x, r.getD (n / 8) 0 = x := ⟨_, rfl⟩
        rw [hx] at hc0 k8
        have Hx := Lib.hid hx; clear hx
        have hm8 : (n : Int) % 8 < 8 := by omega
        have hm80 : 0 ≤ (n : Int) % 8 := by omega
        obtain ⟨x', hne, hbx⟩ := flip_byte x (j := n % 8) (by omega)
        have Hne := Lib.hid hne; have Hbx := Lib.hid hbx; clear hne hbx
        go_region
        rw [Hbx.out]
        have hst := (hown4.stored (n / 8) (.int .u8 (x'.toNat : Int))).1
        have hgr := (hown4.stored (n / 8) (.int .u8 (x'.toNat : Int))).2
        have hS5 : Sl (w4.setCell ⟨g, n / 8, none⟩ (.int .u8 (x'.toNat : Int))).drew 1 (some ⟨g, 0, none⟩) r.length c4 (bts (r.set (n / 8) x')) := by
          have h1 := Sl.of_own hst
          have h2 : (bts r).set (n / 8) (.int .u8 (x'.toNat : Int)) = bts (r.set (n / 8) x') := by simp [bts, List.map_set]
          rw [h2] at h1
          exact h1.below (Below.refl _ _).drew
        have hB5 : Below w.heap.size w (w4.setCell ⟨g, n / 8, none⟩ (.int .u8 (x'.toNat : Int))).drew :=
          (((hB.trans ((hal.trans hb4).mono hB.size))).setCell (p := ⟨g, n / 8, none⟩) (Nat.le_trans hB.size hg2) _).drew
        generalize (w4.setCell ⟨g, n / 8, none⟩ (.int .u8 (x'.toNat : Int))).drew = w5 at *
        have hrd := Hbit.out x' (by rw [Hx.out]; exact Hne.out)
        have Hrd := Lib.hid hrd
        clear hst hgr hown4 hown hal hAl hA hb4 hB hc0 hf0 hrd
        go_wp2_with fail
        refine (read_is hS5 (by omega) Hrd.out).mono ?_
        rintro _ w6 ⟨p6, c6, rfl, h6, hb⟩
        replace hB5 := hB5.trans (hb.mono hB5.size)
        clear hb hS5 h6
        simp only [List.length_nil]
        go_wp2_with fail
        refine (begun_any _).mono ?_
        rintro _ w7 ⟨rfl, hb⟩
        go_wp2_with fail
        go_ret
        exact ⟨rfl, hB5.trans (hb.mono hB5.size)⟩
  · have ha : allM l = ([], errM l) := by unfold allM; rw [if_neg he]
    have Ha := Lib.hid ha; clear ha
    have he' : (errM l != 0) = true := by simpa using he
    clear he
    go_wp2_with fail
    refine (all_is hL (by omega) Ha.out).mono ?_
    rintro _ w2 ⟨p2, c2, rfl, hA, hb⟩
    replace hB := hB.trans (hb.mono hB.size)
    clear hb hm1
    go_wp2_with fail
    refine (begun_any _).mono ?_
    rintro _ w3 ⟨rfl, hb⟩
    go_wp2_with fail
    go_ret
    exact ⟨rfl, hB.trans (hb.mono hB.size)⟩
end Go.Proofs.Ytnpfkhaaogjhlaa
