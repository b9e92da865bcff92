/-
  Unpack: the list of runs.
-/
import Derived.Test.YtbnmpagjfihjjaaPack
import Derived.Test.YtbnmpagjfihjjaaRep
import Derived.Test.YtbnmpagjfihjjaaFast
namespace Go.Proofs.Ytbnmpagjfihjjaa
open Go.RowKit

def unpStep (l : List Dr) (k : Nat) (o : List Int) : Except Int (List Int) :=
  if thrB (l.getD k .z).t = false then .error 1 else if (l.getD k .z).m < 1 ∨ (0 < k ∧ (l.getD (k - 1) .z).t = (l.getD k .z).t) then .error 3 else if 200 - (o.length : Int) < (l.getD k .z).m then .error 2 else .ok (o ++ List.replicate (l.getD k .z).m.toNat (l.getD k .z).t)
def unpK (l : List Dr) : Nat → Except Int (List Int)
  | 0 => .ok []
  | k + 1 => match unpK l k with
    | .error e => .error e
    | .ok o => unpStep l k o
theorem unpK_succ {l : List Dr} {k : Nat} {o : List Int} (h : unpK l k = .ok o) : unpK l (k + 1) = unpStep l k o := by rw [unpK, h]
theorem unpK_err {l : List Dr} {k : Nat} {e : Int} (h : unpK l k = .error e) : ∀ n, unpK l (k + n) = .error e
  | 0 => h
  | n + 1 => by rw [show k + (n + 1) = (k + n) + 1 from rfl, unpK, unpK_err h n]
def unpM (l : List Dr) : List Int × Int := match unpK l l.length with
  | .ok o => (o, 0)
  | .error e => ([], e)
theorem unpM_err {l : List Dr} {k : Nat} {e : Int} (hk : k ≤ l.length) (h : unpK l k = .error e) : unpM l = ([], e) := by
  unfold unpM
  have := unpK_err h (l.length - k)
  rw [show k + (l.length - k) = l.length from by omega] at this
  rw [this]

set_option maxRecDepth 100000 in
set_option maxHeartbeats 8000000 in
theorem unpack_any {w : World} {p : Option Addr} {cap : Nat} {l : List Dr} (hS : Sl w 2 p l.length cap (drs l)) :
    Calls Try.prog 14 #[.slice p l.length cap] w fun e w' => ∃ q c, e = .returned (.tuple #[.slice q (unpM l).1.length c, .int .i64 (unpM l).2]) ∧ SlI w' q c (unpM l).1 ∧ Below w.heap.size w w' := by
  obtain ⟨i0, hi, hz0, hz1, hz2⟩ := info_parts infoI
  have l1 := hS.le
  have l2 := hS.big
  have HS := Lib.hid hS
  clear hS
  obtain ⟨R, hR⟩ : ∃ R, R = unpM l := ⟨_, rfl⟩
  rw [← hR]
  have HR := Lib.hid hR
  clear hR
  go_enter Try.func14, Try.ntmps14
  go_wp2_with fail
  go_loopw [4, 9] (fun v s wr => ∃ (k : Nat) (q : Option Addr) (c : Nat) (o : List Int), k ≤ l.length ∧ s = .int .i64 k ∧ v = .slice q o.length c ∧ OwnI wr w.heap.size q c o ∧ o.length ≤ 200 ∧ Below w.heap.size w wr ∧ Hid (unpK l k = .ok o)) (fun _ s _ => l.length - (intOf s).toNat)
  case atStart => exact ⟨0, none, 0, [], Nat.zero_le _, rfl, rfl, World.ownsRow_nil _ _ _ _, by simp, Below.refl _ _, rfl⟩
  case round =>
    obtain ⟨k, q, c, o, hk, rfl, rfl, hown, hol, hbl, ho⟩ := hrel
    by_cases hlt : k < l.length
    · obtain ⟨b, off, hp, hb, hD⟩ := HS.out.drs_ptr hlt
      subst hp
      have hD' := hD.below hbl hb
      have hstep := unpK_succ ho.out
      have hprev : 0 < k → ∃ y, y = (l.getD (k - 1) .z).t ∧ wr.cell? ⟨b, off + (k - 1) * 2, none⟩ = some (.int .i64 y) := fun h => ⟨_, rfl, ((HS.out.drs_at (i := k - 1) (by omega)).below hbl hb).h0⟩
      have herr : ∀ e, unpK l (k + 1) = .error e → R = ([], e) := fun e h => HR.out.trans (unpM_err (by omega) h)
      unfold unpStep at hstep
      have HP := Lib.hid hprev; have HE := Lib.hid herr; have HST := Lib.hid hstep
      have hz := hbl.size
      clear hD hprev herr hstep ho
      generalize hxx : l.getD k .z = x at *
      have HXX := Lib.hid hxx
      clear hxx
      obtain ⟨xt, xm⟩ := x
      obtain ⟨d0, d1⟩ := hD'
      dsimp only at d0 d1 HST
      have hth := fun w => thread_any xt w
      have HTH := Lib.hid hth
      have hal := (Below.refl wr.heap.size wr).alloc (Nat.le_refl _) (.cells #[.int .i64 xt, .int .i64 xm] 45)
      have hown1 := own_below hown hal
      have hbl1 := hbl.trans (hal.mono hz)
      have hB := Blk.mk_ wr #[.int .i64 xt, .int .i64 xm] 45 rfl
      have hHP : Hid (0 < k → ∃ y, y = (l.getD (k - 1) .z).t ∧ (wr.alloc (.cells #[.int .i64 xt, .int .i64 xm] 45)).cell? ⟨b, off + (k - 1) * 2, none⟩ = some (.int .i64 y)) := fun h => by
        obtain ⟨y, h1, h2⟩ := HP.out h
        exact ⟨y, h1, cell_more _ h2⟩
      clear hth hal hown hbl HP
      cases htb : thrB xt with
      | false =>
        have hs := HST.out
        rw [if_pos htb] at hs
        have HRR := Lib.hid (HE.out _ hs)
        rw [htb] at HTH
        clear hs HST htb HE hB hHP
        go_wp2_with fail
        refine (HTH.out _).mono ?_
        rintro _ w2 ⟨rfl, hw2⟩
        have hbl2 : Below w.heap.size w w2 := by rw [hw2]; exact hbl1
        go_wp2_with fail
        go_ret2
        rw [HRR.out]
        exact ⟨none, 0, rfl, Sl.zero _ _, by first | exact hbl2 | exact hbl1⟩
      | true =>
        have hs := HST.out
        rw [if_neg (by rw [htb]; simp)] at hs
        have HS2 := Lib.hid hs
        rw [htb] at HTH
        clear hs HST htb
        go_wp2_with fail
        refine (HTH.out _).mono ?_
        rintro _ w2 ⟨rfl, hw2⟩
        subst hw2
        generalize hbx : wr.heap.size = BX at *
        have hBX : BX < (wr.alloc (.cells #[.int .i64 xt, .int .i64 xm] 45)).heap.size := by simp [hbx]
        generalize wr.alloc (.cells #[.int .i64 xt, .int .i64 xm] 45) = w2 at *
        have e0 : w2.cell? ⟨BX, 0, none⟩ = some (.int .i64 xt) := hB.cell 0
        have e1 : w2.cell? ⟨BX, 1, none⟩ = some (.int .i64 xm) := hB.cell 1
        have fin3 : (xm < 1 ∨ (0 < k ∧ (l.getD (k - 1) .z).t = xt)) → R = ([], 3) := fun h => HE.out 3 (by
          have := HS2.out
          rw [if_pos h] at this
          exact this)
        have F3 := Lib.hid fin3
        clear fin3
        by_cases hm1 : xm < 1
        · have HRR := Lib.hid (F3.out (.inl hm1))
          clear HS2 HE F3
          go_wp2_with fail
          go_quiet (fail)
          go_wp2_with fail
          go_ret2
          rw [HRR.out]
          exact ⟨none, 0, rfl, Sl.zero _ _, below_drewN hbl1 _⟩
        · rcases Nat.eq_zero_or_pos k with hk0 | hk0
          · have hno : ¬ (xm < 1 ∨ (0 < k ∧ (l.getD (k - 1) .z).t = xt)) := fun h => by omega
            have hkz : ¬ (0 : Int) < (k : Int) := by omega
            have hkd : decide ((0 : Int) < (k : Int)) = false := decide_eq_false hkz
            have hkn : ¬ 0 < k := by omega
            have hkm : decide (0 < k) = false := decide_eq_false hkn
            have hmd : decide (xm < 1) = false := decide_eq_false hm1
            clear hHP hk0
            have hs := HS2.out
            rw [if_neg hno] at hs
            have HS3 := Lib.hid hs
            clear hs hno F3
            by_cases hbig : 200 - (o.length : Int) < xm
            · have hs := HS3.out
              rw [if_pos hbig] at hs
              have HRR := Lib.hid (HE.out _ hs)
              clear hs HS3 HE
              go_wp2_with fail
              go_quiet (fail)
              go_wp2_with fail
              go_ret2
              rw [HRR.out]
              exact ⟨none, 0, rfl, Sl.zero _ _, below_drewN hbl1 _⟩
            · have hs := HS3.out
              rw [if_neg hbig] at hs
              obtain ⟨n, rfl⟩ := Int.eq_ofNat_of_zero_le (show 0 ≤ xm by omega)
              rw [Int.toNat_natCast] at hs
              have HS4 := Lib.hid hs
              have hn1 : 1 ≤ n := by omega
              have hn2 : o.length + n ≤ 200 := by omega
              clear hs HS3 HE
              go_wp2_with fail
              go_quiet (fail)
              have e0a : (w2.drewN nq).cell? ⟨BX, 0, none⟩ = some (.int .i64 xt) := e0
              have e1a : (w2.drewN nq).cell? ⟨BX, 1, none⟩ = some (.int .i64 (n : Int)) := e1
              have hown3 := own_below hown1 (below_drewN (Below.refl w2.heap.size w2) nq)
              have hbl3 := below_drewN hbl1 nq
              have hBX3 : BX < (w2.drewN nq).heap.size := hBX
              clear e0 e1 hown1 hbl1 hB hBX
              generalize w2.drewN nq = w3 at *
              have e1b := fun o => cell_more o e1a
              have e0b := fun o => cell_more o e0a
              have hal := (Below.refl w3.heap.size w3).alloc (Nat.le_refl _) (.cells #[.int .i64 xt] 3)
              have hlit := lit_sl w3 [xt] (by simp) #[.int .i64 xt] rfl _ rfl 1 rfl
              have hrep := repeat_any (n := n) hlit hn1 (by omega)
              have HREP := Lib.hid hrep
              have hown4 := own_below hown3 hal
              have hbl4 := hbl3.trans (hal.mono hbl3.size)
              clear hrep hlit hown3 hal hbl3
              go_wp2_with fail
              refine HREP.out.mono ?_
              rintro _ w5 ⟨rfl, hR5, hb5⟩
              have hown5 := own_below hown4 hb5
              have hbl5 := hbl4.trans (hb5.mono hbl4.size)
              have hz5 := hbl5.size
              have hrs := Sl.of_own hR5
              generalize (w3.alloc (.cells #[.int .i64 xt] 3)).heap.size = RB at *
              clear HREP hown4 hbl4 hb5 hR5 e0a e1a e1b e0b hBX3
              go_wp2_with (at_builtin; refine wpList_append_sl _ rfl _ _ 22 rfl w.heap.size 3 i0 (.int .i64 0) 1 8 Try.underlying22 hi hz0 hz1 hz2 rfl (by decide) _ _ _ rfl hown5 _ n n (ints .i64 (List.replicate n xt)) rfl hrs ints_one (by omega) (by omega) hz5 ?_; intro p' c' w6 hown6 hbel6)
              rw [← ints_append] at hown6
              have hl2 : o.length + n = (o ++ List.replicate n xt).length := by simp
              have Hl2 := Lib.hid hl2; clear hl2
              go_roundw
              case rel => exact ⟨k + 1, p', c', o ++ List.replicate n xt, by omega, by go_num, by rw [Hl2.out], by unfold OwnI; rw [← Hl2.out]; exact hown6, by rw [← Hl2.out]; omega, hbl5.trans hbel6, HS4.out⟩
              case measure => simp [intOf]; omega
          · obtain ⟨y, hy, hyc⟩ := hHP.out hk0
            obtain ⟨j, hj⟩ : ∃ j, k = j + 1 := ⟨k - 1, by omega⟩
            have hkz : (0 : Int) < (k : Int) := by omega
            have hkd : decide ((0 : Int) < (k : Int)) = true := decide_eq_true hkz
            have hmd : decide (xm < 1) = false := decide_eq_false hm1
            have ej : (k : Int) - 1 = (j : Int) := by omega
            have jlt : j < l.length := by omega
            rw [show k - 1 = j from by omega] at hyc hy
            by_cases hyx : y = xt
            · have HRR := Lib.hid (F3.out (.inr ⟨hk0, by rw [show k - 1 = j from by omega, ← hy]; exact hyx⟩))
              subst hyx
              have HY := Lib.hid hy
              clear HS2 HE F3 hHP hj hy
              go_wp2_with fail
              go_quiet (fail)
              go_wp2_with fail
              go_ret2
              rw [HRR.out]
              exact ⟨none, 0, rfl, Sl.zero _ _, below_drewN hbl1 _⟩
            · have hno : ¬ (xm < 1 ∨ (0 < k ∧ (l.getD (k - 1) .z).t = xt)) := fun h => by
                rcases h with h | ⟨-, h⟩
                · exact hm1 h
                · rw [show k - 1 = j from by omega, ← hy] at h; exact hyx h
              have hne : (y == xt) = false := by simpa using hyx
              have HY := Lib.hid hy
              have HJ := Lib.hid hj
              clear hHP hy hj hyx
              have hs := HS2.out
              rw [if_neg hno] at hs
              have HS3 := Lib.hid hs
              clear hs hno F3
              by_cases hbig : 200 - (o.length : Int) < xm
              · have hs := HS3.out
                rw [if_pos hbig] at hs
                have HRR := Lib.hid (HE.out _ hs)
                clear hs HS3 HE
                go_wp2_with fail
                go_quiet (fail)
                go_wp2_with fail
                go_ret2
                rw [HRR.out]
                exact ⟨none, 0, rfl, Sl.zero _ _, below_drewN hbl1 _⟩
              · have hs := HS3.out
                rw [if_neg hbig] at hs
                obtain ⟨n, rfl⟩ := Int.eq_ofNat_of_zero_le (show 0 ≤ xm by omega)
                rw [Int.toNat_natCast] at hs
                have HS4 := Lib.hid hs
                have hn1 : 1 ≤ n := by omega
                have hn2 : o.length + n ≤ 200 := by omega
                clear hs HS3 HE
                go_wp2_with fail
                go_quiet (fail)
                have e0a : (w2.drewN nq).cell? ⟨BX, 0, none⟩ = some (.int .i64 xt) := e0
                have e1a : (w2.drewN nq).cell? ⟨BX, 1, none⟩ = some (.int .i64 (n : Int)) := e1
                have hown3 := own_below hown1 (below_drewN (Below.refl w2.heap.size w2) nq)
                have hbl3 := below_drewN hbl1 nq
                have hBX3 : BX < (w2.drewN nq).heap.size := hBX
                clear e0 e1 hown1 hbl1 hB hBX
                generalize w2.drewN nq = w3 at *
                have e1b := fun o => cell_more o e1a
                have e0b := fun o => cell_more o e0a
                have hal := (Below.refl w3.heap.size w3).alloc (Nat.le_refl _) (.cells #[.int .i64 xt] 3)
                have hlit := lit_sl w3 [xt] (by simp) #[.int .i64 xt] rfl _ rfl 1 rfl
                have hrep := repeat_any (n := n) hlit hn1 (by omega)
                have HREP := Lib.hid hrep
                have hown4 := own_below hown3 hal
                have hbl4 := hbl3.trans (hal.mono hbl3.size)
                clear hrep hlit hown3 hal hbl3
                go_wp2_with fail
                refine HREP.out.mono ?_
                rintro _ w5 ⟨rfl, hR5, hb5⟩
                have hown5 := own_below hown4 hb5
                have hbl5 := hbl4.trans (hb5.mono hbl4.size)
                have hz5 := hbl5.size
                have hrs := Sl.of_own hR5
                generalize (w3.alloc (.cells #[.int .i64 xt] 3)).heap.size = RB at *
                clear HREP hown4 hbl4 hb5 hR5 e0a e1a e1b e0b hBX3
                go_wp2_with (at_builtin; refine wpList_append_sl _ rfl _ _ 22 rfl w.heap.size 3 i0 (.int .i64 0) 1 8 Try.underlying22 hi hz0 hz1 hz2 rfl (by decide) _ _ _ rfl hown5 _ n n (ints .i64 (List.replicate n xt)) rfl hrs ints_one (by omega) (by omega) hz5 ?_; intro p' c' w6 hown6 hbel6)
                rw [← ints_append] at hown6
                have hl2 : o.length + n = (o ++ List.replicate n xt).length := by simp
                have Hl2 := Lib.hid hl2; clear hl2
                go_roundw
                case rel => exact ⟨k + 1, p', c', o ++ List.replicate n xt, by omega, by go_num, by rw [Hl2.out], by unfold OwnI; rw [← Hl2.out]; exact hown6, by rw [← Hl2.out]; omega, hbl5.trans hbel6, HS4.out⟩
                case measure => simp [intOf]; omega
    · obtain rfl : k = l.length := by omega
      have ho' : unpK l l.length = .ok o := ho.out
      have hRo : R = (o, 0) := by
        rw [HR.out]; unfold unpM; rw [ho']
      have HRO := Lib.hid hRo
      clear hRo
      go_wp2_with fail
      go_ret2
      rw [HRO.out]
      exact ⟨_, _, rfl, Sl.of_own hown, hbl⟩
end Go.Proofs.Ytbnmpagjfihjjaa
