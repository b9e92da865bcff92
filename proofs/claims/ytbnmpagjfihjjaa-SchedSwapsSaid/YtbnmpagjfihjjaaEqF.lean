/-
  slices.EqualFunc of rows, by slices.Equal; Alike.
-/
import Derived.Test.YtbnmpagjfihjjaaSwapM
import Derived.Test.YtbnmpagjfihjjaaEq
namespace Go.Proofs.Ytbnmpagjfihjjaa
open Go.RowKit

set_option maxHeartbeats 4000000 in
set_option maxRecDepth 100000 in
theorem equalF_any {w : World} {s t : Sv (Sv Int)} (hR : RdR w s) (hS : RdR w t) :
    Calls Try.prog 24 #[s.val, t.val, .func (.func 25) #[] #[]] w fun e w' => e = .returned (.bool (decide (s.l.map (·.l) = t.l.map (·.l)))) ∧ Below w.heap.size w w' := by
  have hent : ∀ args w, (callFunc 25 args).run Try.prog w = .ok (.enter 25 args) w := enters_of Try.func25 rfl rfl
  have hm := hR.le
  have hm2 := hS.le
  obtain ⟨p, cap, l⟩ := s
  obtain ⟨q, cap2, m⟩ := t
  dsimp only [Sv.val] at hm hm2 ⊢
  by_cases hlen : l.length = m.length
  · have hlt0 : ((l.length : Int) != (m.length : Int)) = false := by simp [hlen]
    have HL := Lib.hid hlen; clear hlen
    have HR := Lib.hid hR; have HS := Lib.hid hS; clear hR hS
    go_enter Try.func24, Try.ntmps24
    go_wp2_with fail
    go_loopw [17] (fun s wr => ∃ k : Nat, k ≤ l.length ∧ s = .int .i64 k ∧ Below w.heap.size w wr ∧ Hid ((l.take k).map (·.l) = (m.take k).map (·.l))) (fun s _ => l.length - (intOf s).toNat)
    case atStart => exact ⟨0, Nat.zero_le _, rfl, Below.refl _ _, by simp [Hid]⟩
    case round =>
      obtain ⟨k, hk, rfl, hbl, hno⟩ := hrel
      by_cases hlt : k < l.length
      · have hltm : k < m.length := by have := HL.out; omega
        obtain ⟨b, off, hp, hb, hc, hrd⟩ := (RdR.st _ _ _ HR.out hbl).at_ hlt
        obtain ⟨b2, off2, hp2, hb2, hc2, hrd2⟩ := (RdR.st _ _ _ HS.out hbl).at_ hltm
        dsimp only at hp hp2
        subst hp hp2
        have hx : l[k]? = some (l.getD k default) := by simp [hlt]
        have hy : m[k]? = some (m.getD k default) := by simp [hltm]
        dsimp only at hc hc2 hrd hrd2
        generalize l.getD k default = x at *
        generalize m.getD k default = y at *
        have HX := Lib.hid hx; clear hx
        have HY := Lib.hid hy; clear hy
        obtain ⟨xp, xc, xl⟩ := x
        obtain ⟨yp, yc, yl⟩ := y
        dsimp only [Sv.val] at hc hc2 hrd hrd2
        have hcall := equalI_any hrd hrd2
        obtain ⟨bz, hbz⟩ : ∃ bz, bz = decide (xl = yl) := ⟨_, rfl⟩
        rw [← hbz] at hcall
        have HB := Lib.hid hbz
        have HC := Lib.hid hcall
        clear hbz hcall hrd hrd2
        cases bz with
        | false =>
          go_wp2_with fail
          refine HC.out.mono ?_
          rintro _ w1 ⟨rfl, hb1⟩
          go_wp2_with fail
          go_ret
          refine ⟨ret_bool ?_, hbl.trans (hb1.mono hbl.size)⟩
          have hne : ¬ xl = yl := by simpa using HB.out.symm
          rw [eq_comm, decide_eq_false_iff_not]
          intro e
          have e2 := congrArg (·[k]?) e
          simp only [List.getElem?_map, HX.out, HY.out, Option.map_some, Option.some.injEq] at e2
          exact hne e2
        | true =>
          go_wp2_with fail
          refine HC.out.mono ?_
          rintro _ w1 ⟨rfl, hb1⟩
          go_wp2_with fail
          go_roundw
          case rel =>
            refine ⟨k + 1, by omega, by go_num, hbl.trans (hb1.mono hbl.size), ?_⟩
            unfold Hid
            have he : xl = yl := by simpa using HB.out.symm
            rw [List.take_add_one, List.take_add_one, HX.out, HY.out, List.map_append, List.map_append, hno.out]
            simp [he]
          case measure => simp [intOf]; omega
      · obtain rfl : k = l.length := by omega
        go_wp2_with fail
        go_ret
        refine ⟨ret_bool ?_, hbl⟩
        have := hno.out
        rw [List.take_length, HL.out, List.take_length] at this
        simp [this]
  · have hlt0 : ((l.length : Int) != (m.length : Int)) = true := by simp; omega
    have HL := Lib.hid hlen; clear hlen
    go_enter Try.func24, Try.ntmps24
    go_wp2_with fail
    go_ret
    refine ⟨ret_bool ?_, Below.refl _ _⟩
    rw [eq_comm, decide_eq_false_iff_not]
    intro e
    have := congrArg List.length e
    simp only [List.length_map] at this
    exact HL.out this

set_option maxHeartbeats 4000000 in
set_option maxRecDepth 100000 in
theorem alike_any {w : World} {p q : Option Addr} {cap cap2 : Nat} {l m : List Int} {s : Sv (Sv Bool)} (hS : SlI w p cap l) (hM : SlI w q cap2 m) (hR : RdBB w s) :
    Calls Try.prog 12 #[.slice p l.length cap, .slice q m.length cap2, s.val] w fun e w' => e = .returned (.tuple #[.bool (aliM l m (s.l.map (·.l))).1, .int .i64 (aliM l m (s.l.map (·.l))).2]) ∧ Below w.heap.size w w' := by
  have C := normal_any hS hR
  have HM := Lib.hid hM
  have HR := Lib.hid hR
  have HC := Lib.hid C
  clear hS hM hR C
  obtain ⟨D, hD⟩ : ∃ D, D = s.l.map (·.l) := ⟨_, rfl⟩
  rw [← hD]
  rw [← hD] at HC
  obtain ⟨Z, hZ⟩ : ∃ Z, Z = aliM l m D := ⟨_, rfl⟩
  rw [← hZ]
  unfold aliM at hZ
  have HZ := Lib.hid hZ
  clear hZ
  have HD := Lib.hid hD
  clear hD
  generalize normM l D = na at *
  obtain ⟨A, e⟩ := na
  obtain ⟨sp, sc, sl⟩ := s
  dsimp only [Sv.val] at *
  go_enter Try.func12, Try.ntmps12
  go_wp2_with fail
  refine HC.out.mono ?_
  rintro _ w1 ⟨sA, rfl, hA, hAl, hb1⟩
  have HA := Lib.hid hA
  have HAl := Lib.hid hAl
  clear HC hA hAl
  obtain ⟨ap, ac, al⟩ := sA
  dsimp only [Sv.val] at *
  by_cases he : e = 0
  · subst he
    have hZ := HZ.out
    rw [if_pos rfl] at hZ
    replace HZ := Lib.hid hZ
    clear hZ
    go_wp2_with fail
    have C := normal_any (HM.out.below hb1) (RdBB.st _ _ _ HR.out hb1)
    dsimp only at C
    rw [← HD.out] at C
    generalize normM m D = nb at *
    obtain ⟨B, f⟩ := nb
    dsimp only [Sv.val] at C
    refine C.mono ?_
    clear C
    rintro _ w2 ⟨sB, rfl, hB, hBl, hb2⟩
    have hW2 := hb1.trans (hb2.mono hb1.size)
    have HA2 := Lib.hid (RdR.st _ _ _ HA.out hb2)
    have HB2 := Lib.hid hB
    have HBl := Lib.hid hBl
    clear HA hB hBl hb1 hb2
    obtain ⟨bp, bc, bl⟩ := sB
    dsimp only [Sv.val] at *
    by_cases hf : f = 0
    · subst hf
      have hZ := HZ.out
      rw [if_pos rfl] at hZ
      replace HZ := Lib.hid hZ
      clear hZ
      go_wp2_with fail
      have C := equalF_any HA2.out HB2.out
      dsimp only [Sv.val] at C
      rw [HAl.out, HBl.out] at C
      refine C.mono ?_
      clear C
      rintro _ w3 ⟨rfl, hb3⟩
      go_wp2_with fail
      go_ret2
      exact ⟨by rw [HZ.out]; rfl, hW2.trans (hb3.mono hW2.size)⟩
    · have hfz : ¬ f = (0 : Int) := hf
      have hZ := HZ.out
      rw [if_neg hf] at hZ
      replace HZ := Lib.hid hZ
      clear hf hZ
      go_wp2_with fail
      go_ret2
      exact ⟨by rw [HZ.out]; rfl, hW2⟩
  · have hez : ¬ e = (0 : Int) := he
    have hZ := HZ.out
    rw [if_neg he] at hZ
    replace HZ := Lib.hid hZ
    clear he hZ
    go_wp2_with fail
    go_ret2
    exact ⟨by rw [HZ.out]; rfl, hb1⟩
end Go.Proofs.Ytbnmpagjfihjjaa
