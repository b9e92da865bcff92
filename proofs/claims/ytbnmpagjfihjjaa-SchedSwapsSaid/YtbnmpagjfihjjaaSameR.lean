/-
  SameRows.
-/
import Derived.Test.YtbnmpagjfihjjaaRd
import Derived.Test.YtbnmpagjfihjjaaSame
import Derived.Test.YtbnmpagjfihjjaaFast
import Derived.StillTailTactics
namespace Go.Proofs.Ytbnmpagjfihjjaa
open Go.RowKit

set_option maxHeartbeats 4000000 in
set_option maxRecDepth 100000 in
theorem sameRows_any {w : World} {s t : Sv (Sv Int)} (hR : RdR w s) (hS : RdR w t) :
    Calls Try.prog 15 #[s.val, t.val] w fun e w' => e = .returned (.bool (decide (s.l.map (·.l) = t.l.map (·.l)))) ∧ Below w.heap.size w w' := by
  have hm := hR.le
  have hm2 := hS.le
  obtain ⟨p, cap, l⟩ := s
  obtain ⟨q, cap2, m⟩ := t
  dsimp only [Sv.val] at hm hm2 ⊢
  by_cases hlen : l.length = m.length
  · have hlt0 : ((l.length : Int) != (m.length : Int)) = false := by simp [hlen]
    have HL := Lib.hid hlen; clear hlen
    have HR := Lib.hid hR; have HS := Lib.hid hS; clear hR hS
    go_enter Try.func15, Try.ntmps15
    go_wp2_with fail
    go_loopw [5] (fun s wr => ∃ k : Nat, k ≤ l.length ∧ s = .int .i64 k ∧ Below w.heap.size w wr ∧ Hid ((l.take k).map (·.l) = (m.take k).map (·.l))) (fun s _ => l.length - (intOf s).toNat)
    case atStart => exact ⟨0, Nat.zero_le _, rfl, Below.refl _ _, by simp [Hid]⟩
    case round =>
      obtain ⟨k, hk, rfl, hbl, hno⟩ := hrel
      by_cases hlt : k < l.length
      · have hltm : k < m.length := by have := HL.out; omega
        obtain ⟨b, off, hp, hb, hc, hrd⟩ := (RdR.st _ _ _ HR.out hbl).at_ hlt
        obtain ⟨b2, off2, hp2, hb2, hc2, hrd2⟩ := (RdR.st _ _ _ HS.out hbl).at_ hltm
        dsimp only at hp hp2
        subst hp hp2
        have hx : l[k]? = some (l.getD k default) := by simp [hlt]
        have hy : m[k]? = some (m.getD k default) := by simp [hltm]
        dsimp only at hc hc2 hrd hrd2
        generalize l.getD k default = x at *
        generalize m.getD k default = y at *
        have HX := Lib.hid hx; clear hx
        have HY := Lib.hid hy; clear hy
        obtain ⟨xp, xc, xl⟩ := x
        obtain ⟨yp, yc, yl⟩ := y
        dsimp only [Sv.val] at hc hc2 hrd hrd2
        have hcall := sameInts_any (hrd.below (Below.refl wr.heap.size wr).drew) (hrd2.below (Below.refl wr.heap.size wr).drew)
        obtain ⟨bz, hbz⟩ : ∃ bz, bz = decide (xl = yl) := ⟨_, rfl⟩
        rw [← hbz] at hcall
        have HB := Lib.hid hbz
        have HC := Lib.hid hcall
        clear hbz hcall hrd hrd2
        cases bz with
        | false =>
          go_wp2_with fail
          go_still_tail 8, (by kernel_rfl)
          change wpList _ _ _ _ _ wr.drew
          replace hbl : Below w.heap.size w wr.drew := hbl.drew
          generalize wr.drew = wd at *
          go_wp2_with fail
          refine HC.out.mono ?_
          rintro _ w1 ⟨rfl, hb1⟩
          go_wp2
          go_ret
          refine ⟨ret_bool ?_, hbl.trans (hb1.mono hbl.size)⟩
          have hne : ¬ xl = yl := by simpa using HB.out.symm
          rw [eq_comm, decide_eq_false_iff_not]
          intro e
          have e2 := congrArg (·[k]?) e
          simp only [List.getElem?_map, HX.out, HY.out, Option.map_some, Option.some.injEq] at e2
          exact hne e2
        | true =>
          go_wp2_with fail
          go_still_tail 8, (by kernel_rfl)
          change wpList _ _ _ _ _ wr.drew
          replace hbl : Below w.heap.size w wr.drew := hbl.drew
          generalize wr.drew = wd at *
          go_wp2_with fail
          refine HC.out.mono ?_
          rintro _ w1 ⟨rfl, hb1⟩
          go_wp2
          go_roundw
          case rel =>
            refine ⟨k + 1, by omega, by go_num, hbl.trans (hb1.mono hbl.size), ?_⟩
            unfold Hid
            have he : xl = yl := by simpa using HB.out.symm
            rw [List.take_add_one, List.take_add_one, HX.out, HY.out, List.map_append, List.map_append, hno.out]
            simp [he]
          case measure => simp [intOf]; omega
      · obtain rfl : k = l.length := by omega
        go_wp2_with fail
        go_ret
        refine ⟨ret_bool ?_, hbl⟩
        have := hno.out
        rw [List.take_length, HL.out, List.take_length] at this
        simp [this]
  · have hlt0 : ((l.length : Int) != (m.length : Int)) = true := by simp; omega
    have HL := Lib.hid hlen; clear hlen
    go_enter Try.func15, Try.ntmps15
    go_wp2_with fail
    go_ret
    refine ⟨ret_bool ?_, Below.refl _ _⟩
    rw [eq_comm, decide_eq_false_iff_not]
    intro e
    have := congrArg List.length e
    simp only [List.length_map] at this
    exact HL.out this
end Go.Proofs.Ytbnmpagjfihjjaa
