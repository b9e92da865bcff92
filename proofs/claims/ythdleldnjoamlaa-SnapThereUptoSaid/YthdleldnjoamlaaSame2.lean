/-
  Are two states one?
-/
import Derived.Test.YthdleldnjoamlaaKinds
import Derived.Test.YthdleldnjoamlaaSame
import Derived.Test.YthdleldnjoamlaaPlan
import Derived.Test.YthdleldnjoamlaaFast
namespace Go.Proofs.Ythdleldnjoamlaa
open Go.RowKit

set_option maxRecDepth 100000 in
set_option maxHeartbeats 1000000 in
theorem sameVals_any {W : World} {s t : Sv Vl} (hS : RdVl W s) (hT : RdVl W t) :
    Calls Try.prog 39 #[s.val, t.val] W fun r W' => r = .returned (.bool (decide (s.l = t.l))) ∧ Below W.heap.size W W' := by
  obtain ⟨sp, sc, sl⟩ := s
  obtain ⟨tp, tc, tl⟩ := t
  have hm : sl.length ≤ 9223372036854775807 := Nat.le_trans hS.row.le hS.row.big
  have hm2 : tl.length ≤ 9223372036854775807 := Nat.le_trans hT.row.le hT.row.big
  dsimp only [Sv.val] at *
  by_cases hlen : sl.length = tl.length
  · have hlt0 : ((sl.length : Int) != (tl.length : Int)) = false := by simp [hlen]
    have HL := Lib.hid hlen; clear hlen
    go_enter Try.func39, Try.ntmps39
    go_wp2_with fail
    go_loopw [5] (fun s5 wr => ∃ k : Nat, k ≤ sl.length ∧ s5 = .int .i64 k ∧ Below W.heap.size W wr ∧ Hid (sl.take k = tl.take k)) (fun s5 _ => sl.length - (intOf s5).toNat)
    case atStart => exact ⟨0, Nat.zero_le _, rfl, Below.refl _ _, by simp [Hid]⟩
    case round =>
      obtain ⟨k, hk, rfl, hbl, hno⟩ := hrel
      by_cases hlt : k < sl.length
      · have hltm : k < tl.length := by have := HL.out; omega
        obtain ⟨b, off, hp, hb, hc⟩ := (RdVl.st _ _ _ hS hbl).at_ (fun _ => rfl) (by omega) hlt default
        obtain ⟨b2, off2, hp2, hb2, hc2⟩ := (RdVl.st _ _ _ hT hbl).at_ (fun _ => rfl) (by omega) hltm default
        dsimp only at hp hp2
        have hx : sl[k]? = some (sl.getD k default) := by simp [hlt]
        have hy : tl[k]? = some (tl.getD k default) := by simp [hltm]
        generalize sl.getD k default = x at *
        generalize tl.getD k default = y at *
        obtain ⟨xk, xn⟩ := x
        obtain ⟨yk, yn⟩ := y
        have c0 : wr.cell? ⟨b, off + k * 2, none⟩ = some (.int .i64 xk) := hc 0 _ rfl
        have c1 : wr.cell? ⟨b, off + k * 2 + 1, none⟩ = some (.int .i64 xn) := hc 1 _ rfl
        have d0 : wr.cell? ⟨b2, off2 + k * 2, none⟩ = some (.int .i64 yk) := hc2 0 _ rfl
        have d1 : wr.cell? ⟨b2, off2 + k * 2 + 1, none⟩ = some (.int .i64 yn) := hc2 1 _ rfl
        subst hp hp2
        have HX := Lib.hid hx; have HY := Lib.hid hy; have HS := Lib.hid hS; have HT := Lib.hid hT; clear hx hy hc hc2 hS hT
        by_cases hxy : xk = yk ∧ xn = yn
        · obtain ⟨rfl, rfl⟩ := hxy
          go_wp2_with fail
          go_quiet (fail)
          go_wp2_with fail
          go_roundw
          case rel =>
            refine ⟨k + 1, by omega, by go_num, below_drewN hbl _, ?_⟩
            unfold Hid
            rw [List.take_add_one, List.take_add_one, HX.out, HY.out, hno.out]
          case measure => simp [intOf]; omega
        · have hne : (xk == yk && xn == yn) = false := by
            rw [Bool.and_eq_false_iff]
            by_cases h1 : xk = yk
            · exact .inr (by simpa using fun h2 => hxy ⟨h1, h2⟩)
            · exact .inl (by simpa using h1)
          have hfin : (sl = tl) = False := by
            rw [eq_iff_iff, iff_false]
            rintro rfl
            have := HX.out.symm.trans HY.out
            simp at this
            exact hxy this
          have Hf := Lib.hid hfin; have HN := Lib.hid hxy; clear hxy hfin
          cases h1 : (xk == yk) with
          | false =>
            go_wp2_with fail
            go_quiet (fail)
            go_wp2_with fail
            go_ret
            exact ⟨ret_bool (by simp [Hf.out]), below_drewN hbl _⟩
          | true =>
            have h2 : (xn == yn) = false := by simpa [h1] using hne
            go_wp2_with fail
            go_quiet (fail)
            go_wp2_with fail
            go_ret
            exact ⟨ret_bool (by simp [Hf.out]), below_drewN hbl _⟩
      · obtain rfl : k = sl.length := by omega
        go_wp2_with fail
        go_ret
        refine ⟨ret_bool ?_, hbl⟩
        have := hno.out
        rw [List.take_length, HL.out, List.take_length] at this
        simp [this]
  · have hlt0 : ((sl.length : Int) != (tl.length : Int)) = true := by simp; omega
    have HL := Lib.hid hlen; clear hlen
    go_enter Try.func39, Try.ntmps39
    go_wp2_with fail
    go_ret
    refine ⟨ret_bool ?_, Below.refl _ _⟩
    rw [eq_comm, decide_eq_false_iff_not]
    rintro rfl
    exact HL.out rfl
end Go.Proofs.Ythdleldnjoamlaa
