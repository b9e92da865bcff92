/-
  SameInts.
-/
import Derived.Test.YtfcimbhjoioinaaInts
namespace Go.Proofs.Ytfcimbhjoioinaa
open Go.RowKit

set_option maxHeartbeats 400000 in
theorem sameInts_any {w : World} {p q : Option Addr} {cap cap2 : Nat} {l m : List Int} (hR : SlI w p cap l) (hS : SlI w q cap2 m) :
    Calls Try.prog 11 #[.slice p l.length cap, .slice q m.length cap2] w fun e w' => e = .returned (.bool (decide (l = m))) ∧ Below w.heap.size w w' := by
  have hm : l.length ≤ 9223372036854775807 := Nat.le_trans hR.le hR.big
  have hm2 : m.length ≤ 9223372036854775807 := Nat.le_trans hS.le hS.big
  by_cases hlen : l.length = m.length
  · have hlt0 : ((l.length : Int) != (m.length : Int)) = false := by simp [hlen]
    have HL := Lib.hid hlen; clear hlen
    go_enter Try.func11, Try.ntmps11
    go_wp2_with fail
    go_loopw [5] (fun s wr => ∃ k : Nat, k ≤ l.length ∧ s = .int .i64 k ∧ Below w.heap.size w wr ∧ Hid (l.take k = m.take k)) (fun s _ => l.length - (intOf s).toNat)
    case atStart => exact ⟨0, Nat.zero_le _, rfl, Below.refl _ _, by simp [Hid]⟩
    case round =>
      obtain ⟨k, hk, rfl, hbl, hno⟩ := hrel
      by_cases hlt : k < l.length
      · have hltm : k < m.length := by have := HL.out; omega
        obtain ⟨b, off, rfl, hb, hcell⟩ := hR.row.cons (by simp; omega)
        obtain ⟨b2, off2, rfl, hb2, hcell2⟩ := hS.row.cons (by simp; omega)
        have hc : wr.cell? ⟨b, off + k, none⟩ = some (.int .i64 (l.getD k 0)) := by rw [hbl.cell hb]; exact (hcell k (by simpa using hlt)).trans (ints_getD hlt)
        have hc2 : wr.cell? ⟨b2, off2 + k, none⟩ = some (.int .i64 (m.getD k 0)) := by rw [hbl.cell hb2]; exact (hcell2 k (by simpa using hltm)).trans (ints_getD hltm)
        have hx : l[k]? = some (l.getD k 0) := by simp [hlt]
        have hy : m[k]? = some (m.getD k 0) := by simp [hltm]
        clear hcell hR hcell2 hS
        generalize l.getD k 0 = x at *
        generalize m.getD k 0 = y at *
        have HX := Lib.hid hx; clear hx
        have HY := Lib.hid hy; clear hy
        go_wp2_with fail
        go_quiet (fail)
        go_wp2_with fail
        · have ht : (x != y) = true := by assumption
          go_ret
          refine ⟨ret_bool ?_, below_drewN hbl _⟩
          have hne : ¬ x = y := by simpa using ht
          rw [eq_comm, decide_eq_false_iff_not]
          rintro rfl
          exact hne (by have := HX.out.symm.trans HY.out; simpa using this)
        · have ht : (x != y) = false := by assumption
          go_roundw
          case rel =>
            refine ⟨k + 1, by omega, by go_num, below_drewN hbl _, ?_⟩
            unfold Hid
            have he : x = y := by simpa using ht
            rw [List.take_add_one, List.take_add_one, HX.out, HY.out, hno.out, he]
          case measure => simp [intOf]; omega
      · obtain rfl : k = l.length := by omega
        go_wp2_with fail
        go_ret
        refine ⟨ret_bool ?_, hbl⟩
        have := hno.out
        rw [List.take_length, HL.out, List.take_length] at this
        simp [this]
  · have hlt0 : ((l.length : Int) != (m.length : Int)) = true := by simp; omega
    have HL := Lib.hid hlen; clear hlen
    go_enter Try.func11, Try.ntmps11
    go_wp2_with fail
    go_ret
    refine ⟨ret_bool ?_, Below.refl _ _⟩
    rw [eq_comm, decide_eq_false_iff_not]
    rintro rfl
    exact HL.out rfl


theorem sameI_is {w : World} {p q : Option Addr} {n n' cap cap2 : Nat} {l m : List Int} (hR : Sl w 1 p n cap (ints .i64 l)) (hS : Sl w 1 q n' cap2 (ints .i64 m)) {b : Bool} (h : decide (l = m) = b) :
    Calls Try.prog 11 #[.slice p n cap, .slice q n' cap2] w fun e w' => e = .returned (.bool b) ∧ Below w.heap.size w w' := by
  have hn := hR.len
  rw [ints_length, Nat.mul_one] at hn
  have hn' := hS.len
  rw [ints_length, Nat.mul_one] at hn'
  subst hn hn' h
  exact sameInts_any hR hS
end Go.Proofs.Ytfcimbhjoioinaa
