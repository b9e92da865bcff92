/-
  The walk of SameVals.
-/
import Derived.Test.YtnpfkhaaogjhlaaWk
namespace Go.Proofs.Ytnpfkhaaogjhlaa
open Go.RowKit

set_option maxHeartbeats 1000000 in
theorem same_any {w : World} {p q : Option Addr} {cap cap2 : Nat} {l m : List Vl} (hR : Sl w 2 p l.length cap (vls l)) (hS : Sl w 2 q m.length cap2 (vls m)) :
    Calls Try.prog 9 #[.slice p l.length cap, .slice q m.length cap2] w fun e w' => e = .returned (.bool (decide (l = m))) ∧ Below w.heap.size w w' := by
  have hm : l.length ≤ 9223372036854775807 := Nat.le_trans hR.le hR.big
  have hm2 : m.length ≤ 9223372036854775807 := Nat.le_trans hS.le hS.big
  by_cases hlen : l.length = m.length
  · have hlt0 : ((l.length : Int) != (m.length : Int)) = false := by simp [hlen]
    have HL := Lib.hid hlen; clear hlen
    go_enter Try.func9, Try.ntmps9
    go_wp2_with fail
    go_loopw [5] (fun s wr => ∃ k : Nat, k ≤ l.length ∧ s = .int .i64 k ∧ Below w.heap.size w wr ∧ Hid (l.take k = m.take k)) (fun s _ => l.length - (intOf s).toNat)
    case atStart => exact ⟨0, Nat.zero_le _, rfl, Below.refl _ _, by simp [Hid]⟩
    case round =>
      obtain ⟨k, hk, rfl, hbl, hno⟩ := hrel
      by_cases hlt : k < l.length
      · have hltm : k < m.length := by have := HL.out; omega
        obtain ⟨b, off, rfl, hb, hE⟩ := hR.vls_ptr hlt
        obtain ⟨b2, off2, rfl, hb2, hE2⟩ := hS.vls_ptr hltm
        have hE' := hE.below hbl hb
        have hE2' := hE2.below hbl hb2
        have hx : l[k]? = some (l.getD k .z) := by simp [hlt]
        have hy : m[k]? = some (m.getD k .z) := by simp [hltm]
        clear hR hS hE hE2
        generalize l.getD k .z = x at *
        generalize m.getD k .z = y at *
        have HX := Lib.hid hx; clear hx
        have HY := Lib.hid hy; clear hy
        obtain ⟨xk, xn⟩ := x
        obtain ⟨yk, yn⟩ := y
        obtain ⟨e0, e1⟩ := hE'
        obtain ⟨g0, g1⟩ := hE2'
        dsimp only at *
        by_cases hxy : xk = yk ∧ xn = yn
        · obtain ⟨rfl, rfl⟩ := hxy
          go_wp2_with fail
          go_quiet (fail)
          go_wp2_with fail
          go_roundw
          case rel =>
            refine ⟨k + 1, by omega, by go_num, below_drewN hbl _, ?_⟩
            unfold Hid
            rw [List.take_add_one, List.take_add_one, HX.out, HY.out, hno.out]
          case measure => simp [intOf]; omega
        · have hne : (xk == yk && xn == yn) = false := by
            rw [Bool.and_eq_false_iff]
            by_cases h1 : xk = yk
            · exact .inr (by simpa using fun h2 => hxy ⟨h1, h2⟩)
            · exact .inl (by simpa using h1)
          have hfin : (l = m) = False := by
            rw [eq_iff_iff, iff_false]
            rintro rfl
            have := HX.out.symm.trans HY.out
            simp at this
            exact hxy this
          have Hf := Lib.hid hfin; have HN := Lib.hid hxy; clear hxy hfin
          cases h1 : (xk == yk) with
          | false =>
            go_wp2_with fail
            go_quiet (fail)
            go_wp2_with fail
            go_ret
            exact ⟨ret_bool (by simp [Hf.out]), below_drewN hbl _⟩
          | true =>
            have h2 : (xn == yn) = false := by simpa [h1] using hne
            go_wp2_with fail
            go_quiet (fail)
            go_wp2_with fail
            go_ret
            exact ⟨ret_bool (by simp [Hf.out]), below_drewN hbl _⟩
      · obtain rfl : k = l.length := by omega
        go_wp2_with fail
        go_ret
        refine ⟨ret_bool ?_, hbl⟩
        have := hno.out
        rw [List.take_length, HL.out, List.take_length] at this
        simp [this]
  · have hlt0 : ((l.length : Int) != (m.length : Int)) = true := by simp; omega
    have HL := Lib.hid hlen; clear hlen
    go_enter Try.func9, Try.ntmps9
    go_wp2_with fail
    go_ret
    refine ⟨ret_bool ?_, Below.refl _ _⟩
    rw [eq_comm, decide_eq_false_iff_not]
    rintro rfl
    exact HL.out rfl
end Go.Proofs.Ytnpfkhaaogjhlaa
