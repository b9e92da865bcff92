/-
  SameEvents; SameRows.
-/
import Derived.Test.YtpafnadfoedheaaEvEq
import Derived.Test.YtpafnadfoedheaaInts
import Derived.Test.YtpafnadfoedheaaSame
import Derived.Test.YtpafnadfoedheaaFast
import Derived.Deep.QuietTactic
import Derived.BigQuiet
import Derived.Lib.Hide
namespace Go.Proofs.Ytpafnadfoedheaa
open Go.RowKit

set_option maxHeartbeats 4000000 in
set_option maxRecDepth 100000 in
theorem sameEvents_any {w : World} {p q : Option Addr} {cap cap2 : Nat} {l m : List Ev} (hR : Sl w 12 p l.length cap (evs l)) (hS : Sl w 12 q m.length cap2 (evs m)) :
    Calls Try.prog 8 #[.slice p l.length cap, .slice q m.length cap2] w fun e w' => e = .returned (.bool (decide (l = m))) ∧ Below w.heap.size w w' := by
  have hm : l.length ≤ 9223372036854775807 := Nat.le_trans hR.le hR.big
  have hm2 : m.length ≤ 9223372036854775807 := Nat.le_trans hS.le hS.big
  by_cases hlen : l.length = m.length
  · have hlt0 : ((l.length : Int) != (m.length : Int)) = false := by simp [hlen]
    have HL := Lib.hid hlen; clear hlen
    have HR := Lib.hid hR; have HS := Lib.hid hS; clear hR hS
    go_enter Try.func8, Try.ntmps8
    go_wp2_with fail
    go_loopw [5] (fun s wr => ∃ k : Nat, k ≤ l.length ∧ s = .int .i64 k ∧ Below w.heap.size w wr ∧ Hid (l.take k = m.take k)) (fun s _ => l.length - (intOf s).toNat)
    case atStart => exact ⟨0, Nat.zero_le _, rfl, Below.refl _ _, by simp [Hid]⟩
    case round =>
      obtain ⟨k, hk, rfl, hbl, hno⟩ := hrel
      by_cases hlt : k < l.length
      · have hltm : k < m.length := by have := HL.out; omega
        obtain ⟨b, off, rfl⟩ := HR.out.ptr (by omega) (by decide)
        obtain ⟨b2, off2, rfl⟩ := HS.out.ptr (by omega) (by decide)
        have E1 := (HR.out.ev_at hlt).below hbl (HR.out.row.lt (by simp; omega))
        have E2 := (HS.out.ev_at hltm).below hbl (HS.out.row.lt (by simp; omega))
        have hx : l[k]? = some (l.getD k .z) := by simp [hlt]
        have hy : m[k]? = some (m.getD k .z) := by simp [hltm]
        generalize l.getD k .z = x at *
        generalize m.getD k .z = y at *
        have HX := Lib.hid hx; clear hx
        have HY := Lib.hid hy; clear hy
        have hq := fun W => run_eqIn_ev W x y
        obtain ⟨bz, hbz⟩ : ∃ bz, bz = decide (x = y) := ⟨_, rfl⟩
        rw [← hbz] at hq
        have HB := Lib.hid hbz; clear hbz
        obtain ⟨a0, a1, a2, a3, a4, a5, a6, a7, a8, a9, a10, a11⟩ := E1
        obtain ⟨c0, c1, c2, c3, c4, c5, c6, c7, c8, c9, c10, c11⟩ := E2
        dsimp only [Ev.val] at hq
        cases bz with
        | false =>
          go_wp2_with fail
          go_quiet (fail)
          go_wp2_with fail
          go_ret
          refine ⟨ret_bool ?_, below_drewN hbl _⟩
          have hne : ¬ x = y := by simpa using HB.out.symm
          rw [eq_comm, decide_eq_false_iff_not]
          rintro rfl
          exact hne (by have := HX.out.symm.trans HY.out; simpa using this)
        | true =>
          go_wp2_with fail
          go_quiet (fail)
          go_wp2_with fail
          go_roundw
          case rel =>
            refine ⟨k + 1, by omega, by go_num, below_drewN hbl _, ?_⟩
            unfold Hid
            have he : x = y := by simpa using HB.out.symm
            rw [List.take_add_one, List.take_add_one, HX.out, HY.out, hno.out, he]
          case measure => simp [intOf]; omega
      · obtain rfl : k = l.length := by omega
        go_wp2_with fail
        go_ret
        refine ⟨ret_bool ?_, hbl⟩
        have := hno.out
        rw [List.take_length, HL.out, List.take_length] at this
        simp [this]
  · have hlt0 : ((l.length : Int) != (m.length : Int)) = true := by simp; omega
    have HL := Lib.hid hlen; clear hlen
    go_enter Try.func8, Try.ntmps8
    go_wp2_with fail
    go_ret
    refine ⟨ret_bool ?_, Below.refl _ _⟩
    rw [eq_comm, decide_eq_false_iff_not]
    rintro rfl
    exact HL.out rfl
end Go.Proofs.Ytpafnadfoedheaa
