/-
  The walks of the package small, 1: what the library and the reference do with lists of numbers.
-/
import Derived.Test.YtkhjppkhbiojoaaProg
import Derived.Test.YtkhjppkhbiojoaaMem
import Derived.Deep.QuietTactic
import Derived.BigQuiet
namespace Go.Proofs.Ytkhjppkhbiojoaa
open Go.RowKit

/-- A slice of numbers. -/
abbrev SlI (w : World) (p : Option Addr) (cap : Nat) (l : List Int) : Prop := Sl w 1 p l.length cap (ints .i64 l)
abbrev OwnI (w : World) (base : Nat) (p : Option Addr) (cap : Nat) (l : List Int) : Prop := w.ownsRow base 3 1 (.slice p l.length cap) l.length (ints .i64 l)

theorem info3 : (Try.prog.info? 3).map (fun i => (i.zero, i.size, i.bytes)) = some (some (.int .i64 0), 1, 8) := by kernel_rfl

set_option maxHeartbeats 400000 in
theorem clone_any {w : World} {p : Option Addr} {cap : Nat} {l : List Int} (hR : SlI w p cap l) (hs : l.length * 8 ≤ 140737488355328) :
    Calls Try.prog 16 #[.slice p l.length cap] w fun e w' => ∃ p' cap', e = .returned (.slice p' l.length cap') ∧ OwnI w' w.heap.size p' cap' l ∧ Below w.heap.size w w' := by
  obtain ⟨i0, hi, hz0, hz1, hz2⟩ := info_parts info3
  cases p with
  | none =>
    have hc := hR.isNil rfl
    have hl : l = [] := List.eq_nil_of_length_eq_zero (by have := hR.le; omega)
    subst hl hc
    have hn := fun w => Go.run_eql_slice_nil (P := Try.prog) w 22 3 none 0 0 Try.underlying22
    go_enter Try.func16, Try.ntmps16
    go_wp2
    go_ret
    exact ⟨none, 0, rfl, World.ownsRow_nil _ _ _ _, Below.refl _ _⟩
  | some a =>
    have hl := hR.le
    have hb := hR.big
    have hn := fun w => Go.run_eql_slice_nil (P := Try.prog) w 22 3 (some a) l.length cap Try.underlying22
    go_enter Try.func16, Try.ntmps16
    go_wp2_with (at_builtin; refine wpList_append_sl _ rfl _ _ 22 rfl w.heap.size 3 i0 (.int .i64 0) 1 8 Try.underlying22 hi hz0 hz1 hz2 rfl (by decide) _ 0 [] rfl (World.ownsRow_lit (n := 0) w #[] (Nat.le_refl _) (Nat.zero_le _) rfl) _ l.length cap _ rfl (hR.below ((Below.refl _ _).alloc (Nat.le_refl _) _)) ints_one (by omega) (by omega) (by simp) ?_; intro p' c' w1 hown hbel)
    go_ret
    simp only [Nat.zero_add, List.nil_append] at hown ⊢
    exact ⟨_, _, rfl, hown, ((Below.refl _ _).alloc (Nat.le_refl _) _).trans hbel⟩

set_option maxHeartbeats 400000 in
theorem hasInt_any {w : World} {p : Option Addr} {cap : Nat} {l : List Int} (n : Int) (hR : SlI w p cap l) :
    Calls Try.prog 10 #[.slice p l.length cap, .int .i64 n] w fun e w' => e = .returned (.bool (decide (n ∈ l))) ∧ w = w' := by
  have hm : l.length ≤ 9223372036854775807 := Nat.le_trans hR.le hR.big
  go_enter Try.func10, Try.ntmps10
  go_wp2_with fail
  go_loop [5] (fun s => ∃ k : Nat, k ≤ l.length ∧ s = .int .i64 k ∧ Hid (n ∉ l.take k)) (fun s => l.length - (intOf s).toNat)
  case atStart => exact ⟨0, Nat.zero_le _, rfl, by simp [Hid]⟩
  case round =>
    obtain ⟨k, hk, rfl, hno⟩ := hrel
    by_cases hlt : k < l.length
    · obtain ⟨b, off, rfl, hb, hcell⟩ := hR.row.cons (by simp; omega)
      have hc : w.cell? ⟨b, off + k, none⟩ = some (.int .i64 (l.getD k 0)) := (hcell k (by simpa using hlt)).trans (ints_getD hlt)
      have hx : l[k]? = some (l.getD k 0) := by simp [hlt]
      clear hcell hR
      generalize l.getD k 0 = x at *
      have HX := Lib.hid hx; clear hx
      go_wp2_with fail
      · have ht : (x == n) = true := by assumption
        go_ret
        obtain rfl : x = n := by simpa using ht
        exact ⟨ret_bool (by simp [List.mem_of_getElem? HX.out]), rfl⟩
      · have ht : (x == n) = false := by assumption
        go_round
        case rel =>
          refine ⟨k + 1, by omega, by go_num, ?_⟩
          unfold Hid
          rw [List.take_add_one, HX.out]
          have := hno.out
          have hne : ¬ x = n := by simpa using ht
          simp [this, Ne.symm hne]
        case measure => simp [intOf]; omega
    · obtain rfl : k = l.length := by omega
      go_wp2_with fail
      go_ret
      refine ⟨ret_bool ?_, rfl⟩
      have := hno.out
      rw [List.take_length] at this
      simp [this]

set_option maxHeartbeats 400000 in
theorem sameInts_any {w : World} {p q : Option Addr} {cap cap2 : Nat} {l m : List Int} (hR : SlI w p cap l) (hS : SlI w q cap2 m) :
    Calls Try.prog 11 #[.slice p l.length cap, .slice q m.length cap2] w fun e w' => e = .returned (.bool (decide (l = m))) ∧ Below w.heap.size w w' := by
  have hm : l.length ≤ 9223372036854775807 := Nat.le_trans hR.le hR.big
  have hm2 : m.length ≤ 9223372036854775807 := Nat.le_trans hS.le hS.big
  by_cases hlen : l.length = m.length
  · have hlt0 : ((l.length : Int) != (m.length : Int)) = false := by simp [hlen]
    have HL := Lib.hid hlen; clear hlen
    go_enter Try.func11, Try.ntmps11
    go_wp2_with fail
    go_loopw [5] (fun s wr => ∃ k : Nat, k ≤ l.length ∧ s = .int .i64 k ∧ Below w.heap.size w wr ∧ Hid (l.take k = m.take k)) (fun s _ => l.length - (intOf s).toNat)
    case atStart => exact ⟨0, Nat.zero_le _, rfl, Below.refl _ _, by simp [Hid]⟩
    case round =>
      obtain ⟨k, hk, rfl, hbl, hno⟩ := hrel
      by_cases hlt : k < l.length
      · have hltm : k < m.length := by have := HL.out; omega
        obtain ⟨b, off, rfl, hb, hcell⟩ := hR.row.cons (by simp; omega)
        obtain ⟨b2, off2, rfl, hb2, hcell2⟩ := hS.row.cons (by simp; omega)
        have hc : wr.cell? ⟨b, off + k, none⟩ = some (.int .i64 (l.getD k 0)) := by rw [hbl.cell hb]; exact (hcell k (by simpa using hlt)).trans (ints_getD hlt)
        have hc2 : wr.cell? ⟨b2, off2 + k, none⟩ = some (.int .i64 (m.getD k 0)) := by rw [hbl.cell hb2]; exact (hcell2 k (by simpa using hltm)).trans (ints_getD hltm)
        have hx : l[k]? = some (l.getD k 0) := by simp [hlt]
        have hy : m[k]? = some (m.getD k 0) := by simp [hltm]
        clear hcell hR hcell2 hS
        generalize l.getD k 0 = x at *
        generalize m.getD k 0 = y at *
        have HX := Lib.hid hx; clear hx
        have HY := Lib.hid hy; clear hy
        go_wp2_with fail
        go_quiet (fail)
        go_wp2_with fail
        · have ht : (x != y) = true := by assumption
          go_ret
          refine ⟨ret_bool ?_, below_drewN hbl _⟩
          have hne : ¬ x = y := by simpa using ht
          rw [eq_comm, decide_eq_false_iff_not]
          rintro rfl
          exact hne (by have := HX.out.symm.trans HY.out; simpa using this)
        · have ht : (x != y) = false := by assumption
          go_roundw
          case rel =>
            refine ⟨k + 1, by omega, by go_num, below_drewN hbl _, ?_⟩
            unfold Hid
            have he : x = y := by simpa using ht
            rw [List.take_add_one, List.take_add_one, HX.out, HY.out, hno.out, he]
          case measure => simp [intOf]; omega
      · obtain rfl : k = l.length := by omega
        go_wp2_with fail
        go_ret
        refine ⟨ret_bool ?_, hbl⟩
        have := hno.out
        rw [List.take_length, HL.out, List.take_length] at this
        simp [this]
  · have hlt0 : ((l.length : Int) != (m.length : Int)) = true := by simp; omega
    have HL := Lib.hid hlen; clear hlen
    go_enter Try.func11, Try.ntmps11
    go_wp2_with fail
    go_ret
    refine ⟨ret_bool ?_, Below.refl _ _⟩
    rw [eq_comm, decide_eq_false_iff_not]
    rintro rfl
    exact HL.out rfl

end Go.Proofs.Ytkhjppkhbiojoaa
