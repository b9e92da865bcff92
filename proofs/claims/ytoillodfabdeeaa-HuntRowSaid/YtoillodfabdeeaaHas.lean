/-
  HasInt.
-/
import Derived.Test.YtoillodfabdeeaaInts
namespace Go.Proofs.Ytoillodfabdeeaa
open Go.RowKit

set_option maxHeartbeats 400000 in
theorem hasInt_any {w : World} {p : Option Addr} {cap : Nat} {l : List Int} (n : Int) (hR : SlI w p cap l) :
    Calls Try.prog 8 #[.slice p l.length cap, .int .i64 n] w fun e w' => e = .returned (.bool (decide (n ∈ l))) ∧ w = w' := by
  have hm : l.length ≤ 9223372036854775807 := Nat.le_trans hR.le hR.big
  go_enter Try.func8, Try.ntmps8
  go_wp2_with fail
  go_loop [5] (fun s => ∃ k : Nat, k ≤ l.length ∧ s = .int .i64 k ∧ Hid (n ∉ l.take k)) (fun s => l.length - (intOf s).toNat)
  case atStart => exact ⟨0, Nat.zero_le _, rfl, by simp [Hid]⟩
  case round =>
    obtain ⟨k, hk, rfl, hno⟩ := hrel
    by_cases hlt : k < l.length
    · obtain ⟨b, off, rfl, hb, hcell⟩ := hR.row.cons (by simp; omega)
      have hc : w.cell? ⟨b, off + k, none⟩ = some (.int .i64 (l.getD k 0)) := (hcell k (by simpa using hlt)).trans (ints_getD hlt)
      have hx : l[k]? = some (l.getD k 0) := by simp [hlt]
      clear hcell hR
      generalize l.getD k 0 = x at *
      have HX := Lib.hid hx; clear hx
      go_wp2_with fail
      · have ht : (x == n) = true := by assumption
        go_ret
        obtain rfl : x = n := by simpa using ht
        exact ⟨ret_bool (by simp [List.mem_of_getElem? HX.out]), rfl⟩
      · have ht : (x == n) = false := by assumption
        go_round
        case rel =>
          refine ⟨k + 1, by omega, by go_num, ?_⟩
          unfold Hid
          rw [List.take_add_one, HX.out]
          have := hno.out
          have hne : ¬ x = n := by simpa using ht
          simp [this, Ne.symm hne]
        case measure => simp [intOf]; omega
    · obtain rfl : k = l.length := by omega
      go_wp2_with fail
      go_ret
      refine ⟨ret_bool ?_, rfl⟩
      have := hno.out
      rw [List.take_length] at this
      simp [this]


theorem has_is {w : World} {p : Option Addr} {n cap : Nat} {l : List Int} {x : Int} (hR : Sl w 1 p n cap (ints .i64 l)) {b : Bool} (h : decide (x ∈ l) = b) :
    Calls Try.prog 8 #[.slice p n cap, .int .i64 x] w fun e w' => e = .returned (.bool b) ∧ Below w.heap.size w w' := by
  have hn := hR.len
  rw [ints_length, Nat.mul_one] at hn
  subst hn h
  exact (hasInt_any x hR).mono fun e w' ⟨he, hw⟩ => ⟨he, hw ▸ Below.refl _ _⟩
end Go.Proofs.Ytoillodfabdeeaa
