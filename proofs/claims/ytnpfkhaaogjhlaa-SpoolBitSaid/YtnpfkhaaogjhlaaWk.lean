/-
  The walks of right, sum, number.
-/
import Derived.Test.YtnpfkhaaogjhlaaProg
import Derived.Test.YtnpfkhaaogjhlaaParts
import Derived.WalkKit
import Derived.WalkSpells
import Derived.WalkLawsBesides
import Derived.Deep.QuietTactic
import Derived.BigQuiet
import Derived.StillTailTactics
import Derived.RegionTactic
import Derived.BigRegion
namespace Go.Proofs.Ytnpfkhaaogjhlaa
open Go.RowKit

set_option maxHeartbeats 400000 in
theorem sum_any {w : World} {p : Option Addr} {cap : Nat} {l : List UInt8} (hR : SlB w p cap l) :
    Calls Try.prog 15 #[.slice p l.length cap] w fun e w' => e = .returned (.int .u32 (sumB l : Int)) ∧ w = w' := by
  have hm : l.length ≤ 9223372036854775807 := Nat.le_trans hR.le hR.big
  go_enter Try.func15, Try.ntmps15
  go_wp2_with fail
  go_loop [3, 8] (fun n s => ∃ (k : Nat), k ≤ l.length ∧ s = .int .i64 k ∧ n = .int .u32 (sumB (l.take k) : Int)) (fun _ s => l.length - (intOf s).toNat)
  case atStart => exact ⟨0, Nat.zero_le _, rfl, rfl⟩
  case round =>
    obtain ⟨k, hk, rfl, rfl⟩ := hrel
    by_cases hlt : k < l.length
    · obtain ⟨b, off, rfl, hb, hc⟩ := hR.at_ hlt
      have hs := sumB_snoc (l.take k) (l.getD k 0)
      rw [← take_snoc hlt] at hs
      have h32 := sumB_lt (l.take k)
      have h8 := u8_lt (l.getD k 0)
      have HS := Lib.hid hs; clear hs
      generalize l.getD k 0 = x at *
      generalize sumB (l.take k) = m at *
      have hx := bits_xor_u32 m x.toNat h32 (by omega)
      have HX := Lib.hid hx; clear hx
      have h80 : 0 ≤ (x.toNat : Int) := by omega
      have h8i : (x.toNat : Int) < 256 := by omega
      go_wp2_with fail
      go_round
      case rel =>
        refine ⟨k + 1, by omega, by go_num, ?_⟩
        rw [HS.out, HX.out]
        unfold sumS
        rfl
      case measure => simp [intOf]; omega
    · obtain rfl : k = l.length := by omega
      rw [List.take_length]
      go_wp2_with fail
      go_ret
      exact ⟨rfl, rfl⟩

set_option maxHeartbeats 400000 in
theorem number_any {w : World} {p : Option Addr} {cap : Nat} {l : List UInt8} (hR : SlB w p cap l) :
    Calls Try.prog 16 #[.slice p l.length cap] w fun e w' => e = .returned (.int .u64 (numB l : Int)) ∧ w = w' := by
  have hm : l.length ≤ 9223372036854775807 := Nat.le_trans hR.le hR.big
  go_enter Try.func16, Try.ntmps16
  go_wp2_with fail
  go_loop [2, 7] (fun n s => ∃ (k : Nat), k ≤ l.length ∧ s = .int .i64 k ∧ n = .int .u64 (numB (l.take k) : Int)) (fun _ s => l.length - (intOf s).toNat)
  case atStart => exact ⟨0, Nat.zero_le _, rfl, rfl⟩
  case round =>
    obtain ⟨k, hk, rfl, rfl⟩ := hrel
    by_cases hlt : k < l.length
    · obtain ⟨b, off, rfl, hb, hc⟩ := hR.at_ hlt
      have hs := numB_snoc (l.take k) (l.getD k 0)
      rw [← take_snoc hlt] at hs
      have h32 := numB_lt (l.take k)
      have h8 := u8_lt (l.getD k 0)
      have HS := Lib.hid hs; clear hs
      generalize l.getD k 0 = x at *
      generalize numB (l.take k) = m at *
      have h80 : 0 ≤ (x.toNat : Int) := by omega
      have h8i : (x.toNat : Int) < 256 := by omega
      have h320 : 0 ≤ (m : Int) := by omega
      have h32i : (m : Int) < 18446744073709551616 := by omega
      go_wp2_with fail
      go_round
      case rel =>
        refine ⟨k + 1, by omega, by go_num, ?_⟩
        rw [HS.out]
        unfold numS
        rw [IntKind.wrap_u64, bits_join .u64 64 (by decide) (fun n h0 h1 => by rw [IntKind.wrap_u64]; omega) 8 _ _ (by omega) (by omega) (by omega) (by omega) (by omega) (by omega)]
        go_num
      case measure => simp [intOf]; omega
    · obtain rfl : k = l.length := by omega
      rw [List.take_length]
      go_wp2_with fail
      go_ret
      exact ⟨rfl, rfl⟩

set_option maxHeartbeats 400000 in
theorem right_any (v : Vl) (w : World) :
    Calls Try.prog 12 #[v.val] w fun e w' => e = .returned (.int .i64 (rightM v)) ∧ Below w.heap.size w w' := by
  obtain ⟨k, n⟩ := v
  dsimp only [Vl.val]
  unfold rightM
  dsimp only
  go_enter Try.func12, Try.ntmps12
  go_wp2
  all_goals go_ret
  all_goals refine ⟨ret_int ?_, by repeat (first | exact Below.refl _ _ | refine Below.drew ?_ | refine Below.alloc ?_ (by simp) _)⟩
  all_goals simp_all
end Go.Proofs.Ytnpfkhaaogjhlaa
