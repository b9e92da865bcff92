/-
  slices.Index of numbers.
-/
import Derived.Test.YtiaaoajnecppnaaInts
import Derived.Lib.Hide
namespace Go.Proofs.Ytiaaoajnecppnaa
open Go.RowKit

/-- What slices.Index answers: the first place, or -1. -/
def IdxIs (n i : Nat) (w : World) (e : Ending) (w' : World) : Prop :=
  (i < n ∧ e = .returned (.int .i64 i) ∧ w = w') ∨ (i = n ∧ e = .returned (.int .i64 (-1)) ∧ w = w')
theorem findIdx_at {α : Type} {l : List α} {p : α → Bool} {k : Nat} {x : α} (hx : l[k]? = some x) (hp : p x = true) (hn : ∀ (j : Nat) (y : α), j < k → l[j]? = some y → p y = false) : l.findIdx p = k := by
  induction l generalizing k with
  | nil => simp at hx
  | cons a l ih =>
    cases k with
    | zero => simp at hx; subst hx; rw [List.findIdx_cons, hp]; rfl
    | succ k =>
      have h0 := hn 0 a (by omega) rfl
      rw [List.findIdx_cons, h0, ih (by simpa using hx) fun j y hj hy => hn (j + 1) y (by omega) (by simpa using hy)]
      rfl
theorem findIdx_no {α : Type} {l : List α} {p : α → Bool} (hn : ∀ (j : Nat) (y : α), l[j]? = some y → p y = false) : l.findIdx p = l.length := by
  rw [List.findIdx_eq_length]
  intro x hx
  obtain ⟨j, hj, rfl⟩ := List.getElem_of_mem hx
  exact hn j _ (List.getElem?_eq_getElem hj)

set_option maxHeartbeats 400000 in
theorem indexI_val {w : World} {p : Option Addr} {cap : Nat} {l : List Int} (hR : SlI w p cap l) (v : Int) :
    Calls Try.prog 46 #[.slice p l.length cap, .int .i64 v] w fun e w' => IdxIs l.length (l.findIdx (· == v)) w e w' := by
  have hm : l.length ≤ 9223372036854775807 := Nat.le_trans hR.le hR.big
  go_enter Try.func46, Try.ntmps46
  go_wp2_with fail
  go_loop [8] (fun s => ∃ k : Nat, k ≤ l.length ∧ s = .int .i64 k ∧ Hid (∀ j y, j < k → l[j]? = some y → (y == v) = false)) (fun s => l.length - (intOf s).toNat)
  case atStart => exact ⟨0, Nat.zero_le _, rfl, fun j y h => by omega⟩
  case round =>
    obtain ⟨k, hk, rfl, hno⟩ := hrel
    by_cases hlt : k < l.length
    · obtain ⟨b, off, rfl, hb, hc⟩ := Sl.int_at hR hlt
      have hx : l[k]? = some (l.getD k 0) := by simp [hlt]
      generalize l.getD k 0 = x at *
      have HX := Lib.hid hx; clear hx
      cases hv : (v == x) with
      | true =>
        obtain rfl : v = x := by simpa using hv
        have hf := findIdx_at (p := (· == v)) HX.out (by simp) hno.out
        have HF := Lib.hid hf; clear hf hv
        go_wp2_with fail
        go_ret
        exact .inl ⟨by rw [HF.out]; exact hlt, by rw [HF.out]; rfl, rfl⟩
      | false =>
        have hx2 : Hid (x ≠ v) := fun e => by simp [e] at hv
        go_wp2_with fail
        go_round
        case rel => exact ⟨k + 1, by omega, by go_num, fun j y hj hy => by
          rcases Nat.lt_or_ge j k with h3 | h3
          · exact hno.out j y h3 hy
          · obtain rfl : j = k := by omega
            rw [HX.out] at hy
            cases hy
            simpa using hx2.out⟩
        case measure => simp [intOf]; omega
    · obtain rfl : k = l.length := by omega
      have hf := findIdx_no (l := l) (p := (· == v)) (fun j y hy => hno.out j y (List.getElem?_eq_some_iff.1 hy).1 hy)
      have HF := Lib.hid hf; clear hf
      go_wp2_with fail
      go_ret
      exact .inr ⟨HF.out, rfl, rfl⟩
end Go.Proofs.Ytiaaoajnecppnaa
