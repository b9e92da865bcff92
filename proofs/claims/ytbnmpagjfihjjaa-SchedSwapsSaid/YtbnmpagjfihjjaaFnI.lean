/-
  Predicates handed to the library; slices.ContainsFunc of numbers.
-/
import Derived.Test.YtbnmpagjfihjjaaInts
import Derived.Test.YtbnmpagjfihjjaaBlk
import Derived.Calls
namespace Go.Proofs.Ytbnmpagjfihjjaa
open Go.RowKit

/-- A function value that answers p of every x of D, in every world that keeps what lay in W. -/
structure PredV {α : Type} (W : World) (f : FuncId) (capt : Array Value) (enc : α → Value) (D : World → α → Prop) (p : α → Bool) : Prop where
  ent : ∀ (args : Array Value) (w : World), (callFunc f args).run Try.prog w = .ok (.enter f args) w
  call : ∀ w', Below W.heap.size W w' → ∀ x, D w' x → Calls Try.prog f (#[enc x] ++ capt) w' fun e w'' => e = .returned (.bool (p x)) ∧ Below w'.heap.size w' w''

theorem PredV.next {α : Type} {W W' : World} {f : FuncId} {capt : Array Value} {enc : α → Value} {D : World → α → Prop} {p : α → Bool} (h : PredV W f capt enc D p) (hb : Below W.heap.size W W') : PredV W' f capt enc D p :=
  ⟨h.ent, fun w' hw' => h.call w' (hb.trans (hw'.mono hb.size))⟩
theorem any_of_all {α : Type} {l : List α} {p : α → Bool} {z : α} (h : ∀ j, j < l.length → p (l.getD j z) = false) : l.any p = false := by
  rw [List.any_eq_false]
  intro x hx
  obtain ⟨i, hi, rfl⟩ := List.getElem_of_mem hx
  have := h i hi
  rw [List.getD_eq_getElem?_getD, List.getElem?_eq_getElem hi] at this
  simpa using this
theorem any_of_one {α : Type} {l : List α} {p : α → Bool} {z : α} {k : Nat} (hk : k < l.length) (h : p (l.getD k z) = true) : l.any p = true := by
  rw [List.any_eq_true]
  refine ⟨l[k], List.getElem_mem hk, ?_⟩
  rwa [List.getD_eq_getElem?_getD, List.getElem?_eq_getElem hk] at h

set_option maxHeartbeats 1000000 in
theorem indexI_any {w : World} {f : FuncId} {capt : Array Value} {D : World → Int → Prop} {p : Int → Bool} (hH : PredV w f capt (Value.int .i64) D p) {q : Option Addr} {cap : Nat} {l : List Int} (hR : SlI w q cap l) (hD : ∀ w', Below w.heap.size w w' → ∀ x ∈ l, D w' x) :
    Calls Try.prog 36 #[.slice q l.length cap, .func (.func f) #[] capt] w fun e w' => ∃ r : Int, e = .returned (.int .i64 r) ∧ decide (0 ≤ r) = l.any p ∧ Below w.heap.size w w' := by
  have hent := hH.ent
  have hm : l.length ≤ 9223372036854775807 := Nat.le_trans hR.le hR.big
  go_enter Try.func36, Try.ntmps36
  go_wp2_with fail
  go_loopw [8] (fun s wr => ∃ k : Nat, k ≤ l.length ∧ s = .int .i64 k ∧ Below w.heap.size w wr ∧ Hid (∀ j, j < k → p (l.getD j 0) = false)) (fun s _ => l.length - (intOf s).toNat)
  case atStart => exact ⟨0, Nat.zero_le _, rfl, Below.refl _ _, fun j h => by omega⟩
  case round =>
    obtain ⟨k, hk, rfl, hbl, hno⟩ := hrel
    by_cases hlt : k < l.length
    · obtain ⟨b, off, rfl, hb, hc⟩ := Sl.int_at hR hlt
      have hc' := (hbl.cell (p := ⟨b, off + k, none⟩) hb).trans hc
      have hcall := hH.call wr hbl (l.getD k 0) (hD wr hbl _ (by simp [hlt]))
      have hany := fun h => any_of_one (p := p) (z := 0) hlt h
      have hno' : p (l.getD k 0) = false → Hid (∀ j, j < k + 1 → p (l.getD j 0) = false) := fun h j hj => by
        rcases Nat.lt_or_ge j k with h3 | h3
        · exact hno.out j h3
        · rw [show j = k from by omega]; exact h
      have HC := Lib.hid hcall; have HA := Lib.hid hany; have HN := Lib.hid hno'; clear hcall hany hno' hc hno
      generalize l.getD k 0 = x at *
      go_wp2_with fail
      refine HC.out.mono ?_
      rintro _ w1 ⟨rfl, hb1⟩
      cases hp : p x with
      | true =>
        have ha := HA.out hp
        have Ha := Lib.hid ha; clear ha hp
        go_wp2_with fail
        go_ret
        exact ⟨_, rfl, by rw [Ha.out]; exact decide_eq_true (by omega), hbl.trans (hb1.mono hbl.size)⟩
      | false =>
        have hn := HN.out hp
        clear hp
        go_wp2_with fail
        go_roundw
        case rel => exact ⟨k + 1, by omega, by go_num, hbl.trans (hb1.mono hbl.size), hn⟩
        case measure => simp [intOf]; omega
    · obtain rfl : k = l.length := by omega
      have ha := any_of_all (p := p) (z := 0) hno.out
      have Ha := Lib.hid ha; clear ha
      go_wp2_with fail
      go_ret
      exact ⟨_, rfl, by rw [Ha.out]; rfl, hbl⟩

set_option maxHeartbeats 400000 in
theorem containsI_any {w : World} {f : FuncId} {capt : Array Value} {D : World → Int → Prop} {p : Int → Bool} (hH : PredV w f capt (Value.int .i64) D p) {q : Option Addr} {cap : Nat} {l : List Int} (hR : SlI w q cap l) (hD : ∀ w', Below w.heap.size w w' → ∀ x ∈ l, D w' x) :
    Calls Try.prog 26 #[.slice q l.length cap, .func (.func f) #[] capt] w fun e w' => e = .returned (.bool (l.any p)) ∧ Below w.heap.size w w' := by
  go_enter Try.func26, Try.ntmps26
  go_wp2_with fail
  refine (indexI_any hH hR hD).mono ?_
  rintro _ w1 ⟨r, rfl, hr, hb1⟩
  have Hr := Lib.hid hr; clear hr
  go_wp2_with fail
  go_ret
  exact ⟨ret_bool (by rw [← Hr.out]), hb1⟩
end Go.Proofs.Ytbnmpagjfihjjaa
