/-
  slices.ContainsFunc of lines; the walk of right.
-/
import Derived.Test.YtjabhkpifpcccaaFnI
import Derived.Test.YtjabhkpifpcccaaLn
namespace Go.Proofs.Ytjabhkpifpcccaa
open Go.RowKit

set_option maxHeartbeats 1000000 in
theorem indexL_any {w : World} {f : FuncId} {capt : Array Value} {D : World → Ln → Prop} {p : Ln → Bool} (hH : PredV w f capt Ln.val D p) {q : Option Addr} {cap : Nat} {l : List Ln} (hR : Sl w 4 q l.length cap (lns l)) (hD : ∀ w', Below w.heap.size w w' → ∀ x ∈ l, D w' x) :
    Calls Try.prog 28 #[.slice q l.length cap, .func (.func f) #[] capt] w fun e w' => ∃ r : Int, e = .returned (.int .i64 r) ∧ decide (0 ≤ r) = l.any p ∧ Below w.heap.size w w' := by
  have hent := hH.ent
  have hm : l.length ≤ 9223372036854775807 := Nat.le_trans hR.le hR.big
  go_enter Try.func28, Try.ntmps28
  go_wp2_with fail
  go_loopw [8] (fun s wr => ∃ k : Nat, k ≤ l.length ∧ s = .int .i64 k ∧ Below w.heap.size w wr ∧ Hid (∀ j, j < k → p (l.getD j .z) = false)) (fun s _ => l.length - (intOf s).toNat)
  case atStart => exact ⟨0, Nat.zero_le _, rfl, Below.refl _ _, fun j h => by omega⟩
  case round =>
    obtain ⟨k, hk, rfl, hbl, hno⟩ := hrel
    by_cases hlt : k < l.length
    · obtain ⟨b, off, rfl, hb, hE⟩ := hR.lns_ptr hlt
      have hE' := hE.below hbl hb
      have hcall := hH.call wr hbl (l.getD k .z) (hD wr hbl _ (by simp [hlt]))
      have hany := fun h => any_of_one (p := p) (z := .z) hlt h
      have hno' : p (l.getD k .z) = false → Hid (∀ j, j < k + 1 → p (l.getD j .z) = false) := fun h j hj => by
        rcases Nat.lt_or_ge j k with h3 | h3
        · exact hno.out j h3
        · rw [show j = k from by omega]; exact h
      have HC := Lib.hid hcall; have HA := Lib.hid hany; have HN := Lib.hid hno'; clear hcall hany hno' hE hno
      generalize l.getD k .z = x at *
      obtain ⟨xt, xo, xa, xb⟩ := x
      obtain ⟨e0, e1, e2, e3⟩ := hE'
      dsimp only [Ln.val] at *
      go_wp2_with fail
      refine HC.out.mono ?_
      rintro _ w1 ⟨rfl, hb1⟩
      cases hp : p ⟨xt, xo, xa, xb⟩ with
      | true =>
        have ha := HA.out hp
        have Ha := Lib.hid ha; clear ha hp
        go_wp2_with fail
        go_ret
        exact ⟨_, rfl, by rw [Ha.out]; exact decide_eq_true (by omega), hbl.trans (hb1.mono hbl.size)⟩
      | false =>
        have hn := HN.out hp
        clear hp
        go_wp2_with fail
        go_roundw
        case rel => exact ⟨k + 1, by omega, by go_num, hbl.trans (hb1.mono hbl.size), hn⟩
        case measure => simp [intOf]; omega
    · obtain rfl : k = l.length := by omega
      have ha := any_of_all (p := p) (z := .z) hno.out
      have Ha := Lib.hid ha; clear ha
      go_wp2_with fail
      go_ret
      exact ⟨_, rfl, by rw [Ha.out]; rfl, hbl⟩

set_option maxHeartbeats 400000 in
theorem containsL_any {w : World} {f : FuncId} {capt : Array Value} {D : World → Ln → Prop} {p : Ln → Bool} (hH : PredV w f capt Ln.val D p) {q : Option Addr} {cap : Nat} {l : List Ln} (hR : Sl w 4 q l.length cap (lns l)) (hD : ∀ w', Below w.heap.size w w' → ∀ x ∈ l, D w' x) :
    Calls Try.prog 21 #[.slice q l.length cap, .func (.func f) #[] capt] w fun e w' => e = .returned (.bool (l.any p)) ∧ Below w.heap.size w w' := by
  go_enter Try.func21, Try.ntmps21
  go_wp2_with fail
  refine (indexL_any hH hR hD).mono ?_
  rintro _ w1 ⟨r, rfl, hr, hb1⟩
  have Hr := Lib.hid hr; clear hr
  go_wp2_with fail
  go_ret
  exact ⟨ret_bool (by rw [← Hr.out]), hb1⟩

def opBad (x : Ln) : Bool := decide (x.o < 0) || decide (3 < x.o)
theorem right1_pred (W : World) : PredV W 22 #[] Ln.val (fun _ _ => True) opBad := by
  refine ⟨enters_own Try.func22 (by kernel_rfl) rfl, fun w' _ x _ => ?_⟩
  obtain ⟨xt, xo, xa, xb⟩ := x
  unfold opBad
  dsimp only [Ln.val]
  by_cases h0 : xo < 0
  · go_enter Try.func22, Try.ntmps22
    go_wp2
    go_ret
    exact ⟨ret_bool (by simp [h0]), (Below.refl _ _).alloc (Nat.le_refl _) _⟩
  · go_enter Try.func22, Try.ntmps22
    go_wp2
    go_ret
    exact ⟨ret_bool (by simp; omega), (Below.refl _ _).alloc (Nat.le_refl _) _⟩

def rightM (l : List Ln) (at_ : Int) : Int := if 200 < l.length then 2 else if l.any opBad then 7 else if at_ < 0 ∨ (l.length : Int) ≤ at_ then 1 else 0

set_option maxHeartbeats 1000000 in
theorem right_any {w : World} {p : Option Addr} {cap : Nat} {l : List Ln} (hR : Sl w 4 p l.length cap (lns l)) (at_ : Int) :
    Calls Try.prog 14 #[.slice p l.length cap, .int .i64 at_] w fun e w' => e = .returned (.int .i64 (rightM l at_)) ∧ Below w.heap.size w w' := by
  have hm : l.length ≤ 9223372036854775807 := Nat.le_trans hR.le hR.big
  by_cases h200 : 200 < l.length
  · have hc : rightM l at_ = 2 := by unfold rightM; rw [if_pos h200]
    have h200' : (200 : Int) < (l.length : Int) := by omega
    rw [hc]
    clear hc
    go_enter Try.func14, Try.ntmps14
    go_wp2
    go_ret
    exact ⟨rfl, Below.refl _ _⟩
  · have h200' : ¬ (200 : Int) < (l.length : Int) := by omega
    have hcall := containsL_any (right1_pred w) hR (fun _ _ _ _ => trivial)
    cases ha : l.any opBad with
    | true =>
      have hc : rightM l at_ = 7 := by unfold rightM; rw [if_neg h200, if_pos ha]
      rw [ha] at hcall
      rw [hc]
      have HC := Lib.hid hcall; clear hcall hc ha
      go_enter Try.func14, Try.ntmps14
      go_wp2_with fail
      refine HC.out.mono ?_
      rintro _ w1 ⟨rfl, hb1⟩
      go_wp2_with fail
      go_ret
      exact ⟨rfl, hb1⟩
    | false =>
      rw [ha] at hcall
      have hc : rightM l at_ = if at_ < 0 ∨ (l.length : Int) ≤ at_ then 1 else 0 := by unfold rightM; rw [if_neg h200, ha]; simp
      rw [hc]
      have HC := Lib.hid hcall; clear hcall hc ha
      by_cases h0 : at_ < 0
      · go_enter Try.func14, Try.ntmps14
        go_wp2_with fail
        refine HC.out.mono ?_
        rintro _ w1 ⟨rfl, hb1⟩
        go_wp2_with fail
        go_ret
        exact ⟨rfl, hb1⟩
      · by_cases h1 : (l.length : Int) ≤ at_
        · go_enter Try.func14, Try.ntmps14
          go_wp2_with fail
          refine HC.out.mono ?_
          rintro _ w1 ⟨rfl, hb1⟩
          go_wp2_with fail
          go_ret
          exact ⟨rfl, hb1⟩
        · go_enter Try.func14, Try.ntmps14
          go_wp2_with fail
          refine HC.out.mono ?_
          rintro _ w1 ⟨rfl, hb1⟩
          go_wp2_with fail
          go_ret
          exact ⟨rfl, hb1⟩
theorem rightM_zero {l : List Ln} {at_ : Int} (h : rightM l at_ = 0) : l.length ≤ 200 ∧ (∀ x ∈ l, 0 ≤ x.o ∧ x.o ≤ 3) ∧ 0 ≤ at_ ∧ at_ < l.length := by
  unfold rightM at h
  split at h
  · omega
  · next h1 =>
    split at h
    · omega
    · next h2 =>
      split at h
      · omega
      · next h3 =>
        refine ⟨by omega, fun x hx => ?_, by omega, by omega⟩
        rw [Bool.not_eq_true, List.any_eq_false] at h2
        have := h2 x hx
        unfold opBad at this
        simp at this
        exact this
end Go.Proofs.Ytjabhkpifpcccaa
