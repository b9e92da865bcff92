/-
  The walks of the package small, 3: without a stretch.
-/
import Derived.Test.YtkhjppkhbiojoaaLib2
import Derived.StillTailTactics
namespace Go.Proofs.Ytkhjppkhbiojoaa
open Go.RowKit

def withoutM (l : List Int) (a b : Nat) : List Int := l.take a ++ l.drop b

set_option maxHeartbeats 1000000 in
theorem without_any {w : World} {p : Option Addr} {cap : Nat} {l : List Int} (hR : SlI w p cap l) (a b : Nat) (hab : a ≤ b) (hbl : b ≤ l.length) (hs : l.length * 8 ≤ 140737488355328) :
    Calls Try.prog 18 #[.slice p l.length cap, .int .i64 a, .int .i64 b] w fun e w' => ∃ p' cap', e = .returned (.slice p' (withoutM l a b).length cap') ∧ OwnI w' w.heap.size p' cap' (withoutM l a b) ∧ Below w.heap.size w w' := by
  have hle := hR.le
  have hbig := hR.big
  have i1 : (a : Int) ≤ (cap : Int) := by omega
  have i2 : (b : Int) ≤ (l.length : Int) := by omega
  have i3 : 0 ≤ (a : Int) := by omega
  have i4 : 0 ≤ (b : Int) := by omega
  have hT := hR.take (m := a) (by omega)
  have hF := hR.from_ (m := b) hbl
  have e1 : (l.take a).length = a := by simp; omega
  have e2 : (l.drop b).length = l.length - b := by simp
  have ef : flat [⟨p, cap, l.take a⟩, ⟨if cap = b then p else p.map (·.add (b * 1)), cap - b, l.drop b⟩] = withoutM l a b := by simp [flat, withoutM]
  rw [Nat.mul_one, ← ints_take] at hT
  rw [← ints_drop, Nat.mul_one] at hF
  have hlen : (withoutM l a b).length ≤ l.length := by unfold withoutM; simp; omega
  have key : ∀ wd : World, Below w.heap.size w wd → ∀ v1 v2 : Value, v1 = .slice p a cap → v2 = .slice (if cap = b then p else p.map (·.add b)) (l.length - b) (cap - b) →
      Calls Try.prog 19 #[.slice (some ⟨wd.heap.size, 0, none⟩) 2 2] (wd.alloc (.cells #[v1, v2] 22)) fun e w' => ∃ p' cap', e = .returned (.slice p' (withoutM l a b).length cap') ∧ OwnI w' w.heap.size p' cap' (withoutM l a b) ∧ Below w.heap.size w w' := by
    rintro wd hwd v1 v2 rfl rfl
    have ha := (Below.refl wd.heap.size wd).alloc (Nat.le_refl _) (.cells #[.slice p a cap, .slice (if cap = b then p else p.map (·.add b)) (l.length - b) (cap - b)] 22)
    have hP : PartsAt (wd.alloc (.cells #[.slice p a cap, .slice (if cap = b then p else p.map (·.add b)) (l.length - b) (cap - b)] 22)) wd.heap.size [⟨p, cap, l.take a⟩, ⟨if cap = b then p else p.map (·.add (b * 1)), cap - b, l.drop b⟩] := by
      refine two_parts (by simp) ?_ ?_ ?_ ?_
      · rw [new_cell, e1]; rfl
      · rw [new_cell, e2, Nat.mul_one]; rfl
      · rw [SlI, e1]; exact (hT.below hwd).below ha
      · rw [SlI, e2, Nat.mul_one]; exact (hF.below hwd).below ha
    refine (concat_any hP (by simp) (by rw [ef]; omega)).mono ?_
    rintro e w1 ⟨p', c', rfl, hown, hb1⟩
    rw [ef] at hown ⊢
    have hz := hwd.size
    exact ⟨p', c', rfl, own_mono hown (by simp; omega), (hwd.alloc hz _).trans (hb1.mono (by simp; omega))⟩
  have K := Lib.hid key
  clear key hT hF e1 e2 ef hlen hR
  by_cases hcb : cap = b
  · subst hcb
    go_enter Try.func18, Try.ntmps18
    go_wp2_with fail
    go_still_tail 6, (by kernel_rfl)
    change wpList _ _ _ _ _ w.drew
    have hwd : Below w.heap.size w w.drew := (Below.refl w.heap.size w).drew
    generalize w.drew = wd at *
    go_wp2_with fail
    refine (K.out wd hwd (.slice p a cap) (.slice p 0 0) rfl (by simp; omega)).mono ?_
    rintro e w1 ⟨p', c', rfl, hown, hb1⟩
    go_wp2_with fail
    go_ret
    exact ⟨_, _, rfl, hown, hb1⟩
  · go_enter Try.func18, Try.ntmps18
    go_wp2_with fail
    go_still_tail 6, (by kernel_rfl)
    change wpList _ _ _ _ _ w.drew
    have hwd : Below w.heap.size w w.drew := (Below.refl w.heap.size w).drew
    generalize w.drew = wd at *
    go_wp2_with fail
    refine (K.out wd hwd _ _ rfl (by rw [if_neg hcb])).mono ?_
    rintro e w1 ⟨p', c', rfl, hown, hb1⟩
    go_wp2_with fail
    go_ret
    exact ⟨_, _, rfl, hown, hb1⟩


/-- What Without tells. -/
def withoutE (l : List Int) (a b : Int) : List Int × Int :=
  if 200 < l.length then ([], 2) else if a < 0 ∨ b < a ∨ (l.length : Int) < b then ([], 1) else (withoutM l a.toNat b.toNat, 0)

set_option maxHeartbeats 1000000 in
theorem Without_any {w : World} {p : Option Addr} {cap : Nat} {l : List Int} (hR : SlI w p cap l) (a b : Int) :
    Calls Try.prog 9 #[.slice p l.length cap, .int .i64 a, .int .i64 b] w fun e w' => ∃ p' cap', e = .returned (.tuple #[.slice p' (withoutE l a b).1.length cap', .int .i64 (withoutE l a b).2]) ∧ OwnI w' w.heap.size p' cap' (withoutE l a b).1 ∧ Below w.heap.size w w' := by
  have hle := hR.le
  have hbig := hR.big
  by_cases h2 : 200 < l.length
  · have hx : withoutE l a b = ([], 2) := by unfold withoutE; rw [if_pos h2]
    rw [hx]
    have h2' : (200 : Int) < (l.length : Int) := by omega
    clear hx
    go_enter Try.func9, Try.ntmps9
    go_wp2_with fail
    go_ret2
    exact ⟨none, 0, rfl, World.ownsRow_nil _ _ _ _, Below.refl _ _⟩
  · by_cases h3 : a < 0 ∨ b < a ∨ (l.length : Int) < b
    · have hx : withoutE l a b = ([], 1) := by unfold withoutE; rw [if_neg h2, if_pos h3]
      rw [hx]
      clear hx
      rcases h3 with h3 | h3 | h3
      · go_enter Try.func9, Try.ntmps9
        go_wp2_with fail
        go_ret2
        exact ⟨none, 0, rfl, World.ownsRow_nil _ _ _ _, Below.refl _ _⟩
      · by_cases h4 : a < 0
        all_goals
          go_enter Try.func9, Try.ntmps9
          go_wp2_with fail
          go_ret2
          exact ⟨none, 0, rfl, World.ownsRow_nil _ _ _ _, Below.refl _ _⟩
      · by_cases h4 : a < 0
        · go_enter Try.func9, Try.ntmps9
          go_wp2_with fail
          go_ret2
          exact ⟨none, 0, rfl, World.ownsRow_nil _ _ _ _, Below.refl _ _⟩
        · by_cases h5 : b < a
          all_goals
            go_enter Try.func9, Try.ntmps9
            go_wp2_with fail
            go_ret2
            exact ⟨none, 0, rfl, World.ownsRow_nil _ _ _ _, Below.refl _ _⟩
    · have hx : withoutE l a b = (withoutM l a.toNat b.toNat, 0) := by unfold withoutE; rw [if_neg h2, if_neg h3]
      rw [hx]
      clear hx
      have k1 : 0 ≤ a := by omega
      have k2 : a ≤ b := by omega
      have k3 : b ≤ (l.length : Int) := by omega
      clear h3
      obtain ⟨a, rfl⟩ := Int.eq_ofNat_of_zero_le k1
      obtain ⟨b, rfl⟩ := Int.eq_ofNat_of_zero_le (by omega : 0 ≤ b)
      simp only [Int.toNat_natCast]
      go_enter Try.func9, Try.ntmps9
      go_wp2_with (go_at_call 18; refine (without_any hR a b (by omega) (by omega) (by omega)).mono ?_; rintro e w1 ⟨p', c', rfl, hown, hb1⟩)
      go_ret2
      exact ⟨_, _, rfl, hown, hb1⟩

end Go.Proofs.Ytkhjppkhbiojoaa
