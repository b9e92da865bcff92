/-
  The walks of the package small, 2: Grow, Concat of two lists, without.
-/
import Derived.Test.YtkhjppkhbiojoaaLib
namespace Go.Proofs.Ytkhjppkhbiojoaa
open Go.RowKit

set_option maxHeartbeats 400000 in
theorem grow_any {w : World} (n : Nat) (hs : n * 8 ≤ 140737488355328) :
    Calls Try.prog 20 #[.slice none 0 0, .int .i64 n] w fun e w' => ∃ p cap, e = .returned (.slice p 0 cap) ∧ w'.ownsRow w.heap.size 3 1 (.slice p 0 cap) 0 [] ∧ Below w.heap.size w w' := by
  obtain ⟨i0, hi, hz0, hz1, hz2⟩ := info_parts info3
  by_cases h0 : 0 < n
  · go_enter Try.func20, Try.ntmps20
    go_wp2_with (at_builtin; refine wpList_append_zeros_nil _ rfl _ _ 22 3 rfl w.heap.size 3 i0 (.int .i64 0) 1 8 .i64 Try.underlying22 Try.underlying3 hi hz0 hz1 hz2 rfl (by decide) rfl _ _ rfl n rfl h0 (by omega) hs (Nat.le_refl _) ?_; intro g cap w1 hge hle hown hbel)
    go_ret
    exact ⟨_, _, rfl, hown, hbel⟩
  · obtain rfl : n = 0 := by omega
    go_enter Try.func20, Try.ntmps20
    go_wp2
    go_ret
    exact ⟨none, 0, rfl, World.ownsRow_nil _ _ _ _, Below.refl _ _⟩

/-- A slice among several: where it begins, its room, its numbers. -/
structure Part where
  p : Option Addr
  cap : Nat
  l : List Int
def Part.val (x : Part) : Value := .slice x.p x.l.length x.cap
def Part.none : Part := ⟨Option.none, 0, []⟩
def flat (ps : List Part) : List Int := (ps.map (·.l)).flatten
theorem flat_take_succ {ps : List Part} {k : Nat} (h : k < ps.length) : flat (ps.take (k + 1)) = flat (ps.take k) ++ (ps.getD k .none).l := by
  unfold flat
  rw [List.take_add_one, List.map_append, List.flatten_append]
  simp [h]
theorem flat_take_le (ps : List Part) (k : Nat) : (flat (ps.take k)).length ≤ (flat ps).length := by
  conv => rhs; rw [← List.take_append_drop k ps]
  unfold flat
  rw [List.map_append, List.flatten_append, List.length_append]
  omega

/-- The parts lie in the block b, one behind the other, and read. -/
def PartsAt (w : World) (b : Nat) (ps : List Part) : Prop := b < w.heap.size ∧ ∀ i, i < ps.length → w.cell? ⟨b, i, none⟩ = some (ps.getD i .none).val ∧ SlI w (ps.getD i .none).p (ps.getD i .none).cap (ps.getD i .none).l
theorem PartsAt.below {w w' : World} {b : Nat} {ps : List Part} (h : PartsAt w b ps) (hw : Below w.heap.size w w') : PartsAt w' b ps :=
  ⟨Nat.lt_of_lt_of_le h.1 hw.size, fun i hi => ⟨by rw [hw.cell h.1]; exact (h.2 i hi).1, (h.2 i hi).2.below hw⟩⟩

set_option maxHeartbeats 1000000 in
/-- Concat of lists. -/
theorem concat_any {w : World} {b : Nat} {ps : List Part} (hP : PartsAt w b ps) (hn : ps.length ≤ 1000) (hs : (flat ps).length * 8 ≤ 140737488355328) :
    Calls Try.prog 19 #[.slice (some ⟨b, 0, none⟩) ps.length ps.length] w fun e w' => ∃ p' cap', e = .returned (.slice p' (flat ps).length cap') ∧ OwnI w' w.heap.size p' cap' (flat ps) ∧ Below w.heap.size w w' := by
  obtain ⟨i0, hi, hz0, hz1, hz2⟩ := info_parts info3
  go_enter Try.func19, Try.ntmps19
  go_wp2_with fail
  go_loopw [3, 11] (fun t s wr => ∃ k : Nat, k ≤ ps.length ∧ s = .int .i64 k ∧ t = .int .i64 (flat (ps.take k)).length ∧ Below w.heap.size w wr) (fun _ s _ => ps.length - (intOf s).toNat)
  case atStart => exact ⟨0, Nat.zero_le _, rfl, rfl, Below.refl _ _⟩
  case round =>
    obtain ⟨k, hk, rfl, rfl, hbl⟩ := hrel
    by_cases hlt : k < ps.length
    · obtain ⟨hc, hS⟩ := hP.2 k hlt
      rw [← hbl.cell hP.1] at hc
      have hf := flat_take_succ hlt
      have hle := flat_take_le ps (k + 1)
      rw [hf, List.length_append] at hle
      have HF := Lib.hid (congrArg List.length hf); clear hf
      have hxl := hS.le
      clear hS
      unfold Part.val at hc
      generalize ps.getD k .none = x at *
      obtain ⟨xp, xc, xl⟩ := x
      dsimp only at *
      have hq : decide ((((flat (ps.take k)).length : Int) + xl.length) < 0) = false := decide_eq_false (by omega)
      have hn1 : (flat (ps.take k)).length + xl.length ≤ 9223372036854775807 := by omega
      go_wp2_with fail
      go_roundw
      case rel =>
        refine ⟨k + 1, by omega, by go_num, ?_, hbl⟩
        rw [HF.out, List.length_append]
        go_num
      case measure => simp [intOf]; omega
    · obtain rfl : k = ps.length := by omega
      rw [List.take_length]
      go_wp2_with (go_at_call 20; refine (grow_any _ hs).mono ?_; rintro e w1 ⟨p1, c1, rfl, hown, hb1⟩)
      replace hown := own_mono hown hbl.size
      replace hbl := hbl.trans (hb1.mono hbl.size)
      clear hb1
      go_loopw [6, 27] (fun v s wr => ∃ k p c, k ≤ ps.length ∧ s = .int .i64 (k : Nat) ∧ v = .slice p (flat (ps.take k)).length c ∧ OwnI wr w.heap.size p c (flat (ps.take k)) ∧ Below w.heap.size w wr) (fun _ s _ => ps.length - (intOf s).toNat)
      case atStart => exact ⟨0, _, _, Nat.zero_le _, rfl, rfl, hown, hbl⟩
      case round =>
        clear hown hbl
        obtain ⟨k, p, c, hk, rfl, rfl, hown, hbl⟩ := hrel
        by_cases hlt : k < ps.length
        · obtain ⟨hc, hS⟩ := hP.2 k hlt
          rw [← hbl.cell hP.1] at hc
          replace hS := hS.below hbl
          have hf := flat_take_succ hlt
          have hle := flat_take_le ps (k + 1)
          rw [hf, List.length_append] at hle
          have HF := Lib.hid hf; clear hf
          unfold Part.val at hc
          generalize ps.getD k .none = x at *
          obtain ⟨xp, xc, xl⟩ := x
          dsimp only at *
          have hsz := hbl.size
          go_wp2_with (at_builtin; refine wpList_append_sl _ rfl _ _ 22 rfl w.heap.size 3 i0 (.int .i64 0) 1 8 Try.underlying22 hi hz0 hz1 hz2 rfl (by decide) _ _ _ rfl hown _ _ _ _ rfl hS ints_one (by omega) (by omega) hsz ?_; intro p' c' w2 hown2 hbel2)
          go_roundw
          case rel =>
            refine ⟨k + 1, p', c', by omega, by go_num, ?_, ?_, hbl.trans hbel2⟩
            · rw [HF.out, List.length_append]
            · unfold OwnI
              rw [HF.out, ints_append, List.length_append]
              exact hown2
          case measure => simp [intOf]; omega
        · obtain rfl : k = ps.length := by omega
          rw [List.take_length] at *
          go_wp2_with fail
          go_ret
          exact ⟨_, _, rfl, hown, hbl⟩

theorem two_parts {w : World} {b : Nat} {p q : Option Addr} {cap cap2 : Nat} {l m : List Int} (hb : b < w.heap.size) (h0 : w.cell? ⟨b, 0, none⟩ = some (.slice p l.length cap)) (h1 : w.cell? ⟨b, 1, none⟩ = some (.slice q m.length cap2))
    (hR : SlI w p cap l) (hS : SlI w q cap2 m) : PartsAt w b [⟨p, cap, l⟩, ⟨q, cap2, m⟩] := by
  refine ⟨hb, fun i hi => ?_⟩
  match i, hi with
  | 0, _ => exact ⟨h0, hR⟩
  | 1, _ => exact ⟨h1, hS⟩
  | _ + 2, h => exact absurd h (by simp)

end Go.Proofs.Ytkhjppkhbiojoaa
