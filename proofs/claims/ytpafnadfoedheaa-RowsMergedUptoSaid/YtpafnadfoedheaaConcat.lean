/-
  slices.Grow of nil, slices.Concat, at any element. (23: Grow's number, 17: Concat's, 22: the slice's type, 30: the element's, 12: its cells, 96: its bytes, Ev.z.val: its zero.)
-/
import Derived.Test.YtpafnadfoedheaaProg
import Derived.Test.YtpafnadfoedheaaEv
import Derived.Deep.QuietTactic
import Derived.BigQuiet
namespace Go.Proofs.Ytpafnadfoedheaa
open Go.RowKit

theorem infoCE : (Try.prog.info? 30).map (fun i => (i.zero, i.size, i.bytes)) = some (some (Ev.z.val), 12, 96) := by kernel_rfl

set_option maxHeartbeats 400000 in
theorem growE_any {w : World} (n : Nat) (hs : n * 96 ≤ 140737488355328) :
    Calls Try.prog 23 #[.slice none 0 0, .int .i64 n] w fun e w' => ∃ p cap, e = .returned (.slice p 0 cap) ∧ w'.ownsRow w.heap.size 30 12 (.slice p 0 cap) 0 [] ∧ Below w.heap.size w w' := by
  obtain ⟨i0, hi, hz0, hz1, hz2⟩ := info_parts infoCE
  by_cases h0 : 0 < n
  · go_enter Try.func23, Try.ntmps23
    go_wp2_with (at_builtin; refine wpList_append_zeros_nil _ rfl _ _ 22 3 rfl w.heap.size 30 i0 (Ev.z.val) 12 96 .i64 Try.underlying22 Try.underlying3 hi hz0 hz1 hz2 rfl (by decide) rfl _ _ rfl n rfl h0 (by omega) hs (Nat.le_refl _) ?_; intro g cap w1 hge hle hown hbel)
    go_ret
    exact ⟨_, _, rfl, hown, hbel⟩
  · obtain rfl : n = 0 := by omega
    go_enter Try.func23, Try.ntmps23
    go_wp2
    go_ret
    exact ⟨none, 0, rfl, World.ownsRow_nil _ _ _ _, Below.refl _ _⟩

/-- A slice among several. -/
structure PartE where
  p : Option Addr
  n : Nat
  cap : Nat
  xs : List Value
def PartE.val (x : PartE) : Value := .slice x.p x.n x.cap
def PartE.none : PartE := ⟨Option.none, 0, 0, []⟩
def flatNE (ps : List PartE) : Nat := (ps.map (·.n)).sum
def flatE (ps : List PartE) : List Value := (ps.map (·.xs)).flatten
theorem flatE_take_succ {ps : List PartE} {k : Nat} (h : k < ps.length) : flatE (ps.take (k + 1)) = flatE (ps.take k) ++ (ps.getD k .none).xs := by
  unfold flatE
  rw [List.take_add_one, List.map_append, List.flatten_append]
  simp [h]
theorem flatNE_take_succ {ps : List PartE} {k : Nat} (h : k < ps.length) : flatNE (ps.take (k + 1)) = flatNE (ps.take k) + (ps.getD k .none).n := by
  unfold flatNE
  rw [List.take_add_one, List.map_append, List.sum_append]
  simp [h]
theorem flatNE_take_le (ps : List PartE) (k : Nat) : flatNE (ps.take k) ≤ flatNE ps := by
  conv => rhs; rw [← List.take_append_drop k ps]
  unfold flatNE
  rw [List.map_append, List.sum_append]
  omega

/-- The parts lie in the block b, one behind the other, and read. -/
def PartsAtE (w : World) (b : Nat) (ps : List PartE) : Prop := b < w.heap.size ∧ ∀ i, i < ps.length → w.cell? ⟨b, i, none⟩ = some (ps.getD i .none).val ∧ Sl w 12 (ps.getD i .none).p (ps.getD i .none).n (ps.getD i .none).cap (ps.getD i .none).xs ∧ ∀ u ∈ (ps.getD i .none).xs, u.oneCell' = true

set_option maxHeartbeats 1000000 in
/-- Concat of slices. -/
theorem concatE_any {w : World} {b : Nat} {ps : List PartE} (hP : PartsAtE w b ps) (hn : ps.length ≤ 1000) (hs : flatNE ps * 96 ≤ 140737488355328) :
    Calls Try.prog 17 #[.slice (some ⟨b, 0, none⟩) ps.length ps.length] w fun e w' => ∃ p' cap', e = .returned (.slice p' (flatNE ps) cap') ∧ w'.ownsRow w.heap.size 30 12 (.slice p' (flatNE ps) cap') (flatNE ps) (flatE ps) ∧ Below w.heap.size w w' := by
  obtain ⟨i0, hi, hz0, hz1, hz2⟩ := info_parts infoCE
  go_enter Try.func17, Try.ntmps17
  go_wp2_with fail
  go_loopw [3, 11] (fun t s wr => ∃ k : Nat, k ≤ ps.length ∧ s = .int .i64 k ∧ t = .int .i64 (flatNE (ps.take k)) ∧ Below w.heap.size w wr) (fun _ s _ => ps.length - (intOf s).toNat)
  case atStart => exact ⟨0, Nat.zero_le _, rfl, rfl, Below.refl _ _⟩
  case round =>
    obtain ⟨k, hk, rfl, rfl, hbl⟩ := hrel
    by_cases hlt : k < ps.length
    · obtain ⟨hc, hS, -⟩ := hP.2 k hlt
      rw [← hbl.cell hP.1] at hc
      have hf := flatNE_take_succ hlt
      have hle := flatNE_take_le ps (k + 1)
      rw [hf] at hle
      have HF := Lib.hid hf; clear hf
      have hxl := hS.le
      clear hS
      unfold PartE.val at hc
      generalize ps.getD k .none = x at *
      obtain ⟨xp, xn, xc, xl⟩ := x
      dsimp only at *
      have hq : decide (((flatNE (ps.take k) : Int) + xn) < 0) = false := decide_eq_false (by omega)
      have hn1 : flatNE (ps.take k) + xn ≤ 9223372036854775807 := by omega
      go_wp2_with fail
      go_roundw
      case rel =>
        refine ⟨k + 1, by omega, by go_num, ?_, hbl⟩
        rw [HF.out]
        go_num
      case measure => simp [intOf]; omega
    · obtain rfl : k = ps.length := by omega
      rw [List.take_length]
      go_wp2_with (go_at_call 23; refine (growE_any _ hs).mono ?_; rintro e w1 ⟨p1, c1, rfl, hown, hb1⟩)
      replace hown := own_mono hown hbl.size
      replace hbl := hbl.trans (hb1.mono hbl.size)
      clear hb1
      go_loopw [6, 27] (fun v s wr => ∃ k p c, k ≤ ps.length ∧ s = .int .i64 (k : Nat) ∧ v = .slice p (flatNE (ps.take k)) c ∧ wr.ownsRow w.heap.size 30 12 (.slice p (flatNE (ps.take k)) c) (flatNE (ps.take k)) (flatE (ps.take k)) ∧ Below w.heap.size w wr) (fun _ s _ => ps.length - (intOf s).toNat)
      case atStart => exact ⟨0, _, _, Nat.zero_le _, rfl, rfl, hown, hbl⟩
      case round =>
        clear hown hbl
        obtain ⟨k, p, c, hk, rfl, rfl, hown, hbl⟩ := hrel
        by_cases hlt : k < ps.length
        · obtain ⟨hc, hS, h1⟩ := hP.2 k hlt
          rw [← hbl.cell hP.1] at hc
          replace hS := hS.below (hbl)
          have hf := flatNE_take_succ hlt
          have hf2 := flatE_take_succ hlt
          have hle := flatNE_take_le ps (k + 1)
          rw [hf] at hle
          have HF := Lib.hid hf; have HF2 := Lib.hid hf2; clear hf hf2
          unfold PartE.val at hc
          generalize ps.getD k .none = x at *
          obtain ⟨xp, xn, xc, xl⟩ := x
          dsimp only at *
          have hsz := hbl.size
          have H1 := Lib.hid h1; clear h1
          go_wp2_with (at_builtin; refine wpList_append_sl _ rfl _ _ 22 rfl w.heap.size 30 i0 (Ev.z.val) 12 96 Try.underlying22 hi hz0 hz1 hz2 rfl (by decide) _ _ _ rfl hown _ _ _ _ rfl hS H1.out (by omega) (by omega) hsz ?_; intro p' c' w2 hown2 hbel2)
          go_roundw
          case rel =>
            refine ⟨k + 1, p', c', by omega, by go_num, ?_, ?_, hbl.trans hbel2⟩
            · rw [HF.out]
            · rw [HF.out, HF2.out]
              exact hown2
          case measure => simp [intOf]; omega
        · obtain rfl : k = ps.length := by omega
          rw [List.take_length] at *
          go_wp2_with fail
          go_ret
          exact ⟨_, _, rfl, hown, hbl⟩

/-- One slice of a list. -/
def OkE (w : World) (x : PartE) : Prop := Sl w 12 x.p x.n x.cap x.xs ∧ ∀ u ∈ x.xs, u.oneCell' = true
theorem parts3E {w : World} {b : Nat} {x y z : PartE} (hb : b < w.heap.size) (h0 : w.cell? ⟨b, 0, none⟩ = some x.val) (h1 : w.cell? ⟨b, 1, none⟩ = some y.val) (h2 : w.cell? ⟨b, 2, none⟩ = some z.val) (hx : OkE w x) (hy : OkE w y) (hz : OkE w z) : PartsAtE w b [x, y, z] := by
  refine ⟨hb, fun i hi => ?_⟩
  match i, hi with
  | 0, _ => exact ⟨h0, hx⟩
  | 1, _ => exact ⟨h1, hy⟩
  | 2, _ => exact ⟨h2, hz⟩
  | _ + 3, h => exact absurd h (by simp)
theorem parts2E {w : World} {b : Nat} {x y : PartE} (hb : b < w.heap.size) (h0 : w.cell? ⟨b, 0, none⟩ = some x.val) (h1 : w.cell? ⟨b, 1, none⟩ = some y.val) (hx : OkE w x) (hy : OkE w y) : PartsAtE w b [x, y] := by
  refine ⟨hb, fun i hi => ?_⟩
  match i, hi with
  | 0, _ => exact ⟨h0, hx⟩
  | 1, _ => exact ⟨h1, hy⟩
  | _ + 2, h => exact absurd h (by simp)
end Go.Proofs.Ytpafnadfoedheaa
