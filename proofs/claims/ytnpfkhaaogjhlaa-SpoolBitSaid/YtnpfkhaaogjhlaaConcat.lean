/-
  slices.Grow of nil, slices.Concat, at any element. (18: Grow's number, 14: Concat's, 24: the slice's type, 5: the element's, 1: its cells, 1: its bytes, .int .u8 0: its zero.)
-/
import Derived.Test.YtnpfkhaaogjhlaaProg
import Derived.Test.YtnpfkhaaogjhlaaMem
import Derived.Deep.QuietTactic
import Derived.BigQuiet
namespace Go.Proofs.Ytnpfkhaaogjhlaa
open Go.RowKit

theorem infoCB : (Try.prog.info? 5).map (fun i => (i.zero, i.size, i.bytes)) = some (some (.int .u8 0), 1, 1) := by kernel_rfl

set_option maxHeartbeats 400000 in
theorem growB_any {w : World} (n : Nat) (hs : n * 1 ≤ 140737488355328) :
    Calls Try.prog 18 #[.slice none 0 0, .int .i64 n] w fun e w' => ∃ p cap, e = .returned (.slice p 0 cap) ∧ w'.ownsRow w.heap.size 5 1 (.slice p 0 cap) 0 [] ∧ Below w.heap.size w w' := by
  obtain ⟨i0, hi, hz0, hz1, hz2⟩ := info_parts infoCB
  by_cases h0 : 0 < n
  · go_enter Try.func18, Try.ntmps18
    go_wp2_with (at_builtin; refine wpList_append_zeros_nil _ rfl _ _ 24 3 rfl w.heap.size 5 i0 (.int .u8 0) 1 1 .i64 Try.underlying24 Try.underlying3 hi hz0 hz1 hz2 rfl (by decide) rfl _ _ rfl n rfl h0 (by omega) hs (Nat.le_refl _) ?_; intro g cap w1 hge hle hown hbel)
    go_ret
    exact ⟨_, _, rfl, hown, hbel⟩
  · obtain rfl : n = 0 := by omega
    go_enter Try.func18, Try.ntmps18
    go_wp2
    go_ret
    exact ⟨none, 0, rfl, World.ownsRow_nil _ _ _ _, Below.refl _ _⟩

/-- A slice among several. -/
structure PartB where
  p : Option Addr
  n : Nat
  cap : Nat
  xs : List Value
def PartB.val (x : PartB) : Value := .slice x.p x.n x.cap
def PartB.none : PartB := ⟨Option.none, 0, 0, []⟩
def flatNB (ps : List PartB) : Nat := (ps.map (·.n)).sum
def flatB (ps : List PartB) : List Value := (ps.map (·.xs)).flatten
theorem flatB_take_succ {ps : List PartB} {k : Nat} (h : k < ps.length) : flatB (ps.take (k + 1)) = flatB (ps.take k) ++ (ps.getD k .none).xs := by
  unfold flatB
  rw [List.take_add_one, List.map_append, List.flatten_append]
  simp [h]
theorem flatNB_take_succ {ps : List PartB} {k : Nat} (h : k < ps.length) : flatNB (ps.take (k + 1)) = flatNB (ps.take k) + (ps.getD k .none).n := by
  unfold flatNB
  rw [List.take_add_one, List.map_append, List.sum_append]
  simp [h]
theorem flatNB_take_le (ps : List PartB) (k : Nat) : flatNB (ps.take k) ≤ flatNB ps := by
  conv => rhs; rw [← List.take_append_drop k ps]
  unfold flatNB
  rw [List.map_append, List.sum_append]
  omega

/-- The parts lie in the block b, one behind the other, and read. -/
def PartsAtB (w : World) (b : Nat) (ps : List PartB) : Prop := b < w.heap.size ∧ ∀ i, i < ps.length → w.cell? ⟨b, i, none⟩ = some (ps.getD i .none).val ∧ Sl w 1 (ps.getD i .none).p (ps.getD i .none).n (ps.getD i .none).cap (ps.getD i .none).xs ∧ ∀ u ∈ (ps.getD i .none).xs, u.oneCell' = true

set_option maxHeartbeats 1000000 in
/-- Concat of slices. -/
theorem concatB_any {w : World} {b : Nat} {ps : List PartB} (hP : PartsAtB w b ps) (hn : ps.length ≤ 1000) (hs : flatNB ps * 1 ≤ 140737488355328) :
    Calls Try.prog 14 #[.slice (some ⟨b, 0, none⟩) ps.length ps.length] w fun e w' => ∃ p' cap', e = .returned (.slice p' (flatNB ps) cap') ∧ w'.ownsRow w.heap.size 5 1 (.slice p' (flatNB ps) cap') (flatNB ps) (flatB ps) ∧ Below w.heap.size w w' := by
  obtain ⟨i0, hi, hz0, hz1, hz2⟩ := info_parts infoCB
  go_enter Try.func14, Try.ntmps14
  go_wp2_with fail
  go_loopw [3, 11] (fun t s wr => ∃ k : Nat, k ≤ ps.length ∧ s = .int .i64 k ∧ t = .int .i64 (flatNB (ps.take k)) ∧ Below w.heap.size w wr) (fun _ s _ => ps.length - (intOf s).toNat)
  case atStart => exact ⟨0, Nat.zero_le _, rfl, rfl, Below.refl _ _⟩
  case round =>
    obtain ⟨k, hk, rfl, rfl, hbl⟩ := hrel
    by_cases hlt : k < ps.length
    · obtain ⟨hc, hS, -⟩ := hP.2 k hlt
      rw [← hbl.cell hP.1] at hc
      have hf := flatNB_take_succ hlt
      have hle := flatNB_take_le ps (k + 1)
      rw [hf] at hle
      have HF := Lib.hid hf; clear hf
      have hxl := hS.le
      clear hS
      unfold PartB.val at hc
      generalize ps.getD k .none = x at *
      obtain ⟨xp, xn, xc, xl⟩ := x
      dsimp only at *
      have hq : decide (((flatNB (ps.take k) : Int) + xn) < 0) = false := decide_eq_false (by omega)
      have hn1 : flatNB (ps.take k) + xn ≤ 9223372036854775807 := by omega
      go_wp2_with fail
      go_roundw
      case rel =>
        refine ⟨k + 1, by omega, by go_num, ?_, hbl⟩
        rw [HF.out]
        go_num
      case measure => simp [intOf]; omega
    · obtain rfl : k = ps.length := by omega
      rw [List.take_length]
      go_wp2_with (go_at_call 18; refine (growB_any _ hs).mono ?_; rintro e w1 ⟨p1, c1, rfl, hown, hb1⟩)
      replace hown := own_mono hown hbl.size
      replace hbl := hbl.trans (hb1.mono hbl.size)
      clear hb1
      go_loopw [6, 27] (fun v s wr => ∃ k p c, k ≤ ps.length ∧ s = .int .i64 (k : Nat) ∧ v = .slice p (flatNB (ps.take k)) c ∧ wr.ownsRow w.heap.size 5 1 (.slice p (flatNB (ps.take k)) c) (flatNB (ps.take k)) (flatB (ps.take k)) ∧ Below w.heap.size w wr) (fun _ s _ => ps.length - (intOf s).toNat)
      case atStart => exact ⟨0, _, _, Nat.zero_le _, rfl, rfl, hown, hbl⟩
      case round =>
        clear hown hbl
        obtain ⟨k, p, c, hk, rfl, rfl, hown, hbl⟩ := hrel
        by_cases hlt : k < ps.length
        · obtain ⟨hc, hS, h1⟩ := hP.2 k hlt
          rw [← hbl.cell hP.1] at hc
          replace hS := hS.below (hbl)
          have hf := flatNB_take_succ hlt
          have hf2 := flatB_take_succ hlt
          have hle := flatNB_take_le ps (k + 1)
          rw [hf] at hle
          have HF := Lib.hid hf; have HF2 := Lib.hid hf2; clear hf hf2
          unfold PartB.val at hc
          generalize ps.getD k .none = x at *
          obtain ⟨xp, xn, xc, xl⟩ := x
          dsimp only at *
          have hsz := hbl.size
          have H1 := Lib.hid h1; clear h1
          go_wp2_with (at_builtin; refine wpList_append_sl _ rfl _ _ 24 rfl w.heap.size 5 i0 (.int .u8 0) 1 1 Try.underlying24 hi hz0 hz1 hz2 rfl (by decide) _ _ _ rfl hown _ _ _ _ rfl hS H1.out (by omega) (by omega) hsz ?_; intro p' c' w2 hown2 hbel2)
          go_roundw
          case rel =>
            refine ⟨k + 1, p', c', by omega, by go_num, ?_, ?_, hbl.trans hbel2⟩
            · rw [HF.out]
            · rw [HF.out, HF2.out]
              exact hown2
          case measure => simp [intOf]; omega
        · obtain rfl : k = ps.length := by omega
          rw [List.take_length] at *
          go_wp2_with fail
          go_ret
          exact ⟨_, _, rfl, hown, hbl⟩

/-- One slice of a list. -/
def OkB (w : World) (x : PartB) : Prop := Sl w 1 x.p x.n x.cap x.xs ∧ ∀ u ∈ x.xs, u.oneCell' = true
theorem parts3B {w : World} {b : Nat} {x y z : PartB} (hb : b < w.heap.size) (h0 : w.cell? ⟨b, 0, none⟩ = some x.val) (h1 : w.cell? ⟨b, 1, none⟩ = some y.val) (h2 : w.cell? ⟨b, 2, none⟩ = some z.val) (hx : OkB w x) (hy : OkB w y) (hz : OkB w z) : PartsAtB w b [x, y, z] := by
  refine ⟨hb, fun i hi => ?_⟩
  match i, hi with
  | 0, _ => exact ⟨h0, hx⟩
  | 1, _ => exact ⟨h1, hy⟩
  | 2, _ => exact ⟨h2, hz⟩
  | _ + 3, h => exact absurd h (by simp)
theorem parts2B {w : World} {b : Nat} {x y : PartB} (hb : b < w.heap.size) (h0 : w.cell? ⟨b, 0, none⟩ = some x.val) (h1 : w.cell? ⟨b, 1, none⟩ = some y.val) (hx : OkB w x) (hy : OkB w y) : PartsAtB w b [x, y] := by
  refine ⟨hb, fun i hi => ?_⟩
  match i, hi with
  | 0, _ => exact ⟨h0, hx⟩
  | 1, _ => exact ⟨h1, hy⟩
  | _ + 2, h => exact absurd h (by simp)
end Go.Proofs.Ytnpfkhaaogjhlaa
