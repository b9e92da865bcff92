/-
  A byte read; a text read.
-/
import Derived.Test.YthdleldnjoamlaaRead
namespace Go.Proofs.Ythdleldnjoamlaa
open Go.RowKit

theorem RdrI.set1 {rp : Nat} {W : World} {l : List Int} (h : RdrI rp W l) : RdrI rp (W.setCell ⟨rp, 1, none⟩ (.bool false)) l := by
  obtain ⟨p, c, h1, h2, h3⟩ := h
  refine ⟨p, c, h1.setL 1 (.bool false), ⟨?_, h2.len, h2.le, h2.big, h2.isNil⟩, h3⟩
  by_cases hl : 0 < (ints .i64 l).length
  · obtain ⟨b', off, e, hb, hc⟩ := h2.row.cons hl
    have hlt : b' < rp := h3 _ e
    refine ⟨b', off, fun _ => ⟨e, by simpa using hb⟩, fun i hi => ?_⟩
    rw [← hc i hi]
    exact World.cell?_of_block (Below.heap_setCell W _ _ b' (by show b' ≠ rp; omega))
  · rw [List.eq_nil_of_length_eq_zero (Nat.eq_zero_of_not_pos hl)]
    exact RowAt.nil _ _
set_option maxRecDepth 100000 in
set_option maxHeartbeats 1000000 in
theorem octetR_any {rp : Nat} {W : World} (x : UInt8) {r : List Int} (h : RdrI rp W (byE x ++ r)) :
    Calls Try.prog 48 #[.pointer (some ⟨rp, 0, none⟩)] W fun res W' => res = .returned (.int .u8 (x.toNat : Int)) ∧ RdrI rp W' r ∧ G rp W W' := by
  have hn := num_any (show RdrI rp W ((x.toNat : Int) :: r) from h)
  have hx := x.toNat_lt
  generalize x.toNat = n at *
  have hx2 : n < 256 := by omega
  go_enter Try.func48, Try.ntmps48
  go_wp2_with fail
  refine hn.mono ?_
  rintro _ W1 ⟨rfl, hr1, hg1⟩
  have hr2 := hr1.set1
  obtain ⟨p, c, hB, -, -⟩ := hr1
  have q1 : W1.cell? ⟨rp, 1, none⟩ = some (.bool false) := hB.cell 1
  have f1 := hB.frozen 1
  have t1 : decide ((n : Int) < 0) = false := decide_eq_false (by omega)
  have t2 : decide ((255 : Int) < (n : Int)) = false := decide_eq_false (by omega)
  have t3 : decide (255 < n) = false := decide_eq_false (by omega)
  have t4 : ¬ 255 < n := by omega
  clear hB hn
  go_wp2_with fail
  go_ret
  exact ⟨rfl, hr2, hg1.set _ _⟩
theorem octetR_one (rp : Nat) (S : List TypeId) : OneR rp 48 (fun x : UInt8 => Value.int .u8 (x.toNat : Int)) okT id byE S :=
  ⟨enters_own Try.func48 (by kernel_rfl) rfl, fun _ x _ hr _ => (octetR_any x hr).mono fun _ _ ⟨h1, h2, h3⟩ => ⟨x, h1, rfl, h2, fun _ _ => trivial, h3⟩⟩
theorem by_fm (l : List UInt8) : l.flatMap byCells = l.map fun b => Value.int .u8 (b.toNat : Int) := by
  induction l with
  | nil => rfl
  | cons a l ih => rw [List.flatMap_cons, ih]; rfl
theorem to_string {W : World} {s : Sv UInt8} (h : RdBy W s) : (convert 97 9 s.val).run Try.prog W = .ok (.string ⟨s.l.toArray⟩) W := by
  obtain ⟨p, cap, l⟩ := s
  have hfm := by_fm l
  cases p with
  | none =>
    have h1 := h.row.isNil rfl
    have h2 := h.row.le
    have hl : l = [] := List.eq_nil_of_length_eq_zero (by have : l.length ≤ cap := h2; have : cap = 0 := h1; omega)
    subst hl
    show (convert 97 9 (.slice none 0 cap)).run Try.prog W = _
    rw [run_convert_bytes_string W 97 9 5 none 0 cap Try.underlying97 Try.underlying5 Try.underlying9]
    rfl
  | some a =>
    refine run_convert_bytes_back W 97 9 5 a cap l Try.underlying97 Try.underlying5 Try.underlying9 fun j hj => ?_
    have hrow := h.row.row
    dsimp only at hrow
    rw [hfm] at hrow
    obtain ⟨b, off, e, -, hc⟩ := hrow.cons (by simp; omega)
    cases e
    rw [add_lit', hc j (by simpa using hj)]
    simp [hj]
set_option maxRecDepth 100000 in
set_option maxHeartbeats 1000000 in
theorem textR_one (rp : Nat) (S : List TypeId) : OneR rp 31 Value.string okT txC txE S := by
  refine ⟨enters_own Try.func31 (by kernel_rfl) rfl, fun W x r hr hl => ?_⟩
  have hn := some_By hr (octetR_one rp _) hl
  go_enter Try.func31, Try.ntmps31
  go_wp2_with fail
  refine hn.mono ?_
  rintro _ W1 ⟨s, rfl, hs, hr1, hk, hg⟩
  rw [List.map_id] at hs
  subst hs
  have hcv := to_string (hk W1 (KT.refl _ _))
  clear hk hn
  go_wp2_with fail
  go_ret
  exact ⟨_, rfl, by simp [txC], hr1, fun _ _ => trivial, hg⟩
end Go.Proofs.Ythdleldnjoamlaa
