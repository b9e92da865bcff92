/-
  right, count, Max, without, Count.
-/
import Derived.Test.YtbnmpagjfihjjaaMult
import Derived.Test.YtbnmpagjfihjjaaInts
import Derived.Test.YtbnmpagjfihjjaaOwnI
import Derived.Test.YtbnmpagjfihjjaaClone
import Derived.Deep.QuietTactic
import Derived.BigQuiet
import Derived.Lib.Hide
namespace Go.Proofs.Ytbnmpagjfihjjaa
open Go.RowKit

def nl (ps : List Nat) : List Int := ps.map fun n : Nat => (n : Int)
@[simp] theorem nl_len (ps : List Nat) : (nl ps).length = ps.length := by simp [nl]
theorem nl_getD (ps : List Nat) (i : Nat) : (nl ps).getD i 0 = ((ps.getD i 0 : Nat) : Int) := by
  unfold nl
  rw [List.getD_eq_getElem?_getD, List.getElem?_map, List.getD_eq_getElem?_getD]
  cases ps[i]? <;> rfl
def rightM (l : List Int) : Int := if 8 < l.length then 2 else if (l.any fun x => decide (x < 0)) then 1 else if 12 < l.sum then 2 else 0
theorem rightM_ok {l : List Int} (h : rightM l = 0) : ∃ ps : List Nat, l = nl ps ∧ ps.length ≤ 8 ∧ ps.sum ≤ 12 := by
  unfold rightM at h
  split at h
  · cases h
  · next h8 =>
    split at h
    · cases h
    · next hn =>
      split at h
      · cases h
      · next hs =>
        have hl : l = nl (l.map Int.toNat) := by
          unfold nl
          rw [List.map_map]
          refine (List.map_id l).symm.trans (List.map_congr_left fun x hx => ?_)
          have : ¬ x < 0 := fun hx0 => hn (by rw [List.any_eq_true]; exact ⟨x, hx, by simpa using hx0⟩)
          simp only [id, Function.comp]
          omega
        refine ⟨l.map Int.toNat, hl, by simpa using h8, ?_⟩
        have : ∀ ps : List Nat, (nl ps).sum = ((ps.sum : Nat) : Int) := fun ps => by
          induction ps with
          | nil => rfl
          | cons p ps ih => simp only [nl, List.map_cons, List.sum_cons] at ih ⊢; rw [ih]; simp
        rw [hl, this] at hs
        omega

set_option maxHeartbeats 2000000 in
theorem right_any {w : World} {p : Option Addr} {cap : Nat} {l : List Int} (hS : SlI w p cap l) :
    Calls Try.prog 16 #[.slice p l.length cap] w fun e w' => e = .returned (.int .i64 (rightM l)) ∧ Below w.heap.size w w' := by
  have l1 := Sl.le hS
  have l2 := Sl.big hS
  unfold rightM
  by_cases h8 : 8 < l.length
  · rw [if_pos h8]
    have h8z : (8 : Int) < (l.length : Int) := by omega
    go_enter Try.func16, Try.ntmps16
    go_wp2
    go_ret
    exact ⟨rfl, Below.refl _ _⟩
  · rw [if_neg h8]
    have h8z : ¬ (8 : Int) < (l.length : Int) := by omega
    have HS := Lib.hid hS
    clear hS
    obtain ⟨R, hR⟩ : ∃ R : Int, R = (if (l.any fun x => decide (x < 0)) then 1 else if 12 < l.sum then 2 else 0) := ⟨_, rfl⟩
    rw [← hR]
    have HR := Lib.hid hR
    clear hR
    go_enter Try.func16, Try.ntmps16
    go_wp2_with fail
    go_loopw [3, 11] (fun u s wr => ∃ (k : Nat) (x : Int), k ≤ l.length ∧ s = .int .i64 k ∧ u = .int .i64 x ∧ 0 ≤ x ∧ x ≤ 99 ∧ Below w.heap.size w wr ∧ Hid ((∀ j, j < k → 0 ≤ l.getD j 0) ∧ x = min (l.take k).sum 99)) (fun _ s _ => l.length - (intOf s).toNat)
    case atStart => exact ⟨0, 0, Nat.zero_le _, rfl, rfl, by omega, by omega, Below.refl _ _, ⟨fun j h => by omega, rfl⟩⟩
    case round =>
      obtain ⟨k, x, hk, rfl, rfl, hx0, hx1, hbl, hx⟩ := hrel
      by_cases hlt : k < l.length
      · obtain ⟨b, off, rfl, hb, hc⟩ := Sl.int_at HS.out hlt
        have hc' := (hbl.cell (p := ⟨b, off + k, none⟩) hb).trans hc
        have hmem : l.getD k 0 ∈ l := by rw [List.getD_eq_getElem?_getD, List.getElem?_eq_getElem hlt]; exact List.getElem_mem _
        have hts : (l.take (k + 1)).sum = (l.take k).sum + l.getD k 0 := by
          rw [List.take_add_one, List.sum_append, List.getD_eq_getElem?_getD, List.getElem?_eq_getElem hlt]; simp
        have hnn : 0 ≤ l.getD k 0 → ∀ j, j < k + 1 → 0 ≤ l.getD j 0 := fun h j hj => by
          rcases Nat.lt_or_ge j k with h1 | h1
          · exact hx.out.1 j h1
          · rw [show j = k from by omega]; exact h
        have HM := Lib.hid hmem; have HTS := Lib.hid hts; have HN := Lib.hid hnn
        clear hc hmem hts hnn
        generalize l.getD k 0 = y at *
        by_cases hy : y < 0
        · go_wp2_with fail
          go_ret
          refine ⟨ret_int ?_, hbl⟩
          rw [HR.out, if_pos (by rw [List.any_eq_true]; exact ⟨y, HM.out, by simpa using hy⟩)]
        · obtain ⟨z, hz⟩ : ∃ z, z = min (x + min y 99) 99 := ⟨_, rfl⟩
          have HZ := Lib.hid hz
          clear hz
          go_wp2_with fail
          all_goals go_roundw
          all_goals first
            | (case measure => simp [intOf]; omega)
            | (case rel =>
                refine ⟨k + 1, z, by omega, by go_num, by first | (congr 1; have := HZ.out; omega) | (have := HZ.out; simp; omega), by have := HZ.out; omega, by have := HZ.out; omega, hbl, ⟨HN.out (by omega), ?_⟩⟩
                have h1 := HZ.out
                have h2 := hx.out.2
                rw [HTS.out]
                have h3 : 0 ≤ (l.take k).sum := by omega
                omega)
      · obtain rfl : k = l.length := by omega
        have hno : ¬ (l.any fun x => decide (x < 0)) = true := by
          rw [Bool.not_eq_true, List.any_eq_false]
          intro y hy
          obtain ⟨i, hi, rfl⟩ := List.getElem_of_mem hy
          have := hx.out.1 i hi
          rw [List.getD_eq_getElem?_getD, List.getElem?_eq_getElem hi] at this
          simp at this ⊢
          exact this
        have hsum := hx.out.2
        rw [List.take_length] at hsum
        have hr := HR.out
        rw [if_neg hno] at hr
        clear hno hx HR
        by_cases h12 : 12 < x
        · rw [if_pos (by omega)] at hr
          have Hr := Lib.hid hr
          clear hr hsum
          go_wp2_with fail
          go_ret
          exact ⟨ret_int Hr.out.symm, hbl⟩
        · rw [if_neg (by omega)] at hr
          have Hr := Lib.hid hr
          clear hr hsum
          go_wp2_with fail
          go_ret
          exact ⟨ret_int Hr.out.symm, hbl⟩
end Go.Proofs.Ytbnmpagjfihjjaa
