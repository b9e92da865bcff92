/-
  slices.Repeat of one number.
-/
import Derived.Test.YtbnmpagjfihjjaaInts
import Derived.Test.YtbnmpagjfihjjaaPlan
import Derived.Test.YtbnmpagjfihjjaaOwnI
import Derived.Test.YtbnmpagjfihjjaaShelf
import Derived.Shelf.Bits.Mul64
import Derived.Laws.CopyOwn
import Derived.Deep.RegionLaw
import Derived.Lib.Hide
namespace Go.Proofs.Ytbnmpagjfihjjaa
open Go.RowKit

theorem mul_one_any (n : Nat) (hn : n ≤ 100000) (w : World) :
    Calls Try.prog 37 #[.int .u64 1, .int .u64 n] w fun e w' => e = .returned (.tuple #[.int .u64 0, .int .u64 n]) ∧ w = w' := by
  refine (show Calls Try.prog 37 #[.int .u64 (1 : Nat), .int .u64 n] w _ from Any.bits_Mul Try.mul 1 n (by decide) (by omega) w).mono ?_
  rintro e w' ⟨rfl, rfl⟩
  refine ⟨?_, rfl⟩
  rw [Nat.one_mul, Nat.div_eq_of_lt (by omega), Nat.mod_eq_of_lt (by omega)]
  rfl
theorem infoI_size : (Try.prog.info? 3).map (·.size) = some 1 := by kernel_rfl
def repL (v : Int) (m n : Nat) : List Int := List.replicate m v ++ List.replicate (n - m) 0
theorem splice_rep {v : Int} {m n q : Nat} (h : m + q ≤ n) : splice (ints .i64 (repL v m n)) m (ints .i64 (List.replicate q v)) = ints .i64 (repL v (m + q) n) := by
  unfold splice repL
  rw [ints_length, ← ints_take, ← ints_drop, ← ints_append, ← ints_append]
  congr 1
  rw [List.take_left' (by simp), List.drop_append, List.drop_eq_nil_of_le (by simp), List.nil_append]
  simp only [List.length_replicate, List.drop_replicate]
  rw [← List.replicate_append_replicate, List.append_assoc]
  congr 3
  omega
theorem block_of_own {w : World} {base U n : Nat} {l : List Int} (h : w.ownsRow base 3 1 (.slice (some ⟨U, 0, none⟩) n n) n (ints .i64 l)) : w.heap[U]? = some (.cells (ints .i64 l).toArray 3 (0, 0)) := by
  rcases h.2 with ⟨hv, _⟩ | ⟨g, cap, cur, hv, hb, hgg, hnc, hm, hs, ht⟩
  · cases hv
  · cases hv
    rw [List.take_of_length_le (by simp [hs])] at ht
    rw [hgg, ← ht]
theorem own_of_block {w : World} {base U n : Nat} {l : List Int} (hb : base ≤ U) (hn : l.length = n) (h63 : n ≤ 9223372036854775807) (h : w.heap[U]? = some (.cells (ints .i64 l).toArray 3 (0, 0))) : w.ownsRow base 3 1 (.slice (some ⟨U, 0, none⟩) n n) n (ints .i64 l) := by
  subst hn
  exact ⟨by simp, .inr ⟨U, l.length, _, rfl, hb, h, Nat.le_refl _, h63, by simp, by rw [List.toList_toArray, Nat.mul_one]; exact List.take_of_length_le (by simp)⟩⟩

theorem src_of {w : World} {p : Option Addr} {c n : Nat} {l : List Int} (h : Sl w 1 p n c (ints .i64 l)) (h0 : 0 < l.length) : ∃ ad, p = some ad ∧ ∀ (j : Nat) u, (ints .i64 l)[j]? = some u → w.cell? (ad.add j) = some u := by
  obtain ⟨b, off, hp, -, -⟩ := h.row.cons (by simpa using h0)
  subst hp
  exact ⟨_, rfl, fun j u hj => by rw [add_lit']; exact h.row.at_ hj⟩
set_option maxHeartbeats 2000000 in
theorem repeat_any {W : World} {p : Option Addr} {c n : Nat} {v : Int} (hR : SlI W p c [v]) (h1 : 1 ≤ n) (hn : n ≤ 100000) :
    Calls Try.prog 29 #[.slice p 1 c, .int .i64 n] W fun e w' => e = .returned (.slice (some ⟨W.heap.size, 0, none⟩) n n) ∧ w'.ownsRow W.heap.size 3 1 (.slice (some ⟨W.heap.size, 0, none⟩) n n) n (ints .i64 (List.replicate n v)) ∧ Below W.heap.size W w' := by
  obtain ⟨i0, hi0, hz0, hz1, hz2⟩ := info_parts infoI
  have hmul := mul_one_any n hn
  have HM := Lib.hid hmul; clear hmul
  have hc1 : 1 ≤ c := hR.le
  have hc63 := hR.big
  go_enter Try.func29, Try.ntmps29
  go_wp2_with fail
  refine (HM.out _).mono ?_
  rintro _ w1 ⟨rfl, rfl⟩
  have hz : repL v 0 n = List.replicate n 0 := by simp [repL]
  have HZ := Lib.hid hz; clear hz
  go_wp2_with (first | (at_make; refine wpList_make_full _ rfl _ _ 22 rfl W.heap.size 3 i0 (.int .i64 0) 1 Try.underlying22 hi0 hz0 hz1 .i64 .i64 _ _ n rfl rfl rfl rfl (by rw [hz2]; omega) (by unfold maxLen; omega) (Nat.le_refl _) ?_; intro w1 hown hg; rw [made_ints, ← HZ.out] at hown; have hblk := block_of_own hown; have hb1 := below_none hg; have hR1 := hR.below hb1; clear hown hg) | (refine wpList_copy_splice rfl _ _ 22 22 rfl 3 Try.underlying22 infoI_size (some ⟨W.heap.size, 0, none⟩) p n n 1 c rfl rfl W.heap.size 0 (ints .i64 (repL v 0 n)) 3 hblk (ints .i64 (List.replicate 1 v)) (by simp [Nat.min_eq_left h1]) (fun _ => ⟨rfl, src_of hR1 (by simp)⟩) (by simp [repL]; omega) ints_one W.heap.size W hb1 (Nat.le_refl _) ?_; clear hblk hb1 hR1; intro w2 HG2 HB2))
  have hG1 := HG2.out
  rw [splice_rep (by omega), Nat.zero_add] at hG1
  have HG1 := Lib.hid hG1; clear hG1 HG2 HM HZ hR
  generalize hbn : W.heap.size = U at *
  go_loopw [8] (fun s wr => ∃ m : Nat, m ≤ n ∧ 1 ≤ m ∧ s = .int .i64 m ∧ Below U W wr ∧ Hid (wr.heap[U]? = some (.cells (ints .i64 (repL v m n)).toArray 3 (0, 0)))) (fun s _ => n - (intOf s).toNat)
  case atStart => exact ⟨1, h1, Nat.le_refl _, rfl, HB2, HG1⟩
  case round =>
    clear HB2 HG1
    obtain ⟨m, hm, hm1, rfl, hbl, hG⟩ := hrel
    by_cases hlt : m < n
    · have hq : ∃ q, q = Nat.min m (n - m) ∧ 1 ≤ q ∧ m + q ≤ n := ⟨_, rfl, by simp only [Nat.min_def]; split <;> omega, by simp only [Nat.min_def]; split <;> omega⟩
      obtain ⟨q, hq1, hq2, hq3⟩ := hq
      have HQ := Lib.hid hq1; clear hq1
      have hbd := hbl.drew
      have hG' : wr.drew.heap[U]? = some (.cells (ints .i64 (repL v m n)).toArray 3 (0, 0)) := hG.out
      have hsrc : ∃ ad, (some ⟨U, 0, none⟩ : Option Addr) = some ad ∧ ∀ (j : Nat) u, (ints .i64 (List.replicate q v))[j]? = some u → wr.drew.cell? (ad.add j) = some u := by
        have ho := own_of_block (base := U) (n := n) (Nat.le_refl _) (by unfold repL; simp only [List.length_append, List.length_replicate]; omega) (by omega) hG'
        obtain ⟨ad, ha, hc⟩ := src_of (Sl.of_own ho) (by simp [repL]; omega)
        refine ⟨ad, ha, fun j u hj => hc j u ?_⟩
        have hj1 := (List.getElem?_eq_some_iff.1 hj).1
        simp at hj1
        have hqm : q ≤ m := by rw [HQ.out]; exact Nat.min_le_left _ _
        rw [← hj]
        unfold repL ints
        simp [hj1, List.getElem?_append, show j < m by omega]
      have HSRC := Lib.hid hsrc; have HGD := Lib.hid hG'; clear hsrc hG' hG
      have hcm : ¬ n = m := by omega
      have hqn : q ≤ n := by omega
      go_wp2_with fail
      have hw : IntKind.i64.wrap ((m : Int) + q) = m + q := IntWalk.i64_in _ (by omega)
      refine wp_region_plan (fun _ => True) (.one [0, 1, 2, 3, 4, 5, 6] 7 (.last [8, 9])) rfl (by kernel_rfl) (by kernel_rfl) (by kernel_rfl) trivial ?_
      change wpPlan _ _ _ _ _ _ wr.drew
      refine wpPlan_one fun K hK => ?_
      have HK := Lib.hid hK; clear hK
      simp only [pick, List.getD_cons_succ, List.getD_cons_zero]
      iterate 7 (go_big_quiet_step (fail))
      refine wpQuiet_nil ?_
      go_wp2_with (refine wpList_copy_splice rfl _ _ 22 22 rfl 3 Try.underlying22 infoI_size (some ⟨U, m, none⟩) (some ⟨U, 0, none⟩) (n - m) (n - m) m n rfl rfl U m (ints .i64 (repL v m n)) 3 HGD.out (ints .i64 (List.replicate q v)) (by rw [ints_length, List.length_replicate]; exact HQ.out) (fun _ => ⟨rfl, HSRC.out⟩) (by simp [repL]; omega) ints_one U W hbd (Nat.le_refl _) ?_; intro w4 hg4 hb4)
      go_frame
      refine ⟨trivial, HK.out _ _ ?_⟩
      clear HK K HSRC HGD
      refine wpPlan_last ?_
      simp only [pick, List.getD_cons_succ, List.getD_cons_zero]
      iterate 2 (go_big_quiet_step (fail))
      refine wpQuiet_nil ?_
      refine NoPanic.normal ?_
      have hs2 := hg4.out
      rw [splice_rep hq3] at hs2
      have HS2 := Lib.hid hs2
      clear hs2 hg4
      clear hcm hw
      go_wp2_with fail
      go_roundw
      case rel => exact ⟨m + q, by omega, by omega, by go_num, hb4, HS2⟩
      case measure => simp [intOf]; omega
    · obtain rfl : n = m := by omega
      have hG2 := own_of_block (base := U) (Nat.le_refl _) (n := n) (by simp [repL]) (by omega) hG.out
      rw [show repL v n n = List.replicate n v by simp [repL]] at hG2
      have HG2 := Lib.hid hG2; clear hG2 hG
      go_wp2_with fail
      go_ret
      rw [hbn]
      exact ⟨rfl, HG2.out, hbl⟩
end Go.Proofs.Ytbnmpagjfihjjaa
