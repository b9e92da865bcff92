/-
  The walk of on.
-/
import Derived.Test.YtjabhkpifpcccaaBack
import Derived.Test.YtjabhkpifpcccaaStoreC
namespace Go.Proofs.Ytjabhkpifpcccaa
open Go.RowKit Go.Sort

def onStep (ps : List Pt) (s : List Bool) (k : Nat) : List Bool := s.set k ((usesAt ps k).any fun n => s.getD n.toNat false)
def onTo (ps : List Pt) (i : Nat) : Nat → List Bool
  | 0 => (List.replicate ps.length false).set i true
  | m + 1 => onStep ps (onTo ps i m) (i + 1 + m)
def onL (ps : List Pt) (i : Nat) : List Bool := onTo ps i (ps.length - (i + 1))
@[simp] theorem onTo_length (ps : List Pt) (i m : Nat) : (onTo ps i m).length = ps.length := by
  induction m with
  | zero => simp [onTo]
  | succ m ih => unfold onTo onStep; rw [List.length_set, ih]

/-- 'in[n]', asked of a place that is there. -/
theorem on1_pred {W : World} {B base g : Nat} {st : List Bool} (hB : Blk W B #[.slice (some ⟨g, 0, none⟩) st.length st.length] 47) (hS : OwnBl W base g st) :
    PredV W 27 #[.pointer (some ⟨B, 0, none⟩)] (Value.int .i64) (fun _ x => 0 ≤ x ∧ x < st.length) (fun n => st.getD n.toNat false) := by
  refine ⟨enters_own Try.func27 (by kernel_rfl) rfl, fun w' hb x hx => ?_⟩
  have hc := (hB.next hb).cell 0
  change w'.cell? ⟨B, 0, none⟩ = some (.slice (some ⟨g, 0, none⟩) st.length st.length) at hc
  obtain ⟨y, rfl⟩ := Int.eq_ofNat_of_zero_le hx.1
  have hyl : y < st.length := by omega
  have hyl' : (y : Int) < (st.length : Int) := by omega
  have hcc := (hS.below hb).cell hyl
  rw [Int.toNat_natCast]
  generalize st.getD y false = old at *
  go_enter Try.func27, Try.ntmps27
  go_wp2
  go_ret
  exact ⟨rfl, Below.refl _ _⟩

set_option maxRecDepth 100000 in
set_option maxHeartbeats 2000000 in
theorem on_any {w : World} {p : Option Addr} {cap : Nat} {ps : List Pt} (hR : Deps w p cap ps) (hO : OkD ps) (i : Nat) (hi : i < ps.length) :
    Calls Try.prog 20 #[.slice p ps.length cap, .int .i64 i] w fun e w' => ∃ g, e = .returned (.slice (some ⟨g, 0, none⟩) ps.length ps.length) ∧ OwnBl w' w.heap.size g (onL ps i) ∧ Below w.heap.size w w' := by
  obtain ⟨i0, hi0, hz0, hz1, hz2⟩ := info_parts infoBl
  have h200 := hO.1
  go_enter Try.func20, Try.ntmps20
  go_wp2_with (at_make; refine wpList_make_full _ rfl _ _ 47 rfl w.heap.size 4 i0 (.bool false) 1 Try.underlying47 hi0 hz0 hz1 .i64 .i64 _ _ ps.length rfl rfl rfl rfl (by rw [hz2]; omega) (by unfold maxLen; omega) (Nat.le_refl _) ?_; intro w1 hown hg; have hB1 := ownBl_made hown; have hal := (Below.refl w1.heap.size w1).alloc (Nat.le_refl _) (.cells #[.slice (some ⟨w.heap.size, 0, none⟩) ps.length ps.length] 47); have hB2 := hB1.below hal; have hc0 := hB2.cell (i := i) (by simpa using hi); have hf0 := hB2.frozen i)
  have hb1 := below_of_none hg
  have hX := Blk.mk_ w1 #[.slice (some ⟨w.heap.size, 0, none⟩) ps.length ps.length] 47 rfl
  have hX' := hX.other (.bool true) (C := w.heap.size) (k := i) (by have := hB1.ge.2; omega)
  have hB3 := hB2.set i true
  have hb2 := (hb1.trans (hal.mono hb1.size)).setCell (p := ⟨w.heap.size, i, none⟩) (Nat.le_refl _) (.bool true)
  have hBx : w.heap.size < w1.heap.size := hB1.ge.2
  generalize w1.heap.size = B at *
  generalize (w1.alloc (.cells #[.slice (some ⟨w.heap.size, 0, none⟩) ps.length ps.length] 47)).setCell ⟨w.heap.size, i, none⟩ (.bool true) = w2 at *
  clear hown hg hc0 hf0 hB1 hb1 hX hal hB2
  go_loopw [6] (fun s wr => ∃ (m : Nat), i + 1 + m ≤ ps.length ∧ s = .int .i64 ((i + 1 + m : Nat) : Int) ∧ OwnBl wr w.heap.size w.heap.size (onTo ps i m) ∧ Blk wr B #[.slice (some ⟨w.heap.size, 0, none⟩) ps.length ps.length] 47 ∧ Below w.heap.size w wr) (fun s _ => ps.length - (intOf s).toNat)
  case atStart => exact ⟨0, by omega, by go_num, hB3, hX', hb2⟩
  case round =>
    clear hB3 hb2 hX'
    obtain ⟨m, hm, rfl, hB, hX, hb⟩ := hrel
    have hl := onTo_length ps i m
    have hstep : onTo ps i (m + 1) = onStep ps (onTo ps i m) (i + 1 + m) := rfl
    have hfin : i + 1 + m = ps.length → onTo ps i m = onL ps i := fun h => by unfold onL; congr 1; omega
    have Hstep := Lib.hid hstep; have Hfin := Lib.hid hfin; clear hstep hfin
    obtain ⟨k, hkk⟩ : ∃ k, i + 1 + m = k := ⟨_, rfl⟩
    rw [hkk] at Hstep Hfin hm ⊢
    generalize onTo ps i m = st at *
    have Hkk := Lib.hid hkk; clear hkk
    rcases Nat.lt_or_ge k ps.length with hlt | hge
    · have hlt' : (k : Int) < (ps.length : Int) := by omega
      obtain ⟨b, off, rfl, hbb, hcc, hpt⟩ := hR.at_ hlt
      have hcu := (hb.cell (p := ⟨b, off + k, none⟩) hbb).trans hcc
      have hpt' := Sl.below hpt hb
      have hrange := hO.2 k hlt
      have hus : usesAt ps k = (ps.getD k .none).l := rfl
      unfold onStep at Hstep
      rw [hus] at Hstep
      clear hus hcc hpt
      generalize ps.getD k .none = x at *
      obtain ⟨xp, xc, xl⟩ := x
      dsimp only [Pt.val] at *
      rw [← hl] at hX
      have Hl := Lib.hid hl; clear hl
      have hpred := on1_pred hX hB
      have hrg : ∀ y ∈ xl, 0 ≤ y ∧ y < (st.length : Int) := fun y hy => by have := hrange y hy; have := Hl.out; omega
      have hcall := fun W (h : Below wr.heap.size wr W) => containsI_any (hpred.next h) (Sl.below hpt' h) (fun w' _ x hx => hrg x hx)
      have HC := Lib.hid hcall; clear hcall hpred hrange hrg
      have hkst : k < st.length := by have := Hl.out; omega
      have hci := hB.cell (i := k) hkst
      have hX0 := hX.cell 0
      change wr.cell? ⟨B, 0, none⟩ = some (.slice (some ⟨w.heap.size, 0, none⟩) st.length st.length) at hX0
      generalize hval : (xl.any fun n => st.getD n.toNat false) = val at *
      have Hval := Lib.hid hval; clear hval
      have r0 := cell_setO (b' := w.heap.size) (o' := k) hX0 (by omega)
      have r1 := cell_setO (b' := w.heap.size) (o' := k) hcu (by omega)
      have hlt2 : (k : Int) < (st.length : Int) := by have := Hl.out; omega
      have hold : ∃ o, st.getD k false = o := ⟨_, rfl⟩
      go_wp2_with fail
      refine wp_region_plan (fun w' => ∃ p : G3, w' = setO (grow (redrawn wr p.d) p.os) ⟨w.heap.size, k, none⟩ p.v) (.one [0, 1, 2, 3, 4, 5, 6, 7] 8 (.one [9] 10 (.last []))) rfl (by kernel_rfl) (by kernel_rfl) (by kernel_rfl) (g3_of_below _ (Below.refl _ _).drew) ?_
      change wpPlan _ _ _ _ _ _ wr.drew
      refine wpPlan_one fun K hK => ?_
      have HK := Lib.hid hK; clear hK
      simp only [pick, List.getD_cons_succ, List.getD_cons_zero]
      iterate 8 (go_big_quiet_step (fail))
      refine wpQuiet_nil ?_
      go_wp2_with fail
      refine (HC.out _ (Below.refl _ _).drew).mono ?_
      rintro _ wa ⟨rfl, hba⟩
      have hbd := ((Below.refl wr.heap.size wr).drew).trans hba
      clear hba HC
      have hBa := hB.below hbd
      have hXa := hX.next hbd
      have hca := hBa.cell (i := k) hkst
      have hfa := hBa.frozen k
      generalize st.getD k false = old at *
      go_wp2_with fail
      refine ⟨g3_of_below _ hbd, HK.out _ _ ?_⟩
      clear HK K
      refine wpPlan_one fun K hK => ?_
      have HK := Lib.hid hK; clear hK
      simp only [pick, List.getD_cons_succ, List.getD_cons_zero]
      go_big_quiet_step (fail)
      refine wpQuiet_nil ?_
      go_wp2_with fail
      refine ⟨g3_of_set _ _ hbd, HK.out _ _ ?_⟩
      clear HK K
      refine wpPlan_last ?_
      simp only [pick]
      refine wpQuiet_nil ?_
      refine NoPanic.normal ?_
      have hB5 := hBa.set k val
      have hX5 := hXa.other (.bool val) (C := w.heap.size) (k := k) (by omega)
      have hb5 := (hb.trans (hbd.mono hb.size)).setCell (p := ⟨w.heap.size, k, none⟩) (Nat.le_refl _) (.bool val)
      rw [Hl.out] at hX5
      generalize wa.setCell ⟨w.heap.size, k, none⟩ (.bool val) = w6 at *
      go_wp2_with fail
      go_roundw
      case rel =>
        refine ⟨m + 1, by have := Hkk.out; omega, by have := Hkk.out; go_num, ?_, hX5, hb5⟩
        rw [Hstep.out]
        exact hB5
      case measure => simp [intOf]; omega
    · obtain rfl : k = ps.length := by omega
      have hx0 := hX.cell 0
      change wr.cell? ⟨B, 0, none⟩ = some (.slice (some ⟨w.heap.size, 0, none⟩) ps.length ps.length) at hx0
      have hf := Hfin.out rfl
      subst hf
      go_wp2_with fail
      go_ret
      exact ⟨_, rfl, hB, hb⟩
end Go.Proofs.Ytjabhkpifpcccaa
