/-
  Threads: of each thread its events' places.
-/
import Derived.Test.YtpafnadfoedheaaThI
import Derived.Test.YtpafnadfoedheaaPlaces
import Derived.Test.YtpafnadfoedheaaLate
import Derived.Test.YtpafnadfoedheaaSep
import Derived.Test.YtpafnadfoedheaaFast
namespace Go.Proofs.Ytpafnadfoedheaa
open Go.RowKit

def thr (j : Nat) (e : Ev) : Bool := e.t == (j : Int)
def threadsM (l : List Ev) (n : Int) : List (List Int) × Int := if 200 < l.length then ([], 2) else if 0 ≤ n ∧ n ≤ 8 then ((List.range n.toNat).map fun j => plcK (thr j) l l.length, 0) else ([], 1)

set_option maxHeartbeats 8000000 in
set_option maxRecDepth 100000 in
theorem threads_any {w : World} {p : Option Addr} {cap : Nat} {l : List Ev} (nn : Int) (hS : Sl w 12 p l.length cap (evs l)) :
    Calls Try.prog 10 #[.slice p l.length cap, .int .i64 nn] w fun e w' => ∃ s : Sv (Sv Int), e = .returned (.tuple #[s.val, .int .i64 (threadsM l nn).2]) ∧ RdR w' s ∧ s.l.map (·.l) = (threadsM l nn).1 ∧ Below w.heap.size w w' := by
  obtain ⟨i0, hi, hz0, hz1, hz2⟩ := info_parts infoI
  obtain ⟨iS, hiS, sz0, sz1, sz2⟩ := info_parts (show (Try.prog.info? 33).map (fun i => (i.zero, i.size, i.bytes)) = some (some (.slice none 0 0), 1, 24) by kernel_rfl)
  have l1 := hS.big
  have l2 := hS.le
  unfold threadsM
  by_cases hb : 200 < l.length
  · rw [if_pos hb]
    have hbz : (200 : Int) < (l.length : Int) := by omega
    go_enter Try.func10, Try.ntmps10
    go_wp2
    go_ret2
    exact ⟨.none, rfl, Rd.zero _, rfl, Below.refl _ _⟩
  · rw [if_neg hb]
    have hbz : ¬ (200 : Int) < (l.length : Int) := by omega
    by_cases hn : 0 ≤ nn ∧ nn ≤ 8
    · rw [if_pos hn]
      obtain ⟨n, rfl⟩ := Int.eq_ofNat_of_zero_le hn.1
      have hn8 : n ≤ 8 := by omega
      have hn1 : ¬ ((n : Int) < 0) := by omega
      have hn2 : ¬ ((8 : Int) < (n : Int)) := by omega
      rw [Int.toNat_natCast]
      have HS := Lib.hid hS
      clear hS hn
      dsimp only
      go_enter Try.func10, Try.ntmps10
      go_wp2_with (at_make; refine wpList_make_full _ rfl _ _ 36 rfl w.heap.size 33 iS (.slice none 0 0) 1 Try.underlying36 hiS sz0 sz1 .i64 .i64 _ _ n rfl rfl rfl rfl (by rw [sz2]; omega) (by unfold maxLen; omega) (by simp) ?_; intro w1 hown hg)
      have hI := ThI.start hown hg
      clear hown hg
      go_loopw [24] (fun s wr => ∃ (k : Nat) (ps : List (Sv Int)), k ≤ l.length ∧ s = .int .i64 k ∧ ThI w wr n ps ∧ Hid (∀ j, j < n → (ps.getD j .none).l = plcK (thr j) l k)) (fun s _ => l.length - (intOf s).toNat)
      case atStart => exact ⟨0, List.replicate n .none, Nat.zero_le _, rfl, hI, fun j hj => by rw [List.getD_eq_getElem?_getD, List.getElem?_replicate, if_pos hj]; rfl⟩
      case round =>
        clear hI
        obtain ⟨k, ps, hk, rfl, hI, ho⟩ := hrel
        by_cases hlt : k < l.length
        · obtain ⟨b, off, rfl⟩ := HS.out.ptr (by omega) (by decide)
          have E1 := (HS.out.ev_at hlt).below hI.bel (HS.out.row.lt (by simp; omega))
          have hst : ∀ j, plcK (thr j) l (k + 1) = if thr j (l.getD k .z) then plcK (thr j) l k ++ [(k : Int)] else plcK (thr j) l k := fun j => rfl
          generalize l.getD k .z = x at *
          obtain ⟨a0, a1, a2, a3, a4, a5, a6, a7, a8, a9, a10, a11⟩ := E1
          have HST := Lib.hid hst
          clear hst
          obtain ⟨xk, xs, xt, xf, xa, xl, xA, xB, x1, x2, x3, x4⟩ := x
          dsimp only at a0 a1 a2 a3 a4 a5 a6 a7 a8 a9 a10 a11
          by_cases hin : 0 ≤ xt ∧ xt < n
          · obtain ⟨t, rfl⟩ := Int.eq_ofNat_of_zero_le hin.1
            have htn : t < n := by omega
            have htz : (t : Int) < (n : Int) := by omega
            have ht0 : (0 : Int) ≤ (t : Int) := by omega
            have hal := (Below.refl wr.heap.size wr).alloc (Nat.le_refl _) (.cells #[.int .i64 xk, .int .i64 xs, .int .i64 (t : Int), .int .i64 xf, .int .i64 xa, .int .i64 xl, .int .i64 xA, .int .i64 xB, .int .i64 x1, .int .i64 x2, .int .i64 x3, .int .i64 x4] 30)
            have hB := Blk.mk_ wr #[.int .i64 xk, .int .i64 xs, .int .i64 (t : Int), .int .i64 xf, .int .i64 xa, .int .i64 xl, .int .i64 xA, .int .i64 xB, .int .i64 x1, .int .i64 x2, .int .i64 x3, .int .i64 x4] 30 rfl
            have hI1 := hI.below hal
            have hne6 : (ps.getD t .none).val.ownBlock ≠ some wr.heap.size := fun e => by have := ((hI.each t htn).lt _ e).2; omega
            have HNE := Lib.hid hne6
            clear hal hin hne6
            go_wp2_with fail
            have hne6 := HNE.out
            clear HNE
            obtain ⟨row, hrow⟩ : ∃ r, r = ps.getD t .none := ⟨_, rfl⟩
            have hcell := hI1.cell htn
            have hpl : (ps.getD t .none).l.length ≤ k := by rw [ho.out t htn]; exact plcK_len _ _ _
            rw [← hrow] at hcell hpl hne6
            obtain ⟨pp, pc, pl⟩ := row
            dsimp only [Sv.val] at hcell hpl hne6
            have HROW := Lib.hid hrow
            have hzw := hI1.big
            have hBs : wr.heap.size + 1 = (wr.alloc (.cells #[.int .i64 xk, .int .i64 xs, .int .i64 (t : Int), .int .i64 xf, .int .i64 xa, .int .i64 xl, .int .i64 xA, .int .i64 xB, .int .i64 x1, .int .i64 x2, .int .i64 x3, .int .i64 x4] 30)).heap.size := by simp
            have hOB : w.heap.size < wr.heap.size := hI.big
            have hsn : Hid (plcK (thr t) l (k + 1) = pl ++ [(k : Int)]) := by
              have h1 := HST.out t
              rw [if_pos (by simp [thr]), ← ho.out t htn, ← hrow] at h1
              exact h1
            have hso : Hid (∀ j, j < n → j ≠ t → (ps.getD j .none).l = plcK (thr j) l (k + 1)) := fun j hj hne => by
              rw [HST.out j, if_neg, ho.out j hj]
              unfold thr
              simp only [beq_iff_eq]
              omega
            clear hI a0 a1 a2 a3 a4 a5 a6 a7 a8 a9 a10 a11 hrow ho HST
            generalize hBX : wr.heap.size = BX at *
            generalize wr.alloc (.cells #[.int .i64 xk, .int .i64 xs, .int .i64 (t : Int), .int .i64 xf, .int .i64 xa, .int .i64 xl, .int .i64 xA, .int .i64 xB, .int .i64 x1, .int .i64 x2, .int .i64 x3, .int .i64 x4] 30) = wo at *
            obtain ⟨OO, hOO⟩ : ∃ OO, OO = w.heap.size := ⟨_, rfl⟩
            have HBS := Lib.hid hBs
            clear hBs
            rw [← hOO] at hcell hOB ⊢
            have HOO := Lib.hid hOO
            clear hOO
            have hCw : wo.drew.cell? ⟨BX, 2, none⟩ = some (.int .i64 (t : Int)) ∧ wo.drew.cell? ⟨OO, t, none⟩ = some (.slice pp pl.length pc) := ⟨hB.drew.cell 2, hcell⟩
            haveI := cls_ne (C := fun w' => w'.cell? ⟨BX, 2, none⟩ = some (.int .i64 (t : Int)) ∧ w'.cell? ⟨OO, t, none⟩ = some (.slice pp pl.length pc)) hCw
            have y0 := fun p : Cls (fun w' => w'.cell? ⟨BX, 2, none⟩ = some (.int .i64 (t : Int)) ∧ w'.cell? ⟨OO, t, none⟩ = some (.slice pp pl.length pc)) => p.h.1
            have y1 := fun p : Cls (fun w' => w'.cell? ⟨BX, 2, none⟩ = some (.int .i64 (t : Int)) ∧ w'.cell? ⟨OO, t, none⟩ = some (.slice pp pl.length pc)) => p.h.2
            have HY0 := Lib.hid y0
            have HY1 := Lib.hid y1
            have HN6 := Lib.hid hne6
            clear y0 y1 hcell hne6
            refine wp_region_late (fun w' => ∃ p : Cls (fun w' => w'.cell? ⟨BX, 2, none⟩ = some (.int .i64 (t : Int)) ∧ w'.cell? ⟨OO, t, none⟩ = some (.slice pp pl.length pc)), w' = p.w) 12 (.free [0, 1, 3, 4, 8] (.one [2, 5, 6, 7] 9 (.one [] 10 (.free [11] (.late [] (.last [])))))) rfl (by kernel_rfl) (by kernel_rfl) (by kernel_rfl) (cls_mk hCw) ?_
            change wpLate _ _ _ _ _ _ _ wo.drew
            refine wpLate_free fun K hK => ?_
            have HK := Lib.hid hK; clear hK
            simp only [pick, List.getD_cons_succ, List.getD_cons_zero]
            iterate 5 (go_big_quiet_step (fail))
            refine wpQuiet_nil ?_
            refine HK.out _ ?_
            clear HK K
            refine wpLate_one fun K hK => ?_
            have HK := Lib.hid hK; clear hK
            simp only [pick, List.getD_cons_succ, List.getD_cons_zero]
            have y0 := HY0.out
            have y1 := HY1.out
            iterate 4 (go_big_quiet_step (fail))
            clear y0 y1
            refine wpQuiet_nil ?_
            have hI2 := hI1.below (Below.refl wo.heap.size wo).drew
            have hB2 := hB.drew
            have hz2' : BX < wo.drew.heap.size := by have := HBS.out; show _ < wo.heap.size; omega
            clear hI1 hB hCw
            generalize wo.drew = wd at *
            go_wp2_with fail
            have hal2 := (Below.refl wd.heap.size wd).alloc (Nat.le_refl _) (.cells #[.int .i64 (k : Int)] 3)
            have hI3 := hI2.below hal2
            have hB3 := hB2.next hal2
            have hL := lit_sl wd [(k : Int)] (by simp) #[.int .i64 (k : Int)] rfl _ rfl 1 rfl
            have hcell3 := hI3.cell htn
            rw [← HROW.out, ← HOO.out] at hcell3
            refine ⟨cls_mk (C := fun w' => w'.cell? ⟨BX, 2, none⟩ = some (.int .i64 (t : Int)) ∧ w'.cell? ⟨OO, t, none⟩ = some (.slice pp pl.length pc)) ⟨hB3.cell 2, hcell3⟩, HK.out _ _ ?_⟩
            clear HK K hal2 hI2 hB2
            generalize wd.alloc (.cells #[.int .i64 (k : Int)] 3) = w5 at *
            generalize wd.heap.size = LB at *
            refine wpLate_one fun K hK => ?_
            have HK := Lib.hid hK; clear hK
            simp only [pick, List.getD_cons_succ, List.getD_cons_zero]
            refine wpQuiet_nil ?_
            have hrow := hI3.each t htn
            rw [← HROW.out] at hrow
            dsimp only [Sv.val] at hrow
            have hbase : w.heap.size + 1 ≤ w5.heap.size := hI3.big
            go_wp2_with (refine wpList_append_sep w5 rfl _ _ 33 rfl (w.heap.size + 1) 3 i0 (.int .i64 0) 1 8 Try.underlying33 hi hz0 hz1 hz2 rfl (by decide) (.slice pp pl.length pc) pl.length (ints .i64 pl) rfl hrow ⟨LB, 0, none⟩ 1 1 [.int .i64 (k : Int)] rfl rfl (fun j u hj => by rw [add_lit']; exact hL.row.at_ hj) (by intro u hu; obtain rfl := List.mem_singleton.1 hu; rfl) (by omega) (by omega) hbase ?_; intro p6 c6 w6 hown hg hsep)
            go_frame
            have hne6 := HN6.out
            have hB6 : Blk w6 BX _ 30 := (hg.block BX hB3.lt (fun e => hne6 e.symm)).trans hB3
            have hI6 := ThI.app (t := t) (m := pl.length) (c' := c6) (p' := p6) (x := (k : Int)) hI3 htn (by rw [← HROW.out]) (by rw [← HROW.out]; exact hown) (by rw [← HROW.out]; exact hg) (by rw [← HROW.out]; exact hsep)
            have hr6 := hI3.row.kept hg (.inr fun e => hI3.old htn (by rw [← HROW.out]; exact e.symm))
            have hcell6 : w6.cell? ⟨OO, t, none⟩ = some (.slice pp pl.length pc) := by
              have hl := hI3.len
              rw [HOO.out, hr6.cellAt t (by omega), List.getElem?_map, List.getElem?_eq_getElem (by omega)]
              have h2 := HROW.out
              rw [List.getD_eq_getElem?_getD, List.getElem?_eq_getElem (by omega)] at h2
              have h3 : (⟨pp, pc, pl⟩ : Sv Int) = ps[t] := h2
              rw [← h3]; rfl
            have hfz : w6.frozen? ⟨OO, t, none⟩ = false := by rw [HOO.out]; exact hr6.frozenAt t
            rw [← HOO.out, ← HROW.out] at hI6
            refine ⟨cls_mk (C := fun w' => w'.cell? ⟨BX, 2, none⟩ = some (.int .i64 (t : Int)) ∧ w'.cell? ⟨OO, t, none⟩ = some (.slice pp pl.length pc)) ⟨hB6.cell 2, hcell6⟩, HK.out _ _ ?_⟩
            clear HK K hI3 hB3 hL hown hg hsep hrow hcell3 hbase hr6
            refine wpLate_free fun K hK => ?_
            have HK := Lib.hid hK; clear hK
            simp only [pick, List.getD_cons_succ, List.getD_cons_zero]
            iterate 1 (go_big_quiet_step (fail))
            refine wpQuiet_nil ?_
            refine HK.out _ ?_
            clear HK K
            refine wpLate_late fun K hK => ?_
            have HK := Lib.hid hK; clear hK
            simp only [pick, List.getD_cons_succ, List.getD_cons_zero]
            refine wpQuiet_nil ?_
            go_wp2_with fail
            refine HK.out _ _ ?_
            clear HK K
            refine wpPlan_last ?_
            simp only [pick]
            refine wpQuiet_nil ?_
            refine NoPanic.normal ?_
            generalize w6.setCell ⟨OO, t, none⟩ (.slice p6 (pl.length + 1) c6) = w7 at *
            clear hcell6 hfz hB6
            rw [HOO.out]
            go_wp2_with fail
            go_roundw
            case rel =>
              refine ⟨k + 1, _, by omega, by go_num, hI6, fun j hj => ?_⟩
              by_cases e : t = j
              · subst e
                rw [svset_eq (by have := hI6.len; rw [List.length_set] at this; omega), hsn.out]
              · rw [svset_ne e]
                exact hso.out j hj (fun e' => e e'.symm)
            case measure => simp [intOf]; omega
          · have hI1 := hI.below ((Below.refl wr.heap.size wr).alloc (Nat.le_refl _) (.cells #[.int .i64 xk, .int .i64 xs, .int .i64 xt, .int .i64 xf, .int .i64 xa, .int .i64 xl, .int .i64 xA, .int .i64 xB, .int .i64 x1, .int .i64 x2, .int .i64 x3, .int .i64 x4] 30))
            have hsk : Hid (∀ j, j < n → (ps.getD j .none).l = plcK (thr j) l (k + 1)) := fun j hj => by
              rw [HST.out j, if_neg, ho.out j hj]
              unfold thr
              simp only [beq_iff_eq]
              omega
            clear hI ho
            by_cases h0 : 0 ≤ xt
            · have h1 : ¬ xt < (n : Int) := by omega
              clear hin
              go_wp2_with fail
              go_roundw
              case rel => exact ⟨k + 1, ps, by omega, by go_num, hI1, hsk⟩
              case measure => simp [intOf]; omega
            · clear hin
              go_wp2_with fail
              go_roundw
              case rel => exact ⟨k + 1, ps, by omega, by go_num, hI1, hsk⟩
              case measure => simp [intOf]; omega
        · obtain rfl : k = l.length := by omega
          have hpl := hI.len
          have HPL := Lib.hid hpl; have HI := Lib.hid hI
          clear hpl hI
          go_wp2_with fail
          go_ret2
          refine ⟨⟨some ⟨w.heap.size, 0, none⟩, n, ps⟩, by dsimp only [Sv.val]; rw [HPL.out]; rfl, HI.out.rd, ?_, HI.out.bel⟩
          refine List.ext_getElem (by simp [HPL.out]) fun j h1 h2 => ?_
          have := ho.out j (by simpa using h2)
          simp only [List.getElem_map, List.getElem_range]
          rw [← this, List.getD_eq_getElem?_getD, List.getElem?_eq_getElem (by simpa using h1)]
          rfl
    · rw [if_neg hn]
      have HS := Lib.hid hS
      clear hS
      by_cases h0 : nn < 0
      · clear hn
        go_enter Try.func10, Try.ntmps10
        go_wp2
        go_ret2
        exact ⟨.none, rfl, Rd.zero _, rfl, Below.refl _ _⟩
      · have h1 : (8 : Int) < nn := by omega
        clear hn
        go_enter Try.func10, Try.ntmps10
        go_wp2
        go_ret2
        exact ⟨.none, rfl, Rd.zero _, rfl, Below.refl _ _⟩
end Go.Proofs.Ytpafnadfoedheaa
