/-
  Rank.
-/
import Derived.Test.YtfcimbhjoioinaaRankN
import Derived.Test.YtfcimbhjoioinaaKeep
import Derived.Test.YtfcimbhjoioinaaSep
import Derived.Test.YtfcimbhjoioinaaRd
import Derived.Test.YtfcimbhjoioinaaOwnI
import Derived.Test.YtfcimbhjoioinaaFast
import Derived.Test.YtfcimbhjoioinaaBlk
import Derived.OwnWalk
namespace Go.Proofs.Ytfcimbhjoioinaa
open Go.RowKit

def rankM (l : List Dp) : (List Int × Bool) × Int := if 200 < l.length then (([], false), 2) else (rankL l, 0)
theorem restN_get (l : List Dp) (out : List Int) (x : Int) : 0 ≤ (restN l out x).getD 0 ∧ (restN l out x).getD 0 ≤ l.length := by
  unfold restN
  split
  · simp only [Option.getD_some]
    have : cntA l out x ≤ l.length := List.countP_le_length
    omega
  · simp

theorem wf_few {x : Int} (h0 : -1000 ≤ x) (h1 : x ≤ 1000) : (Lit.int .i64 x).wf = true := by
  have e : IntKind.i64.min = -9223372036854775808 := by decide
  simp [Lit.wf, e]
  omega

set_option maxRecDepth 100000 in
set_option maxHeartbeats 8000000 in
theorem rank_own {w : World} {p : Option Addr} {cap : Nat} {l : List Dp} (hS : Sl w 2 p l.length cap (dps l)) (hwf : ∀ x ∈ l, (Lit.int .i64 x.i).wf = true ∧ (Lit.int .i64 x.j).wf = true) :
    Calls Try.prog 8 #[.slice p l.length cap] w fun e w' => ∃ q c, e = .returned (.tuple #[.slice q (rankM l).1.1.length c, .bool (rankM l).1.2, .int .i64 (rankM l).2]) ∧ SlI w' q c (rankM l).1.1 ∧ OwnI w' w.heap.size q c (rankM l).1.1 ∧ Below w.heap.size w w' := by
  have l1 := hS.le
  have l2 := hS.big
  unfold rankM
  by_cases h8 : 200 < l.length
  · have h8z : (200 : Int) < (l.length : Int) := by omega
    rw [if_pos h8]
    clear h8
    go_enter Try.func8, Try.ntmps8
    go_wp2
    go_ret3
    exact ⟨none, 0, rfl, Sl.zero _ _, World.ownsRow_nil _ _ _ _, Below.refl _ _⟩
  · have h8z : ¬ (200 : Int) < (l.length : Int) := by omega
    rw [if_neg h8]
    obtain ⟨R, hR⟩ : ∃ R, R = rankL l := ⟨_, rfl⟩
    rw [← hR]
    have HR := Lib.hid hR
    have HS := Lib.hid hS
    have HW := Lib.hid hwf
    clear hR hS hwf
    have hmm := @run_makeMap Try.prog
    go_enter Try.func8, Try.ntmps8
    go_wp2_with fail
    clear hmm
    have hM0 := mdIs_made w
    have hb0 := (Below.refl w.heap.size w).alloc (Nat.le_refl _) (.map #[] 0)
    go_loopw [21] (fun s wr => ∃ k : Nat, k ≤ l.length ∧ s = .int .i64 k ∧ MdIs wr w.heap.size (2 * k) (restN (l.take k) []) ∧ Below w.heap.size w wr) (fun s _ => l.length - (intOf s).toNat)
    case atStart => exact ⟨0, Nat.zero_le _, rfl, hM0, hb0⟩
    case round =>
      clear hM0 hb0
      obtain ⟨k, hk, rfl, hM, hbl⟩ := hrel
      by_cases hlt : k < l.length
      · obtain ⟨b, off, hp, hb, hD⟩ := HS.out.dps_ptr hlt
        subst hp
        have hD' := hD.below hbl hb
        have htk : l.take (k + 1) = l.take k ++ [l.getD k .z] := by
          rw [List.take_succ_eq_append_getElem hlt, List.getD_eq_getElem?_getD, List.getElem?_eq_getElem hlt]; rfl
        have hstep := rest_snoc (l.take k) (l.getD k .z)
        rw [← htk] at hstep
        simp only [Int.add_zero] at hstep
        have hwx := HW.out (l.getD k .z) (by simp [hlt])
        have hMl := hM.lt
        have hbd := restN_get (l.take k) [] (l.getD k .z).i
        have hkl : (l.take k).length = k := by rw [List.length_take]; omega
        rw [hkl] at hbd
        clear hD htk
        generalize l.getD k .z = x at *
        obtain ⟨xi, xj⟩ := x
        obtain ⟨d0, d1⟩ := hD'
        dsimp only at d0 d1 hstep hwx hbd
        have HST := Lib.hid hstep
        have hal := (Below.refl wr.heap.size wr).alloc (Nat.le_refl _) (.cells #[.int .i64 xi, .int .i64 xj] 32)
        have hM1 : MdIs (wr.alloc (.cells #[.int .i64 xi, .int .i64 xj] 32)) w.heap.size (2 * k) (restN (l.take k) []) := hM.kept (World.grownBy_alloc _ _ none) (by simp)
        have hbl1 := hbl.trans (hal.mono hbl.size)
        have hB := Blk.mk_ wr #[.int .i64 xi, .int .i64 xj] 32 rfl
        have hlk := hM1.look hwx.1
        generalize hv1 : (restN (l.take k) [] xi).getD 0 = v1 at *
        have HV1 := Lib.hid hv1
        obtain ⟨D1, ho1, hr1⟩ := hM1
        have HR1 := Lib.hid hr1
        have HWX := Lib.hid hwx
        have hMN := hr1.put hwx.1 v1
        have hlk2 := fun (w' : World) (n : Nat) (ho : w'.ownsMap Try.prog 3 (plainElem Try.prog 3) w.heap.size n (D1.put (.int .i64 xi) (.lit (.int .i64 v1)))) => MdIs.look ⟨_, ho, hMN⟩ hwx.2
        have hbd2 : 0 ≤ (putN (restN (l.take k) []) xi v1 xj).getD 0 ∧ (putN (restN (l.take k) []) xi v1 xj).getD 0 ≤ k := by
          have hx := restN_get (l.take k) [] xj
          rw [hkl] at hx
          unfold putN
          split
          · exact hbd
          · exact hx
        have HLK2 := Lib.hid hlk2
        generalize hv2 : (putN (restN (l.take k) []) xi v1 xj).getD 0 = v2 at *
        have HMN := Lib.hid hMN
        have hw1 : (Lit.int .i64 v1).wf = true := wf_few (by omega) (by omega)
        have hw2 : (Lit.int .i64 (v2 + 1)).wf = true := wf_few (by omega) (by omega)
        have HW1 := Lib.hid hw1
        have HW2 := Lib.hid hw2
        clear hstep hal hM hbl hr1 hv1 hwx hMN hlk2 hv2 hw1 hw2
        have hMX : w.heap.size ≠ wr.heap.size := by omega
        have HBk := Lib.hid hB
        clear hB
        have hB := HBk.out
        go_wp2_with (first | (at_mapUpdate; refine wpList_mapUpdate_own _ rfl _ _ _ 45 rfl 3 3 keyedI Try.underlying45 _ w.heap.size (2 * k) D1 rfl ho1 (by unfold maxLen; omega) (.int .i64 xi) _ (.int .i64 xi) rfl rfl (Go.Maps.keyOf_int_mk Try.underlying3 HWX.out.1) (.lit (.int .i64 v1)) [] (plainElem_int Try.underlying3 HW1.out) ?_; intro w4 ho4 hg4; have hB4 : Blk w4 wr.heap.size #[.int .i64 xi, .int .i64 xj] 32 := (hg4.block _ HBk.out.lt (fun e => hMX (by simpa using e.symm))).trans HBk.out; have e1 : w4.cell? ⟨wr.heap.size, 1, none⟩ = some (.int .i64 xj) := hB4.cell 1; have hlk4 := HLK2.out _ _ ho4) | (at_mapUpdate; refine wpList_mapUpdate_own w4 rfl _ _ _ 45 rfl 3 3 keyedI Try.underlying45 _ w.heap.size (2 * k + 1) _ rfl ho4 (by unfold maxLen; omega) (.int .i64 xj) _ (.int .i64 xj) rfl rfl (Go.Maps.keyOf_int_mk Try.underlying3 HWX.out.2) (.lit (.int .i64 (v2 + 1))) [] (plainElem_int Try.underlying3 HW2.out) ?_; intro w5 ho5 hg5))
        go_roundw
        case rel =>
          refine ⟨k + 1, by omega, by go_num, ?_, (hbl1.grown hg4 hbl1.size (fun g e => by cases e; exact Nat.le_refl _)).grown hg5 (Nat.le_trans hbl1.size hg4.size) (fun g e => by cases e; exact Nat.le_refl _)⟩
          rw [← HST.out, show 2 * (k + 1) = 2 * k + 1 + 1 from by omega]
          exact ⟨_, ho5, HMN.out.put HWX.out.2 _⟩
        case measure => simp [intOf]; omega
      · obtain rfl : k = l.length := by omega
        rw [List.take_length] at hM
        obtain ⟨i0, hi, hz0, hz1, hz2⟩ := info_parts infoI
        have hbs : w.heap.size + 1 ≤ wr.heap.size := hM.lt
        have hnl := nodes_len l
        have hL : l.length ≤ 200 := by omega
        have HN : Hid (∀ x ∈ nodes l, (Lit.int .i64 x).wf = true) := Lib.hid fun x hx => by
          obtain ⟨p, hp, e⟩ := List.mem_flatMap.1 hx
          simp only [List.mem_cons, List.not_mem_nil, or_false] at e
          rcases e with rfl | rfl
          · exact (HW.out p hp).1
          · exact (HW.out p hp).2
        obtain ⟨D, ho, hr⟩ := hM
        have hown0 : OwnI wr (w.heap.size + 1) none 0 [] := ⟨rfl, .inl ⟨rfl, rfl⟩⟩
        have hrel0 : Rep D (restN l []) ∧ R = rankGo l (2 * l.length + 1) [] ∧ Rk l [] := ⟨hr, by rw [HR.out]; unfold rankL; rw [hnl], rk_nil l⟩
        have HR0 := Lib.hid hrel0
        clear HR hrel0 hr hnl
        go_wp2_with fail
        go_loopw [8] (fun v8 wr => ∃ (out : List Int) (f : Nat) (q : Option Addr) (c n : Nat) (D : DataW Unit), v8 = .slice q out.length c ∧ out.length + f = 2 * l.length + 1 ∧ OwnI wr (w.heap.size + 1) q c out ∧ wr.ownsMap Try.prog 3 (plainElem Try.prog 3) w.heap.size n D ∧ n ≤ 400 + out.length * 200 ∧ Below w.heap.size w wr ∧ w.heap.size + 1 ≤ wr.heap.size ∧ Hid (Rep D (restN l out) ∧ R = rankGo l f out ∧ Rk l out)) (fun v8 _ => 402 - (match v8 with | .slice _ n _ => n | _ => 0))
        case atStart => exact ⟨[], 2 * l.length + 1, none, 0, 2 * l.length, D, rfl, by simp, hown0, ho, by simp; omega, hbl, hbs, HR0.out⟩
        case round =>
          clear hown0 ho hbl hbs HR0 D
          obtain ⟨out, f, q, c, n, D, rfl, hf, hown, ho, hn, hbl, hbs, hH⟩ := hrel
          have hn2 : out.length ≤ 2 * l.length := by
            rw [← nodes_len l]; exact nodup_len hH.out.2.2.nd hH.out.2.2.sub
          have hone := none_left ho hH.out.1
          rcases hone with ⟨h0, hnone⟩ | ⟨hpos, hsome⟩
          · have hall : ∀ x ∈ nodes l, x ∈ out := fun x hx => Classical.byContradiction fun hno => by
              have h1 := rest_some.2 ⟨hx, hno⟩
              rw [hnone x (HN.out x hx)] at h1
              cases h1
            have hRR : R = (out, true) := by rw [hH.out.2.1, rankGo_all hall]
            have HRR := Lib.hid hRR
            have HOW := Lib.hid hown
            clear hall hRR hnone hH HW HN HS hown
            go_wp2_with (at_len; refine wpList_len_own _ rfl _ 45 rfl 3 3 Try.underlying45 _ w.heap.size n D rfl ho ?_; rw [h0])
            go_ret3
            rw [HRR.out]
            exact ⟨q, c, rfl, Sl.of_own HOW.out, own_mono HOW.out (Nat.le_succ _), hbl⟩
          · obtain ⟨g, rfl⟩ : ∃ g, f = g + 1 := ⟨f - 1, by omega⟩
            have hgo : R = match leastF l out with | none => ([], false) | some x => rankGo l g (out ++ [x]) := by
              obtain ⟨x, hx, h1⟩ := hsome
              have h2 := rest_some.1 h1
              rw [hH.out.2.1, rankGo_some h2.1 h2.2]
              cases leastF l out <;> rfl
            have HGO := Lib.hid hgo
            have hposz : (0 : Int) < (Maps.size D : Int) := by omega
            have hposb : decide (0 < Maps.size D) = true := by simpa using hpos
            have hposb2 : decide ((0 : Int) < (Maps.size D : Int)) = true := by simpa using hposz
            have HREP := Lib.hid hH.out.1
            have HRK := Lib.hid hH.out.2.2
            have HOW := Lib.hid hown
            have hst := find_start hH.out.1
            have HST := Lib.hid hst
            clear hgo hsome hH hst hown hpos
            go_wp2_with (first | (at_len; refine wpList_len_own _ rfl _ 45 rfl 3 3 Try.underlying45 _ w.heap.size n D rfl ho ?_) | (at_range; refine wpList_range_own _ rfl _ 45 rfl 3 3 keyedI Try.underlying45 _ w.heap.size n D rfl ho ?_; intro w0 hrg0 hg0 hs0))
            go_frame
            have hown0 : OwnI w0 (w.heap.size + 1) q c out := HOW.out.kept hg0 (by cases h : (Value.slice q out.length c).ownBlock <;> simp)
            have hbl0 : Below w.heap.size w w0 := hbl.grown hg0 hbl.size (fun g e => by cases e)
            have hbs0 := Nat.le_trans hbs hg0.size
            have hlow0 : Hid (∀ g, (Value.slice q out.length c).ownBlock = some g → g < wr.heap.size) := Lib.hid fun g hg => (HOW.out.lt g hg).2
            have hsz0 : wr.heap.size + 1 ≤ w0.heap.size := by omega
            clear HOW hposz hposb hposb2 hs0 hg0
            generalize wr.heap.size = BR at *
            go_loopw [9, 10] (fun v9 v10 wi => ∃ (least : Int) (sm : Bool) (left : Lit → Bool) (cnt : Nat), v9 = .int .i64 least ∧ v10 = .bool sm ∧ wi.ranges Try.prog 3 (plainElem Try.prog 3) w.heap.size BR n D left cnt ∧ OwnI wi (w.heap.size + 1) q c out ∧ Below w.heap.size w wi ∧ BR + 1 ≤ wi.heap.size ∧ Hid (Find (restN l out) left least sm)) (fun _ _ wi => wi.rangeLeft w.heap.size BR)
            case atStart => exact ⟨0, false, _, _, rfl, rfl, hrg0, hown0, hbl0, hsz0, HST⟩
            case round =>
              clear hrg0 hown0 hbl0 hbs0 HST hsz0
              obtain ⟨least, sm, left, cnt, rfl, rfl, hrg, hown, hbl, hsz, hfi⟩ := hrel
              have HOW := Lib.hid hown
              clear hown
              go_wp2_with (at_next; refine wpList_next_ranges_ii _ rfl _ rfl 3 3 .i64 .i64 keyedI Try.underlying3 Try.underlying3 w.heap.size BR n _ _ _ rfl hrg ?_ ?_)
              · intro _ hl0
                have hend := find_end HN.out hfi.out hl0
                have hgo := HGO.out
                rw [hend] at hgo
                have ho1 : wr.ownsMap Try.prog 3 (plainElem Try.prog 3) w.heap.size n D := hrg.owns
                cases sm with
                | false =>
                  rw [if_neg (by simp)] at hgo
                  have HR2 := Lib.hid hgo
                  clear hend hgo hfi hrg HGO
                  go_wp2_with fail
                  go_ret3
                  rw [HR2.out]
                  exact ⟨none, 0, rfl, Sl.zero _ _, World.ownsRow_nil _ _ _ _, hbl⟩
                | true =>
                  rw [if_pos rfl] at hgo hend
                  have hfree := (leastF_some.1 hend).1
                  have HGO2 := Lib.hid hgo
                  have HRK2 := Lib.hid (rk_step HRK.out hfree)
                  have HFR := Lib.hid hfree
                  have HWL := Lib.hid (HN.out _ hfree.1)
                  have HLD := Lib.hid fun p (hp : p ∈ l) (hi : p.i = least) => free_leads HRK.out hfree hp hi
                  have HRL := Lib.hid (HREP.out.del least)
                  have hal := (Below.refl wr.heap.size wr).alloc (Nat.le_refl _) (.cells #[.int .i64 least] 3)
                  have hL := Blk.mk2 wr #[.int .i64 least] 3
                  have hown2 := own_below HOW.out hal
                  have ho2 := ho1.alloc (.cells #[.int .i64 least] 3)
                  have hbz := hbl.size
                  have hbl2 := hbl.trans (hal.mono hbz)
                  have hbs2 : w.heap.size + 1 ≤ (wr.alloc (.cells #[.int .i64 least] 3)).heap.size := by have := hal.size; omega
                  clear hend hgo hfi hrg HGO hfree HRK ho1 HOW hal hbl HREP
                  go_wp2_with (first | (refine wpList_append_sep (wr.alloc (.cells #[.int .i64 least] 3)) rfl _ _ 24 rfl (w.heap.size + 1) 3 i0 (.int .i64 0) 1 8 Try.underlying24 hi hz0 hz1 hz2 rfl (by decide) (.slice q out.length c) out.length (ints .i64 out) rfl hown2 ⟨wr.heap.size, 0, none⟩ 1 1 [.int .i64 least] rfl rfl (fun j u hj => by rw [add_lit', Nat.zero_add, hL.cell]; simpa using hj) (by intro u hu; obtain rfl := List.mem_singleton.1 hu; rfl) (by omega) (by decide) hbs2 ?_; intro q6 c6 w6 hown6 hg hsep; have ho6 := ho2.kept hg (fun e => by have := (hown2.lt _ e.symm).1; omega)) | (at_delete; refine wpList_delete_own _ rfl _ _ 45 3 rfl 3 keyedI Try.underlying45 _ w.heap.size n D rfl ho6 _ _ rfl (Go.Maps.keyOf_int_mk Try.underlying3 HWL.out) ?_; intro w7 ho7 hturn7))
                  have hown7 : OwnI w7 (w.heap.size + 1) q6 c6 (out ++ [least]) := by
                    have h1 : OwnI w6 (w.heap.size + 1) q6 c6 (out ++ [least]) := by unfold OwnI; rw [List.length_append, ints_append]; exact hown6
                    exact h1.kept hturn7.grown (.inr (fun e => by have := (h1.lt _ e).1; omega))
                  have hbl6 : Below w.heap.size w w6 := hbl2.grown hg hbl2.size (fun g hgg => by have := (hown2.lt g hgg).1; omega)
                  have hbl7 : Below w.heap.size w w7 := hbl6.grown hturn7.grown hbl6.size (fun g e => by cases e; exact Nat.le_refl _)
                  have hbs7 : w.heap.size + 1 ≤ w7.heap.size := Nat.le_trans hbs2 (Nat.le_trans hg.size hturn7.grown.size)
                  have hst7 : Rep (D.del (.int .i64 least)) (offN l out least 0) := by rw [← off_zero]; exact HRL.out
                  have HS7 := Lib.hid hst7
                  clear hst7 HRL hbl6 hown6 hg hsep ho6 hturn7 hL hown2 ho2 hbl2 hbs2
                  go_loopw [68] (fun s wi => ∃ (k m : Nat) (E : DataW Unit), k ≤ l.length ∧ s = .int .i64 k ∧ wi.ownsMap Try.prog 3 (plainElem Try.prog 3) w.heap.size m E ∧ m ≤ 400 + out.length * 200 + k ∧ OwnI wi (w.heap.size + 1) q6 c6 (out ++ [least]) ∧ Below w.heap.size w wi ∧ w.heap.size + 1 ≤ wi.heap.size ∧ Hid (Rep E (offN l out least k))) (fun s _ => l.length - (intOf s).toNat)
                  case atStart => exact ⟨0, n, _, Nat.zero_le _, rfl, ho7, by omega, hown7, hbl7, hbs7, HS7.out⟩
                  case round =>
                    clear ho7 hown7 hbl7 hbs7 HS7
                    obtain ⟨k, m, E, hk, rfl, ho, hm, hown, hbl, hbs, hE⟩ := hrel
                    by_cases hlt : k < l.length
                    · obtain ⟨b, off, hp, hb, hD⟩ := HS.out.dps_ptr hlt
                      subst hp
                      have hD' := hD.below hbl hb
                      have hmem : l.getD k .z ∈ l := by simp [hlt]
                      have hwx := HW.out _ hmem
                      have hother := @off_other l out least k hlt
                      have hone := @off_one l out least k hlt
                      have hld := HLD.out _ hmem
                      clear hD hmem
                      generalize l.getD k .z = x at *
                      obtain ⟨xi, xj⟩ := x
                      obtain ⟨d0, d1⟩ := hD'
                      dsimp only at d0 d1 hother hone hwx hld
                      have hal := (Below.refl wr.heap.size wr).alloc (Nat.le_refl _) (.cells #[.int .i64 xi, .int .i64 xj] 32)
                      have ho1 := ho.alloc (.cells #[.int .i64 xi, .int .i64 xj] 32)
                      have hown1 := own_below hown hal
                      have hbl1 := hbl.trans (hal.mono hbl.size)
                      have hbs1 : w.heap.size + 1 ≤ (wr.alloc (.cells #[.int .i64 xi, .int .i64 xj] 32)).heap.size := Nat.le_trans hbs hal.size
                      have hB := Blk.mk_ wr #[.int .i64 xi, .int .i64 xj] 32 rfl
                      have hbt := offN_get l out least k xj
                      have HO := Lib.hid hown1
                      by_cases hi2 : xi = least
                      · subst hi2
                        have hl2 := hld rfl
                        have hst := hone rfl hl2.1 hl2.2
                        have HST := Lib.hid hst
                        have hlk := MdIs.look ⟨_, ho1, hE.out⟩ hwx.2
                        generalize hv : (offN l out xi k xj).getD 0 = v at *
                        have hwv : (Lit.int .i64 (v - 1)).wf = true := wf_few (by omega) (by omega)
                        have hwr : IntKind.i64.wrap (v - 1) = v - 1 := IntWalk.i64_in _ (by omega)
                        have HWV := Lib.hid hwv
                        have HWX := Lib.hid hwx
                        clear hother hone hld hl2 hst hv hwv hwx hal ho hown hown1 hbl
                        go_wp2_with (at_mapUpdate; refine wpList_mapUpdate_own _ rfl _ _ _ 45 rfl 3 3 keyedI Try.underlying45 _ w.heap.size m E rfl ho1 (by unfold maxLen; omega) (.int .i64 xj) _ (.int .i64 xj) rfl rfl (Go.Maps.keyOf_int_mk Try.underlying3 HWX.out.2) (.lit (.int .i64 (v - 1))) [] (plainElem_int Try.underlying3 HWV.out) ?_; intro w4 ho4 hg4)
                        go_roundw
                        case rel => exact ⟨k + 1, m + 1, _, by omega, by go_num, ho4, by omega, HO.out.kept hg4 (.inr (fun e => by have := (HO.out.lt _ e).1; omega)), hbl1.grown hg4 hbl1.size (fun g e => by cases e; exact Nat.le_refl _), Nat.le_trans hbs1 hg4.size, by rw [HST.out]; exact hE.out.put HWX.out.2 _⟩
                        case measure => simp [intOf]; omega
                      · have hib : (xi == least) = false := by simpa using hi2
                        have hst := hother hi2
                        have HST := Lib.hid hst
                        clear hother hone hld hst hwx hal ho hown hown1 hbl
                        go_wp2_with fail
                        go_roundw
                        case rel => exact ⟨k + 1, m, _, by omega, by go_num, ho1, by omega, HO.out, hbl1, hbs1, by rw [HST.out]; exact hE.out⟩
                        case measure => simp [intOf]; omega
                    · obtain rfl : k = l.length := by omega
                      have hE2 := hE.out
                      rw [off_all HFR.out.2.1] at hE2
                      have HE2 := Lib.hid hE2
                      have HOW := Lib.hid hown
                      clear hE hE2 hown
                      go_wp2_with fail
                      go_roundw
                      case rel => exact ⟨out ++ [least], g, q6, c6, m, E, by rw [List.length_append]; rfl, by rw [List.length_append, List.length_singleton]; omega, HOW.out, ho, by rw [List.length_append, List.length_singleton]; omega, hbl, hbs, HE2.out, HGO2.out, HRK2.out⟩
                      case measure => dsimp only; omega
              · intro x c1 w1 cnt1 hwx hwc hlx hat hrg1 hlt hg1 hs1 hen
                have hNx := rep_at HREP.out hwx hat
                have hown1 : OwnI w1 (w.heap.size + 1) q c out := HOW.out.kept hg1 (.inr (fun e => by have := hlow0.out _ e; omega))
                have hbl1 := hbl.grown hg1 hbl.size (fun g e => by cases e; omega)
                have hsz1 : BR + 1 ≤ w1.heap.size := by omega
                have HAT := Lib.hid hat
                have HRG := Lib.hid hrg
                have HOW1 := Lib.hid hown1
                have HFI1 : Hid (restN l out x = some 0 ∧ (sm = false ∨ x < least) → Find (restN l out) (fun z => left z && !z.sameKey (.int .i64 x)) x true) := Lib.hid fun h => find_take hfi.out hwx h.1 h.2
                have HFI2 : Hid (restN l out x ≠ some 0 ∨ (sm = true ∧ least ≤ x) → Find (restN l out) (fun z => left z && !z.sameKey (.int .i64 x)) least sm) := Lib.hid fun h => find_pass hfi.out h
                clear hat hrg HOW hown1 hbl hsz hfi hg1 hs1
                by_cases hc0 : c1 = 0
                · subst hc0
                  cases sm with
                  | false =>
                    go_wp2_with fail
                    go_roundw
                    case rel => exact ⟨_, _, _, cnt1, rfl, rfl, hrg1, HOW1.out, hbl1, hsz1, HFI1.out ⟨hNx, .inl (by simp)⟩⟩
                    case measure => rw [hrg1.left_eq, HRG.out.left_eq]; omega
                  | true =>
                    by_cases hlx2 : x < least
                    · have hlxb : decide (x < least) = true := by simpa using hlx2
                      go_wp2_with fail
                      go_roundw
                      case rel => exact ⟨_, _, _, cnt1, rfl, rfl, hrg1, HOW1.out, hbl1, hsz1, HFI1.out ⟨hNx, .inr hlx2⟩⟩
                      case measure => rw [hrg1.left_eq, HRG.out.left_eq]; omega
                    · have hlxb : decide (x < least) = false := by simpa using hlx2
                      go_wp2_with fail
                      go_roundw
                      case rel => exact ⟨_, _, _, cnt1, rfl, rfl, hrg1, HOW1.out, hbl1, hsz1, HFI2.out (.inr ⟨by simp, by omega⟩)⟩
                      case measure => rw [hrg1.left_eq, HRG.out.left_eq]; omega
                · have hcb : (c1 == 0) = false := by simpa using hc0
                  go_wp2_with fail
                  go_roundw
                  case rel => exact ⟨_, _, _, cnt1, rfl, rfl, hrg1, HOW1.out, hbl1, hsz1, HFI2.out (.inl (by rw [hNx]; simpa using hc0))⟩
                  case measure => rw [hrg1.left_eq, HRG.out.left_eq]; omega
theorem rank_any {w : World} {p : Option Addr} {cap : Nat} {l : List Dp} (hS : Sl w 2 p l.length cap (dps l)) (hwf : ∀ x ∈ l, (Lit.int .i64 x.i).wf = true ∧ (Lit.int .i64 x.j).wf = true) :
    Calls Try.prog 8 #[.slice p l.length cap] w fun e w' => ∃ q c, e = .returned (.tuple #[.slice q (rankM l).1.1.length c, .bool (rankM l).1.2, .int .i64 (rankM l).2]) ∧ SlI w' q c (rankM l).1.1 ∧ Below w.heap.size w w' :=
  (rank_own hS hwf).mono fun _ _ ⟨q, c, h1, h2, _, h3⟩ => ⟨q, c, h1, h2, h3⟩
end Go.Proofs.Ytfcimbhjoioinaa
