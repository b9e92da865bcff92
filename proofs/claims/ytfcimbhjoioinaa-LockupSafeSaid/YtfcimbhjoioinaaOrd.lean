/-
  Order.
-/
import Derived.Test.YtfcimbhjoioinaaOrdL
import Derived.Test.YtfcimbhjoioinaaIdx
import Derived.Test.YtfcimbhjoioinaaLate
import Derived.Test.YtfcimbhjoioinaaSep
import Derived.Test.YtfcimbhjoioinaaKeep
import Derived.Test.YtfcimbhjoioinaaOwnI
import Derived.OwnWalk
import Derived.Maps.OwnOps
namespace Go.Proofs.Ytfcimbhjoioinaa
open Go.RowKit

theorem infoP : (Try.prog.info? 32).map (fun i => (i.zero, i.size, i.bytes)) = some (some (.agg #[.int .i64 0, .int .i64 0]), 2, 16) := by kernel_rfl
abbrev OwnP (w : World) (base : Nat) (p : Option Addr) (cap : Nat) (l : List Dp) : Prop := w.ownsRow base 32 2 (.slice p l.length cap) l.length (dps l)
theorem OwnP.apart {w : World} {base : Nat} {p : Option Addr} {cap : Nat} {l : List Dp} (h : OwnP w base p cap l) {g : Nat} (hg : (Value.slice p l.length cap).ownBlock = some g) (cur : Array Value) : w.heap[g]? ≠ some (Obj.cells cur 3) := by
  rcases h.2 with ⟨h0, -⟩ | ⟨g', cap', cur', hv, -, hg', -⟩
  · rw [h0] at hg; cases hg
  · rw [hv] at hg
    simp only [Value.ownBlock, Option.some.injEq] at hg
    subst hg
    rw [hg']
    intro e
    simp only [Option.some.injEq, Obj.cells.injEq] at e
    exact absurd e.2.1 (by decide)
theorem OwnI.apart {w : World} {base n : Nat} {v : Value} {xs : List Value} (h : w.ownsRow base 3 1 v n xs) {g : Nat} (hg : v.ownBlock = some g) : ∃ cur, w.heap[g]? = some (Obj.cells cur 3) := by
  rcases h.2 with ⟨h0, -⟩ | ⟨g', cap', cur', hv, -, hg', -⟩
  · rw [h0] at hg; cases hg
  · rw [hv] at hg
    simp only [Value.ownBlock, Option.some.injEq] at hg
    subst hg
    exact ⟨_, hg'⟩

theorem own_head {w : World} {base : Nat} {e : TypeId} {q : Option Addr} {cap n : Nat} {xs : List Value} (h : w.ownsRow base e 1 (.slice q n cap) n xs) (hn : 0 < n) : ∃ g, q = some ⟨g, 0, none⟩ ∧ base ≤ g ∧ g < w.heap.size ∧ n ≤ cap ∧ cap ≤ 9223372036854775807 := by
  rcases h.2 with ⟨h', _⟩ | ⟨g, cap', cur, h', hb, hg, hnc, hcm, hcs, htake⟩
  · cases h'; omega
  · cases h'
    exact ⟨g, rfl, hb, (Array.getElem?_eq_some_iff.1 hg).1, hnc, hcm⟩

theorem OwnP.ne {w : World} {base : Nat} {p : Option Addr} {cap : Nat} {l : List Dp} (h : OwnP w base p cap l) {g : Nat} {cs : Array Value} {T : TypeId} (hB : Blk w g cs T) (hT : T ≠ 32) : some g ≠ (Value.slice p l.length cap).ownBlock := fun e => by
  rcases h.2 with ⟨h0, -⟩ | ⟨g', cap', cur', hv, -, hg', -⟩
  · rw [h0] at e; cases e
  · rw [hv] at e
    simp only [Value.ownBlock, Option.some.injEq] at e
    subst e
    rw [show w.heap[g]? = _ from hB] at hg'
    simp only [Option.some.injEq, Obj.cells.injEq] at hg'
    exact hT hg'.2.1
theorem ints_ne {w : World} {base n : Nat} {v : Value} {xs : List Value} (h : w.ownsRow base 3 1 v n xs) {g : Nat} {cs : Array Value} {T : TypeId} (hB : Blk w g cs T) (hT : T ≠ 3) : some g ≠ v.ownBlock := fun e => by
  obtain ⟨cur, h2⟩ := OwnI.apart h e.symm
  rw [show w.heap[g]? = _ from hB] at h2
  simp only [Option.some.injEq, Obj.cells.injEq] at h2
  exact hT h2.2.1
theorem OwnP.stay {w w' : World} {base n : Nat} {p : Option Addr} {cap : Nat} {l : List Dp} (h : OwnP w base p cap l) {v : Value} {xs : List Value} (hv : w.ownsRow base 3 1 v n xs) (hg : w.grownBy w' v.ownBlock) : OwnP w' base p cap l := by
  refine h.kept hg ?_
  cases hp : (Value.slice p l.length cap).ownBlock with
  | none => exact .inl rfl
  | some g =>
    refine .inr fun e => ?_
    obtain ⟨cur, h2⟩ := OwnI.apart hv e.symm
    exact OwnP.apart h hp cur h2
theorem index_any {w : World} {p : Option Addr} {cap : Nat} {l : List Int} (hR : SlI w p cap l) (v : Int) :
    Calls Try.prog 14 #[.slice p l.length cap, .int .i64 v] w fun e w' => ∃ av : Int, e = .returned (.int .i64 av) ∧ w' = w ∧ ((v ∈ l ∧ 0 ≤ av ∧ av = ((l.findIdx (· == v) : Nat) : Int) ∧ l.findIdx (· == v) < l.length) ∨ (v ∉ l ∧ av = -1)) := by
  refine (indexI_val hR v).mono ?_
  rintro e w' (⟨h1, rfl, rfl⟩ | ⟨h1, rfl, rfl⟩)
  · refine ⟨_, rfl, rfl, .inl ⟨?_, by omega, rfl, h1⟩⟩
    have := List.findIdx_getElem (w := h1)
    have h2 : l[l.findIdx (· == v)] = v := by simpa using this
    rw [← h2]; exact List.getElem_mem _
  · refine ⟨_, rfl, rfl, .inr ⟨fun hm => ?_, rfl⟩⟩
    have := List.findIdx_eq_length.1 h1 v hm
    simp at this

set_option maxRecDepth 100000 in
set_option maxHeartbeats 8000000 in
theorem order_own {w : World} {p : Option Addr} {cap : Nat} {l : List Ev} (hS : Sl w 12 p l.length cap (evs l)) (hwf : ∀ e ∈ l, (Lit.int .i64 e.t).wf = true ∧ (Lit.int .i64 e.A).wf = true) :
    Calls Try.prog 10 #[.slice p l.length cap] w fun e w' => ∃ q c, e = .returned (.tuple #[.slice q (orderM l).1.length c, .int .i64 (orderM l).2]) ∧ Sl w' 2 q (orderM l).1.length c (dps (orderM l).1) ∧ (∀ a, q = some a → w.heap.size ≤ a.block) ∧ Below w.heap.size w w' := by
  have l1 := hS.le
  have l2 := hS.big
  unfold orderM
  by_cases h8 : 200 < l.length
  · have h8z : (200 : Int) < (l.length : Int) := by omega
    rw [if_pos h8]
    clear h8
    go_enter Try.func10, Try.ntmps10
    go_wp2
    go_ret2
    exact ⟨none, 0, rfl, Sl.zero _ _, (fun a e => by cases e), Below.refl _ _⟩
  · have h8z : ¬ (200 : Int) < (l.length : Int) := by omega
    rw [if_neg h8]
    obtain ⟨R, hR⟩ : ∃ R, R = orderL l := ⟨_, rfl⟩
    rw [← hR]
    have HR := Lib.hid hR
    have HS := Lib.hid hS
    have HW := Lib.hid hwf
    obtain ⟨i0, hi, hz0, hz1, hz2⟩ := info_parts infoI
    obtain ⟨iP, hiP, pz0, pz1, pz2⟩ := info_parts infoP
    clear hR hS hwf
    have hmm := @run_makeMap Try.prog
    go_enter Try.func10, Try.ntmps10
    go_wp2_with fail
    clear hmm
    have hG0 := World.ownsGroups_made (H := Unit) w Try.prog 3 3 .i64
    have hb0 := (Below.refl w.heap.size w).alloc (Nat.le_refl _) (.map #[] 0)
    have hB0 : w.heap.size + 1 ≤ (w.alloc (.map #[] 0)).heap.size := by simp
    have ho0 : OwnP (w.alloc (.map #[] 0)) (w.heap.size + 1) none 0 [] := ⟨rfl, .inl ⟨rfl, rfl⟩⟩
    go_loopw [5, 18] (fun v5 s wr => ∃ (k : Nat) (out : List Dp) (qo : Option Addr) (co : Nat) (D : DataW Unit), k ≤ l.length ∧ v5 = .slice qo out.length co ∧ s = .int .i64 k ∧ wr.ownsGroups Try.prog 3 (w.heap.size + 1) 3 .i64 w.heap.size k D ∧ OwnP wr (w.heap.size + 1) qo co out ∧ Below w.heap.size w wr ∧ w.heap.size + 1 ≤ wr.heap.size ∧ out.length ≤ k * 200 ∧ Hid (GRep D (ordS (l.take k) fun _ => [])) ∧ Hid (out = ordO (l.take k) fun _ => [])) (fun _ s _ => l.length - (intOf s).toNat)
    case atStart => exact ⟨0, [], none, 0, _, Nat.zero_le _, rfl, rfl, hG0, ho0, hb0, hB0, by simp, grep_made, rfl⟩
    case round =>
      clear hG0 hb0 hB0 ho0
      obtain ⟨k, out, qo, co, D, hk, rfl, rfl, hG, ho, hbl, hbs, hol, hrep, hout⟩ := hrel
      by_cases hlt : k < l.length
      · obtain ⟨b, off, rfl⟩ := HS.out.ptr (by omega) (by decide)
        have E1 := (HS.out.ev_at hlt).below hbl (HS.out.row.lt (by simp; omega))
        have htk : l.take (k + 1) = l.take k ++ [l.getD k .z] := by
          rw [List.take_succ_eq_append_getElem hlt, List.getD_eq_getElem?_getD, List.getElem?_eq_getElem hlt]; rfl
        have hstepS := ordS_snoc (l.take k) (l.getD k .z) fun _ => []
        have hstepO := ordO_snoc (l.take k) (l.getD k .z) fun _ => []
        rw [← htk] at hstepS hstepO
        have hwx := HW.out (l.getD k .z) (by simp [hlt])
        clear htk
        generalize l.getD k .z = x at *
        generalize (ordS (l.take k) fun _ => []) = N at *
        obtain ⟨a0, a1, a2, a3, a4, a5, a6, a7, a8, a9, a10, a11⟩ := E1
        obtain ⟨xk, xs, xt, xf, xa, xl, xA, xB, x1, x2, x3, x4⟩ := x
        dsimp only at a0 a1 a2 a3 a4 a5 a6 a7 a8 a9 a10 a11 hwx
        have HST := Lib.hid hstepS
        have HOT := Lib.hid hstepO
        have hal := (Below.refl wr.heap.size wr).alloc (Nat.le_refl _) (.cells #[.int .i64 xk, .int .i64 xs, .int .i64 xt, .int .i64 xf, .int .i64 xa, .int .i64 xl, .int .i64 xA, .int .i64 xB, .int .i64 x1, .int .i64 x2, .int .i64 x3, .int .i64 x4] 41)
        have hB := Blk.mk_ wr #[.int .i64 xk, .int .i64 xs, .int .i64 xt, .int .i64 xf, .int .i64 xa, .int .i64 xl, .int .i64 xA, .int .i64 xB, .int .i64 x1, .int .i64 x2, .int .i64 x3, .int .i64 x4] 41 rfl
        have hG1 := (IK.below hal hbs).groups hG
        have ho1 := own_below ho hal
        have hbl1 := hbl.trans (hal.mono hbl.size)
        have hbs1 := Nat.le_trans hbs hal.size
        obtain ⟨v, zs, hlook, hat, hoi, hzl, hback⟩ := groups_at hG1 (by unfold maxLen; omega) (Go.Maps.keyOf_int_mk Try.underlying3 hwx.1)
        have hzs := hrep.out.zs hwx.1 hat hoi
        obtain ⟨q, c, rfl, -, -⟩ := own_slice hoi.1
        have HZS := Lib.hid hzs
        have HBACK := Lib.hid hback
        have HOI := Lib.hid hoi
        have HWX := Lib.hid hwx
        have HG1 := Lib.hid hG1
        have hix := index_any (Sl.of_own hoi.1) xA
        have HIX := Lib.hid hix
        have HREP := Lib.hid hrep.out
        have hz200 : zs.length ≤ 200 := by omega
        have HZL := Lib.hid hzl
        have hMB : w.heap.size ≠ wr.heap.size := by omega
        clear hstepS hstepO hal hG ho hbl hbs hat hback hoi hwx hG1 hix hzs hzl hrep
        go_wp2_with fail
        refine HIX.out.mono ?_
        rintro _ w2 ⟨av, rfl, hw2, hav⟩
        subst hw2
        have hBX := hB.lt
        generalize wr.heap.size = BX at *
        generalize wr.alloc (.cells #[.int .i64 xk, .int .i64 xs, .int .i64 xt, .int .i64 xf, .int .i64 xa, .int .i64 xl, .int .i64 xA, .int .i64 xB, .int .i64 x1, .int .i64 x2, .int .i64 x3, .int .i64 x4] 41) = w2 at *
        have e0 : w2.cell? ⟨BX, 0, none⟩ = some (.int .i64 xk) := hB.cell 0
        clear HIX hlook a0 a1 a2 a3 a4 a5 a6 a7 a8 a9 a10 a11
        have HB := Lib.hid hB
        have HO1 := Lib.hid ho1
        clear hB ho1
        by_cases h13 : xk = 13
        · have hP : Hid (ordO (l.take (k + 1)) (fun _ => []) = out ++ prs zs xA) := by
            have := HOT.out
            rw [ordP, if_pos h13, ← hout.out, ← HZS.out] at this
            exact this
          have hN : Hid ((ordS (l.take (k + 1)) fun _ => []) = if xA ∈ zs then N else updN N xt (zs ++ [xA])) := by
            have := HST.out
            rw [ordN, if_pos h13] at this
            dsimp only at this
            rw [← HZS.out] at this
            exact this
          subst h13
          clear HOT HST
          go_wp2_with fail
          have hps0 : Hid (out = out ++ prs (zs.take 0) xA) := by show _ = _; simp [prs]
          go_loopw [5, 36] (fun v5 s wi => ∃ (j : Nat) (out2 : List Dp) (q2 : Option Addr) (c2 : Nat), j ≤ zs.length ∧ v5 = .slice q2 out2.length c2 ∧ s = .int .i64 j ∧ IK w.heap.size w2 wi ∧ Hid (Blk wi BX #[.int .i64 13, .int .i64 xs, .int .i64 xt, .int .i64 xf, .int .i64 xa, .int .i64 xl, .int .i64 xA, .int .i64 xB, .int .i64 x1, .int .i64 x2, .int .i64 x3, .int .i64 x4] 41) ∧ Hid (OwnP wi (w.heap.size + 1) q2 c2 out2) ∧ Below w.heap.size w wi ∧ Hid (out2 = out ++ prs (zs.take j) xA) ∧ out2.length ≤ k * 200 + j) (fun _ s _ => zs.length - (intOf s).toNat)
          case atStart => exact ⟨0, out, qo, co, Nat.zero_le _, rfl, rfl, IK.refl _ _, HB.out, HO1.out, hbl1, hps0.out, by omega⟩
          case round =>
            clear HB HO1 hbl1 hps0 e0
            obtain ⟨j, out2, q2, c2, hj, rfl, rfl, hik, HB, HO1, hbl1, hps, hol2⟩ := hrel
            by_cases hjl : j < zs.length
            · obtain ⟨g, hqg, -, -, -, -⟩ := own_head HOI.out.1 (by omega)
              subst hqg
              have hcz := own_cell (hik.own HOI.out.1) hjl
              have htk : zs.take (j + 1) = zs.take j ++ [zs.getD j 0] := by
                rw [List.take_succ_eq_append_getElem hjl, List.getD_eq_getElem?_getD, List.getElem?_eq_getElem hjl]; rfl
              have hpn : prs (zs.take (j + 1)) xA = prs (zs.take j) xA ++ (if zs.getD j 0 = xA then [] else [⟨zs.getD j 0, xA⟩]) := by
                rw [htk, prs_snoc]
              have hps2 : out ++ prs (zs.take (j + 1)) xA = out2 ++ (if zs.getD j 0 = xA then [] else [⟨zs.getD j 0, xA⟩]) := by rw [hpn, ← List.append_assoc, ← hps.out]
              clear htk hpn
              generalize zs.getD j 0 = z at *
              have e6 : wr.cell? ⟨BX, 6, none⟩ = some (.int .i64 xA) := HB.out.cell 6
              by_cases hz : z = xA
              · subst hz
                rw [if_pos rfl, List.append_nil] at hps2
                have HPS2 := Lib.hid hps2
                clear hps2
                go_wp2_with fail
                go_roundw
                case rel => exact ⟨j + 1, out2, q2, c2, by omega, rfl, by go_num, hik, HB.out, HO1.out, hbl1, HPS2.out.symm, by omega⟩
                case measure => simp [intOf]; omega
              · rw [if_neg hz] at hps2
                have HPS2 := Lib.hid hps2
                clear hps2
                have hzb : (z == xA) = false := by simpa using hz
                have hal := (Below.refl wr.heap.size wr).alloc (Nat.le_refl _) (.cells #[.int .i64 z, .int .i64 xA] 32)
                have hL := Blk.mk2 wr #[.int .i64 z, .int .i64 xA] 32
                have hown2 := own_below HO1.out hal
                have hbw : w.heap.size < wr.heap.size := by have := hik.size; omega
                have hik2 := hik.trans (IK.below hal hbw)
                have hB2 := HB.out.next hal
                have hbl2 := hbl1.trans (hal.mono hbl1.size)
                have hbs2 : w.heap.size + 1 ≤ (wr.alloc (.cells #[.int .i64 z, .int .i64 xA] 32)).heap.size := by have := hal.size; omega
                have HB2 := Lib.hid hB2
                have hol3 : out2.length + 1 ≤ 10000000 := by omega
                clear hal HB HO1 hbl1 hB2
                go_wp2_with (refine wpList_append_sep (wr.alloc (.cells #[.int .i64 z, .int .i64 xA] 32)) rfl _ _ 28 rfl (w.heap.size + 1) 32 iP (.agg #[.int .i64 0, .int .i64 0]) 2 16 Try.underlying28 hiP pz0 pz1 pz2 rfl (by decide) (.slice q2 out2.length c2) out2.length (dps out2) rfl hown2 ⟨wr.heap.size, 0, none⟩ 1 1 [.int .i64 z, .int .i64 xA] rfl rfl (fun j u hj => by rw [add_lit', Nat.zero_add, hL.cell]; simpa using hj) (by intro u hu; simp only [List.mem_cons, List.not_mem_nil, or_false] at hu; rcases hu with rfl | rfl <;> rfl) hol3 (by decide) hbs2 ?_; intro q6 c6 w6 hown6 hg hsep)
                have hbne : ∀ g', (Value.slice q2 out2.length c2).ownBlock = some g' → g' ≠ w.heap.size ∧ ∀ cur, (wr.alloc (.cells #[.int .i64 z, .int .i64 xA] 32)).heap[g']? ≠ some (Obj.cells cur 3) := fun g' e => ⟨by have := (hown2.lt g' e).1; omega, fun cur => OwnP.apart hown2 e cur⟩
                have hik6 := hik2.trans (IK.of_grown hg (by omega) hbne)
                have hB6 : Blk w6 BX #[.int .i64 13, .int .i64 xs, .int .i64 xt, .int .i64 xf, .int .i64 xa, .int .i64 xl, .int .i64 xA, .int .i64 xB, .int .i64 x1, .int .i64 x2, .int .i64 x3, .int .i64 x4] 41 := (hg.block _ HB2.out.lt (OwnP.ne hown2 HB2.out (by decide))).trans HB2.out
                have hown7 : OwnP w6 (w.heap.size + 1) q6 c6 (out2 ++ [⟨z, xA⟩]) := by
                  unfold OwnP
                  rw [List.length_append, dps_append, dps_single]
                  exact hown6
                have hbl6 := hbl2.grown hg hbl2.size (fun g' e => by have := (hown2.lt g' e).1; omega)
                go_roundw
                case rel => exact ⟨j + 1, out2 ++ [(⟨z, xA⟩ : Dp)], q6, c6, by omega, by rw [List.length_append]; rfl, by go_num, hik6, hB6, hown7, hbl6, HPS2.out.symm, by rw [List.length_append, List.length_singleton]; omega⟩
                case measure => simp [intOf]; omega
            · obtain rfl : j = zs.length := by omega
              rw [List.take_length] at hps
              have hout2 : Hid (out2 = ordO (l.take (k + 1)) fun _ => []) := by have := hP.out; show _ = _; rw [this]; exact hps.out
              rcases hav with ⟨hmem, hav0, -, -⟩ | ⟨hno, rfl⟩
              · have hav1 : ¬ av < 0 := by omega
                have hN2 : Hid ((ordS (l.take (k + 1)) fun _ => []) = N) := by have := hN.out; rw [if_pos hmem] at this; exact this
                have hG2 := Lib.hid (groups_mono (hik.groups HG1.out) (Nat.le_succ k))
                have hbs2 : w.heap.size + 1 ≤ wr.heap.size := by have := hik.size; omega
                clear hik HBACK HOI HG1 hN hP hps HB hout
                go_wp2_with fail
                go_roundw
                case rel => exact ⟨k + 1, out2, q2, c2, D, by omega, rfl, by go_num, hG2.out, HO1.out, hbl1, hbs2, by omega, by rw [hN2.out]; exact HREP.out, hout2.out⟩
                case measure => simp [intOf]; omega
              · have hN2 : Hid ((ordS (l.take (k + 1)) fun _ => []) = updN N xt (zs ++ [xA])) := by have := hN.out; rw [if_neg hno] at this; exact this
                have hiks := hik.size
                have hbs2 : w.heap.size + 1 ≤ wr.heap.size := by omega
                have hback := HBACK.out wr.drew ⟨hik.size, hik.map, hik.rows⟩
                have hoi := hik.ints HOI.out
                have HBK := Lib.hid hback
                have HOI2 := Lib.hid hoi
                have hC : (fun w' : World => w'.cell? ⟨BX, 2, none⟩ = some (.int .i64 xt) ∧ w'.cell? ⟨BX, 6, none⟩ = some (.int .i64 xA)) wr.drew := ⟨HB.out.cell 2, HB.out.cell 6⟩
                have y0 := fun p : Cls (fun w' : World => w'.cell? ⟨BX, 2, none⟩ = some (.int .i64 xt) ∧ w'.cell? ⟨BX, 6, none⟩ = some (.int .i64 xA)) => p.h.1
                have y1 := fun p : Cls (fun w' : World => w'.cell? ⟨BX, 2, none⟩ = some (.int .i64 xt) ∧ w'.cell? ⟨BX, 6, none⟩ = some (.int .i64 xA)) => p.h.2
                haveI := cls_ne (C := fun w' : World => w'.cell? ⟨BX, 2, none⟩ = some (.int .i64 xt) ∧ w'.cell? ⟨BX, 6, none⟩ = some (.int .i64 xA)) hC
                clear hback hoi hN hP hps hout HBACK HOI
                go_wp2_with fail
                refine wp_region_plan (fun w' => ∃ p : Cls (fun w' : World => w'.cell? ⟨BX, 2, none⟩ = some (.int .i64 xt) ∧ w'.cell? ⟨BX, 6, none⟩ = some (.int .i64 xA)), w' = p.w) (.one [0, 1, 2, 3, 4, 5] 6 (.one [] 7 (.one [] 8 (.last [])))) rfl (by kernel_rfl) (by kernel_rfl) (by kernel_rfl) (cls_mk hC) ?_
                change wpPlan _ _ _ _ _ _ wr.drew
                refine wpPlan_one fun K hK => ?_
                have HK := Lib.hid hK; clear hK
                simp only [pick, List.getD_cons_succ, List.getD_cons_zero]
                iterate 6 (go_big_quiet_step (fail))
                refine wpQuiet_nil ?_
                clear y0 y1 this
                have hBx : Blk wr.drew BX #[.int .i64 13, .int .i64 xs, .int .i64 xt, .int .i64 xf, .int .i64 xa, .int .i64 xl, .int .i64 xA, .int .i64 xB, .int .i64 x1, .int .i64 x2, .int .i64 x3, .int .i64 x4] 41 := HB.out
                have hox : OwnP wr.drew (w.heap.size + 1) q2 c2 out2 := HO1.out
                have hoix : wr.drew.ownsInts (w.heap.size + 1) 3 .i64 (.slice q zs.length c) zs := HOI2.out
                have hblx : Below w.heap.size w wr.drew := hbl1.drew
                have hbsx : w.heap.size + 1 ≤ wr.drew.heap.size := hbs2
                clear HB HO1 HOI2 hbl1 hbs2 hiks hC hik
                generalize wr.drew = wx at *
                have hal := (Below.refl wx.heap.size wx).alloc (Nat.le_refl _) (.cells #[.int .i64 xA] 3)
                have hL := Blk.mk2 wx #[.int .i64 xA] 3
                have hBy := hBx.next hal
                have hoy := own_below hox hal
                have hoiy := own_below hoix.1 hal
                have hbly := hblx.trans (hal.mono hblx.size)
                have hbsy : w.heap.size + 1 ≤ (wx.alloc (.cells #[.int .i64 xA] 3)).heap.size := Nat.le_trans hbsx hal.size
                have hapx : ∀ (w1 : World) (q6 : Option Addr) (c6 : Nat), w1.ownsRow (w.heap.size + 1) 3 1 (.slice q6 (zs.length + 1) c6) (zs.length + 1) (ints .i64 zs ++ [.int .i64 xA]) → w1.ownsInts (w.heap.size + 1) 3 .i64 (.slice q6 (zs.length + 1) c6) (zs ++ [xA]) := fun w1 q6 c6 h => hoix.appended h HWX.out.2
                have HAP := Lib.hid hapx
                have HZ1 : Hid ((zs ++ [xA]).length ≤ k + 1) := by have := HZL.out; show _ ≤ _; rw [List.length_append, List.length_singleton]; omega
                clear hapx hal hBx hox hoix hblx
                go_wp2_with fail
                refine ⟨cls_mk (C := fun w' : World => w'.cell? ⟨BX, 2, none⟩ = some (.int .i64 xt) ∧ w'.cell? ⟨BX, 6, none⟩ = some (.int .i64 xA)) ⟨hBy.cell 2, hBy.cell 6⟩, HK.out _ _ ?_⟩
                clear HK K
                refine wpPlan_one fun K hK => ?_
                have HK := Lib.hid hK; clear hK
                simp only [pick, List.getD_cons_succ, List.getD_cons_zero]
                refine wpQuiet_nil ?_
                go_wp2_with (refine wpList_append_sep (wx.alloc (.cells #[.int .i64 xA] 3)) rfl _ _ 24 rfl (w.heap.size + 1) 3 i0 (.int .i64 0) 1 8 Try.underlying24 hi hz0 hz1 hz2 rfl (by decide) (.slice q zs.length c) zs.length (ints .i64 zs) rfl hoiy ⟨wx.heap.size, 0, none⟩ 1 1 [.int .i64 xA] rfl rfl (fun j u hj => by rw [add_lit', Nat.zero_add, hL.cell]; simpa using hj) (by intro u hu; obtain rfl := List.mem_singleton.1 hu; rfl) (by omega) (by decide) hbsy ?_; intro q6 c6 w6 hown6 hg6 hsep)
                try go_frame
                have hB6 : Blk w6 BX #[.int .i64 13, .int .i64 xs, .int .i64 xt, .int .i64 xf, .int .i64 xa, .int .i64 xl, .int .i64 xA, .int .i64 xB, .int .i64 x1, .int .i64 x2, .int .i64 x3, .int .i64 x4] 41 := (hg6.block _ hBy.lt (ints_ne hoiy hBy (by decide))).trans hBy
                have ho6 := OwnP.stay hoy hoiy hg6
                have hbl6 := hbly.grown hg6 hbly.size (fun g' e => by have := (hoiy.lt g' e).1; omega)
                have hgx : wx.grownBy w6 (Value.slice q zs.length c).ownBlock := (World.grownBy_alloc _ _ _).trans hg6
                have hloc : (Value.slice q6 (zs.length + 1) c6).ownBlock = (Value.slice q zs.length c).ownBlock ∨ ∃ g, (Value.slice q6 (zs.length + 1) c6).ownBlock = some g ∧ wx.heap.size ≤ g := hsep.imp id (fun h => ⟨_, h, by simp⟩)
                have hoi6 := HAP.out _ _ _ hown6
                have HOI6 := Lib.hid hoi6
                clear hL hsep hown6 hg6 hoiy hoy hbly HAP
                refine ⟨cls_mk (C := fun w' : World => w'.cell? ⟨BX, 2, none⟩ = some (.int .i64 xt) ∧ w'.cell? ⟨BX, 6, none⟩ = some (.int .i64 xA)) ⟨hB6.cell 2, hB6.cell 6⟩, HK.out _ _ ?_⟩
                clear HK K
                refine wpPlan_one fun K hK => ?_
                have HK := Lib.hid hK; clear hK
                simp only [pick, List.getD_cons_succ, List.getD_cons_zero]
                refine wpQuiet_nil ?_
                go_wp2_with (refine wpList_mapUpdate_back w6 rfl _ _ _ 49 rfl HBK.out rfl rfl rfl hgx HOI6.out HZ1.out hloc ?_; intro w7 hG7 hg7)
                try go_frame
                have hB7 : Blk w7 BX #[.int .i64 13, .int .i64 xs, .int .i64 xt, .int .i64 xf, .int .i64 xa, .int .i64 xl, .int .i64 xA, .int .i64 xB, .int .i64 x1, .int .i64 x2, .int .i64 x3, .int .i64 x4] 41 := (hg7.block _ hB6.lt (fun e => hMB (by simpa using e.symm))).trans hB6
                have ho7 : OwnP w7 (w.heap.size + 1) q2 c2 out2 := ho6.kept hg7 (by cases h : (Value.slice q2 out2.length c2).ownBlock with | none => exact .inl rfl | some g => exact .inr (fun e => by have := (ho6.lt g h).1; cases e; omega))
                have hbl7 := hbl6.grown hg7 hbl6.size (fun g' e => by cases e; exact Nat.le_refl _)
                have hbs7 : w.heap.size + 1 ≤ w7.heap.size := by have := hgx.size; have := hg7.size; omega
                have hrp := HREP.out.put HWX.out.1 HOI6.out
                have HRP := Lib.hid hrp
                have HG7 := Lib.hid hG7
                have HO7 := Lib.hid ho7
                clear hG7 ho7 hrp ho6 hbl6 hgx hloc
                refine ⟨cls_mk (C := fun w' : World => w'.cell? ⟨BX, 2, none⟩ = some (.int .i64 xt) ∧ w'.cell? ⟨BX, 6, none⟩ = some (.int .i64 xA)) ⟨hB7.cell 2, hB7.cell 6⟩, HK.out _ _ ?_⟩
                clear HK K hB7 hB6 HBK
                refine wpPlan_last ?_
                simp only [pick]
                refine wpQuiet_nil ?_
                refine NoPanic.normal ?_
                go_wp2_with fail
                go_roundw
                case rel => exact ⟨k + 1, out2, q2, c2, _, by omega, rfl, by go_num, HG7.out, HO7.out, hbl7, hbs7, by omega, by rw [hN2.out]; exact HRP.out, hout2.out⟩
                case measure => simp [intOf]; omega
        · have h13b : (xk == 13) = false := by simpa using h13
          have hP : Hid ((ordO (l.take (k + 1)) fun _ => []) = out) := by
            have := HOT.out
            rw [ordP, if_neg h13, List.append_nil, ← hout.out] at this
            exact this
          have hN : Hid ((ordS (l.take (k + 1)) fun _ => []) = if xk = 14 ∧ xA ∈ zs then updN N xt (zs.eraseIdx (zs.findIdx (· == xA))) else N) := by
            have := HST.out
            rw [ordN, if_neg h13] at this
            dsimp only at this
            rw [← HZS.out] at this
            exact this
          clear HOT HST
          have hbsm : w.heap.size + 1 ≤ w2.heap.size := by omega
          by_cases hdo : xk = 14 ∧ xA ∈ zs
          · rcases hav with ⟨hmem, hav0, hav1, hav2⟩ | ⟨hno, -⟩
            · obtain ⟨rfl, -⟩ := hdo
              have hN2 : Hid ((ordS (l.take (k + 1)) fun _ => []) = updN N xt (zs.eraseIdx (zs.findIdx (· == xA)))) := by have := hN.out; rw [if_pos ⟨rfl, hmem⟩] at this; exact this
              generalize zs.findIdx (· == xA) = ix at *
              subst hav1
              have hgeb : decide ((ix : Int) ≥ 0) = true := by simp
              have hgeb2 : decide (0 ≤ (ix : Int)) = true := by simp
              have hixw : IntKind.i64.wrap ((ix : Int) + 1) = (ix : Int) + 1 := IntWalk.i64_in _ (by omega)
              clear hav0
              have hback := HBACK.out w2.drew ⟨Nat.le_refl _, rfl, fun _ _ h => h⟩
              have HBK := Lib.hid hback
              have hC : (fun w' : World => w'.cell? ⟨BX, 2, none⟩ = some (.int .i64 xt) ∧ w'.cell? ⟨BX, 6, none⟩ = some (.int .i64 xA)) w2.drew := ⟨HB.out.cell 2, HB.out.cell 6⟩
              have y0 := fun p : Cls (fun w' : World => w'.cell? ⟨BX, 2, none⟩ = some (.int .i64 xt) ∧ w'.cell? ⟨BX, 6, none⟩ = some (.int .i64 xA)) => p.h.1
              have y1 := fun p : Cls (fun w' : World => w'.cell? ⟨BX, 2, none⟩ = some (.int .i64 xt) ∧ w'.cell? ⟨BX, 6, none⟩ = some (.int .i64 xA)) => p.h.2
              haveI := cls_ne (C := fun w' : World => w'.cell? ⟨BX, 2, none⟩ = some (.int .i64 xt) ∧ w'.cell? ⟨BX, 6, none⟩ = some (.int .i64 xA)) hC
              have HPO := Lib.hid hP.out.symm
              clear hback hN hP hout HBACK
              go_wp2_with fail
              refine wp_region_plan (fun w' => ∃ p : Cls (fun w' : World => w'.cell? ⟨BX, 2, none⟩ = some (.int .i64 xt) ∧ w'.cell? ⟨BX, 6, none⟩ = some (.int .i64 xA)), w' = p.w) (.one [0, 1, 2, 3, 4, 5, 6] 7 (.one [] 8 (.last []))) rfl (by kernel_rfl) (by kernel_rfl) (by kernel_rfl) (cls_mk hC) ?_
              change wpPlan _ _ _ _ _ _ w2.drew
              refine wpPlan_one fun K hK => ?_
              have HK := Lib.hid hK; clear hK
              simp only [pick, List.getD_cons_succ, List.getD_cons_zero]
              iterate 7 (go_big_quiet_step (fail))
              refine wpQuiet_nil ?_
              clear y0 y1 this
              have hBx : Blk w2.drew BX #[.int .i64 14, .int .i64 xs, .int .i64 xt, .int .i64 xf, .int .i64 xa, .int .i64 xl, .int .i64 xA, .int .i64 xB, .int .i64 x1, .int .i64 x2, .int .i64 x3, .int .i64 x4] 41 := HB.out
              have hox : OwnP w2.drew (w.heap.size + 1) qo co out := HO1.out
              have hoix : OwnI w2.drew (w.heap.size + 1) q c zs := HOI.out.1
              have hoiw := HOI.out.2
              have hblx : Below w.heap.size w w2.drew := hbl1.drew
              have hbsx : w.heap.size + 1 ≤ w2.drew.heap.size := hbsm
              clear HB HO1 HOI hbl1 hbsm hbs1 HG1 hC hBX
              generalize w2.drew = wx at *
              have HDE := Lib.hid (delete_any hoix hav2)
              go_wp2_with fail
              refine HDE.out.mono ?_
              rintro _ w6 ⟨rfl, hown6, hg6⟩
              have hB6 : Blk w6 BX #[.int .i64 14, .int .i64 xs, .int .i64 xt, .int .i64 xf, .int .i64 xa, .int .i64 xl, .int .i64 xA, .int .i64 xB, .int .i64 x1, .int .i64 x2, .int .i64 x3, .int .i64 x4] 41 := (hg6.block _ hBx.lt (ints_ne hoix hBx (by decide))).trans hBx
              have ho6 := OwnP.stay hox hoix hg6
              have hbl6 := hblx.grown hg6 hblx.size (fun g' e => by have := (hoix.lt g' e).1; omega)
              have hlz : (zs.eraseIdx ix).length ≤ k + 1 := by have := HZL.out; rw [List.length_eraseIdx, if_pos hav2]; omega
              have HZ1 := Lib.hid hlz
              have hoi6 : w6.ownsInts (w.heap.size + 1) 3 .i64 (.slice q (zs.eraseIdx ix).length c) (zs.eraseIdx ix) := ⟨hown6, fun z hz => hoiw z (List.mem_of_mem_eraseIdx hz)⟩
              have HOI6 := Lib.hid hoi6
              have hloc : (Value.slice q (zs.eraseIdx ix).length c).ownBlock = (Value.slice q zs.length c).ownBlock ∨ ∃ g, (Value.slice q (zs.eraseIdx ix).length c).ownBlock = some g ∧ wx.heap.size ≤ g := .inl (by cases q <;> rfl)
              have HLOC := Lib.hid hloc
              clear hoi6 hown6 hoix hox hblx hBx hlz hloc
              generalize zs.eraseIdx ix = zs2 at *
              go_wp2_with fail
              refine ⟨cls_mk (C := fun w' : World => w'.cell? ⟨BX, 2, none⟩ = some (.int .i64 xt) ∧ w'.cell? ⟨BX, 6, none⟩ = some (.int .i64 xA)) ⟨hB6.cell 2, hB6.cell 6⟩, HK.out _ _ ?_⟩
              clear HK K
              refine wpPlan_one fun K hK => ?_
              have HK := Lib.hid hK; clear hK
              simp only [pick, List.getD_cons_succ, List.getD_cons_zero]
              refine wpQuiet_nil ?_
              go_wp2_with (refine wpList_mapUpdate_back w6 rfl _ _ _ 49 rfl HBK.out rfl rfl rfl hg6 HOI6.out HZ1.out HLOC.out ?_; intro w7 hG7 hg7)
              try go_frame
              have hB7 : Blk w7 BX #[.int .i64 14, .int .i64 xs, .int .i64 xt, .int .i64 xf, .int .i64 xa, .int .i64 xl, .int .i64 xA, .int .i64 xB, .int .i64 x1, .int .i64 x2, .int .i64 x3, .int .i64 x4] 41 := (hg7.block _ hB6.lt (fun e => hMB (by simpa using e.symm))).trans hB6
              have ho7 : OwnP w7 (w.heap.size + 1) qo co out := ho6.kept hg7 (by cases h : (Value.slice qo out.length co).ownBlock with | none => exact .inl rfl | some g => exact .inr (fun e => by have := (ho6.lt g h).1; cases e; omega))
              have hbl7 := hbl6.grown hg7 hbl6.size (fun g' e => by cases e; exact Nat.le_refl _)
              have hbs7 : w.heap.size + 1 ≤ w7.heap.size := by have := hg6.size; have := hg7.size; omega
              have hrp := HREP.out.put HWX.out.1 HOI6.out
              have HRP := Lib.hid hrp
              have HG7 := Lib.hid hG7
              have HO7 := Lib.hid ho7
              clear hG7 ho7 hrp ho6 hbl6 hg6
              refine ⟨cls_mk (C := fun w' : World => w'.cell? ⟨BX, 2, none⟩ = some (.int .i64 xt) ∧ w'.cell? ⟨BX, 6, none⟩ = some (.int .i64 xA)) ⟨hB7.cell 2, hB7.cell 6⟩, HK.out _ _ ?_⟩
              clear HK K hB7 hB6 HBK
              refine wpPlan_last ?_
              simp only [pick]
              refine wpQuiet_nil ?_
              refine NoPanic.normal ?_
              go_wp2_with fail
              go_roundw
              case rel => exact ⟨k + 1, out, qo, co, _, by omega, rfl, by go_num, HG7.out, HO7.out, hbl7, hbs7, by omega, by rw [hN2.out]; exact HRP.out, HPO.out⟩
              case measure => simp [intOf]; omega
            · exact absurd hdo.2 hno
          · have hN2 : Hid ((ordS (l.take (k + 1)) fun _ => []) = N) := by have := hN.out; rw [if_neg hdo] at this; exact this
            have hG2 := Lib.hid (groups_mono HG1.out (Nat.le_succ k))
            clear HBACK HOI HG1 hN HB hout
            by_cases h14 : xk = 14
            · have hno : xA ∉ zs := fun h => hdo ⟨h14, h⟩
              obtain rfl : av = -1 := by
                rcases hav with ⟨h, -⟩ | ⟨-, h⟩
                · exact absurd h hno
                · exact h
              subst h14
              go_wp2_with fail
              go_roundw
              case rel => exact ⟨k + 1, out, qo, co, D, by omega, rfl, by go_num, hG2.out, HO1.out, hbl1, hbsm, by omega, by rw [hN2.out]; exact HREP.out, hP.out.symm⟩
              case measure => simp [intOf]; omega
            · have h14b : (xk == 14) = false := by simpa using h14
              go_wp2_with fail
              go_roundw
              case rel => exact ⟨k + 1, out, qo, co, D, by omega, rfl, by go_num, hG2.out, HO1.out, hbl1, hbsm, by omega, by rw [hN2.out]; exact HREP.out, hP.out.symm⟩
              case measure => simp [intOf]; omega
      · obtain rfl : k = l.length := by omega
        rw [List.take_length] at hout
        have hR2 := HR.out
        unfold orderL at hR2
        rw [← hout.out] at hR2
        have hs1 := sortP_any ho rfl (by omega)
        have HS1 := Lib.hid hs1
        have HR2 := Lib.hid hR2
        have hbl0 := Lib.hid hbl
        have hsl : (sortP out).length = out.length := (sortP_perm out).length_eq
        have hqb : Hid (∀ a, qo = some a → w.heap.size ≤ a.block) := fun a e => by
          have := (ho.lt a.block (by rw [e]; rfl)).1
          omega
        clear hs1 hR2 HR hrep hG ho hout
        go_wp2_with fail
        refine HS1.out.mono ?_
        rintro _ w2 ⟨rfl, hown2, hb2⟩
        have hs2 := compact_any hown2 hsl.symm (Nat.le_trans hbs hb2.size)
        have HS2 := Lib.hid hs2
        clear hs2 hown2
        go_wp2_with fail
        refine HS2.out.mono ?_
        rintro _ w3 ⟨rfl, hsl3, hb3⟩
        rw [← HR2.out] at hsl3 ⊢
        have HS3 := Lib.hid hsl3
        clear hsl3
        go_wp2_with fail
        go_ret2
        exact ⟨qo, co, rfl, HS3.out, hqb.out, (hbl.trans (hb2.mono (Nat.le_succ _))).trans (hb3.mono (Nat.le_succ _))⟩
theorem order_any {w : World} {p : Option Addr} {cap : Nat} {l : List Ev} (hS : Sl w 12 p l.length cap (evs l)) (hwf : ∀ e ∈ l, (Lit.int .i64 e.t).wf = true ∧ (Lit.int .i64 e.A).wf = true) :
    Calls Try.prog 10 #[.slice p l.length cap] w fun e w' => ∃ q c, e = .returned (.tuple #[.slice q (orderM l).1.length c, .int .i64 (orderM l).2]) ∧ Sl w' 2 q (orderM l).1.length c (dps (orderM l).1) ∧ Below w.heap.size w w' :=
  (order_own hS hwf).mono fun _ _ ⟨q, c, h1, h2, _, h3⟩ => ⟨q, c, h1, h2, h3⟩
end Go.Proofs.Ytfcimbhjoioinaa
