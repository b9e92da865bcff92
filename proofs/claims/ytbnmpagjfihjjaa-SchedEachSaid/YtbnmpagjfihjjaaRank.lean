/-
  The walk of Rank.
-/
import Derived.Test.YtbnmpagjfihjjaaNth
namespace Go.Proofs.Ytbnmpagjfihjjaa
open Go.RowKit

def rankV : Option Nat → Int × Int
  | some n => ((n : Int), 0)
  | none => (0, 3)
def rankM (l v : List Int) : Int × Int := if rightM l = 0 then rankV (rnk (l.map Int.toNat) v) else (0, rightM l)

set_option maxRecDepth 100000 in
set_option maxHeartbeats 8000000 in
theorem rank_ok {w : World} {p q : Option Addr} {cap cap2 : Nat} {ps : List Nat} {l : List Int} (hS : SlI w p cap (nl ps)) (hV : SlI w q cap2 l) (hr : rightM (nl ps) = 0) (h8 : ps.length ≤ 8) (h12 : ps.sum ≤ 12) :
    Calls Try.prog 8 #[.slice p ps.length cap, .slice q l.length cap2] w fun e w' => e = .returned (.tuple #[.int .i64 (rankV (rnk ps l)).1, .int .i64 (rankV (rnk ps l)).2]) ∧ Below w.heap.size w w' := by
  obtain ⟨i0, hi, hz0, hz1, hz2⟩ := info_parts infoI
  have l1 := Sl.le hS
  have l2 := Sl.big hS
  have l3 := Sl.le hV
  have l4 := Sl.big hV
  rw [nl_len] at l1
  have hnb := cM_max h12
  have C1 := right_any hS
  rw [hr, nl_len] at C1
  have C3 := fun W (hW : Below w.heap.size w W) => clone_any (hS.below hW) (by rw [nl_len]; omega)
  rw [nl_len] at C3
  have D1 := Lib.hid C1; have D3 := Lib.hid C3; have H12 := Lib.hid h12; have HV := Lib.hid hV
  clear C1 C3 hr hS hV
  obtain ⟨R, hR⟩ : ∃ R, R = rnk ps l := ⟨_, rfl⟩
  rw [← hR]
  have HR := Lib.hid hR
  clear hR
  generalize hcm : cM 0 ps = cm at *
  have HCM := Lib.hid hcm
  clear hcm
  go_enter Try.func8, Try.ntmps8
  go_wp2_with fail
  refine D1.out.mono ?_
  rintro _ w1 ⟨rfl, hb1⟩
  go_wp2_with fail
  refine (D3.out _ hb1).mono ?_
  rintro _ w3 ⟨p7, c7, rfl, hown, hb3⟩
  replace hb3 := hb1.trans (hb3.mono hb1.size)
  have hL : w3.ownsRow w.heap.size 3 1 (.slice p7 ps.length c7) ps.length (ints .i64 (nl ps)) := by unfold OwnI at hown; rw [nl_len] at hown; exact own_mono hown hb1.size
  clear hown hb1 D1 D3
  obtain ⟨len, hlen⟩ : ∃ len, len = ps.length := ⟨_, rfl⟩
  rw [← hlen] at hL h8 l1 ⊢
  have HLEN := Lib.hid hlen
  clear hlen
  go_wp2_with fail
  go_loopg [8, 21] l.length (fun kx s8 s21 wr => ∃ (i n' : Nat) (qs : List Nat), s21 = .int .i64 i ∧ s8 = .int .i64 n' ∧ i ≤ l.length ∧ l.length - i ≤ kx ∧
    wr.ownsRow w.heap.size 3 1 (.slice p7 len c7) len (ints .i64 (nl qs)) ∧ Below w.heap.size w wr ∧ qs.sum ≤ 12 ∧ n' ≤ 8916100448256 ∧
    Hid (qs.length = len ∧ n' + cM 0 qs ≤ cm ∧ R = (rnk qs (l.drop i)).map (n' + ·)))
  case atStart => exact ⟨0, 0, ps, rfl, rfl, Nat.zero_le _, Nat.le_refl _, hL, hb3, H12.out, by omega, ⟨HLEN.out.symm, by rw [HCM.out]; omega, by rw [HR.out, List.drop_zero]; cases rnk ps l <;> simp⟩⟩
  case round =>
    clear hL hb3
    obtain ⟨i, n', qs, rfl, rfl, hil, hkx, hL, hbl, hqs, hnb', hx⟩ := hrel
    by_cases hlt : i < l.length
    · obtain ⟨b, off, hqq, hb, hc⟩ := Sl.int_at HV.out hlt
      subst hqq
      have hc' := (hbl.cell (p := ⟨b, off + i, none⟩) hb).trans hc
      have hdr : l.drop i = l.getD i 0 :: l.drop (i + 1) := by
        rw [List.drop_eq_getElem_cons hlt, List.getD_eq_getElem?_getD, List.getElem?_eq_getElem hlt]; rfl
      have hxx := hx.out.2.2
      rw [hdr, rnk] at hxx
      have HXX := Lib.hid hxx
      have HQL := Lib.hid hx.out.1
      have HCC := Lib.hid hx.out.2.1
      clear hc hdr hxx hx
      generalize l.getD i 0 = y at *
      by_cases hy0 : y < 0
      · have hR0 : R = none := by rw [HXX.out, if_neg (by omega)]; rfl
        subst hR0
        clear HXX
        go_wp2_with fail
        go_ret2
        exact ⟨rfl, hbl⟩
      · by_cases hy1 : (len : Int) ≤ y
        · have hR0 : R = none := by rw [HXX.out, if_neg (by rw [HQL.out]; omega)]; rfl
          subst hR0
          clear HXX
          go_wp2_with fail
          go_ret2
          exact ⟨rfl, hbl⟩
        · obtain ⟨k, rfl⟩ := Int.eq_ofNat_of_zero_le (show 0 ≤ y by omega)
          have hkl : k < len := by omega
          rw [Int.toNat_natCast] at HXX
          obtain ⟨U, hp7, hU⟩ : ∃ U, p7 = some ⟨U, 0, none⟩ ∧ w.heap.size ≤ U := by
            rcases hL.2 with ⟨hv, e⟩ | ⟨g, cap', cur, hv, hbg, hg, -⟩
            · omega
            · simp only [Value.slice.injEq, true_and] at hv
              exact ⟨g, hv.1, hbg⟩
          subst hp7
          have hcell := own_cell hL hkl
          rw [nl_getD] at hcell
          by_cases hq0 : qs.getD k 0 = 0
          · have hR0 : R = none := by rw [HXX.out, if_neg (by rw [hq0]; omega)]; rfl
            subst hR0
            rw [hq0] at hcell
            have hcell' : wr.cell? ⟨U, k, none⟩ = some (.int .i64 0) := hcell
            clear HXX hcell hq0
            go_wp2_with fail
            go_ret2
            exact ⟨rfl, hbl⟩
          · obtain ⟨u, hu⟩ : ∃ u, qs.getD k 0 = u + 1 := ⟨qs.getD k 0 - 1, by omega⟩
            have hxx := HXX.out
            rw [if_pos ⟨by omega, by rw [HQL.out]; omega, by omega⟩] at hxx
            have HX2 := Lib.hid hxx
            have hdd : dec qs k = qs.set k u := by unfold dec; rw [hu, Nat.add_sub_cancel]
            have hds := dec_sum (ps := qs) (k := k) (by omega)
            have hdl : (dec qs k).length = len := by rw [dec_len, HQL.out]
            have hw : wo qs k = cM 0 (dec qs k) := by unfold wo; rw [if_neg hq0]
            have hpa := pre_all (ps := qs) (by omega)
            have hpm := pre_mono qs (show k + 1 ≤ qs.length by rw [HQL.out]; exact hkl)
            rw [hpa, pre, hw] at hpm
            have hu12 : u ≤ 12 := by
              have h1 := take_succ_sum (ps := qs) (i := k) (by rw [HQL.out]; exact hkl)
              have h2 := take_sum_le qs (k + 1)
              omega
            have hprek : ∀ j, j ≤ k → n' + pre qs j ≤ 8916100448256 := fun j hj => by
              have h1 := pre_mono qs hj
              have h2 := HCC.out
              omega
            have hcb : n' + pre qs k + cM 0 (dec qs k) ≤ cm := by have := HCC.out; omega
            have hds1 : (dec qs k).sum ≤ 12 := by omega
            rw [hu] at hcell
            have HGD : Hid ((nl qs).getD k 0 = ((u + 1 : Nat) : Int)) := by show _ = _; rw [nl_getD, hu]
            have hne : (((u + 1 : Nat) : Int) == 0) = false := by rw [beq_eq_false_iff_ne]; omega
            have hwo := fun W (hW : Below wr.heap.size wr W) j (hj : j < len) => without_any (w := W) (p := some ⟨U, 0, none⟩) (cap := c7) (ps := qs) (by
              have := Sl.of_own (own_below hL hW)
              unfold SlI
              rw [nl_len, HQL.out]
              exact this) hqs (k := j) (by rw [HQL.out]; exact hj) (by rw [HQL.out]; omega)
            rw [HQL.out] at hwo
            have HWO := Lib.hid hwo; have HDD := Lib.hid hdd; have HDL := Lib.hid hdl; have HPK := Lib.hid hprek; have HCB := Lib.hid hcb
            clear hxx hdd hdl hw hpa hpm hq0 hwo HXX hu hds hprek hcb
            have hklz : (k : Int) < (len : Int) := by omega
            have hk0 : (0 : Int) ≤ (k : Int) := by omega
            go_wp2_with fail
            go_loopg [8, 41] k (fun kx s8 s41 wr2 => ∃ j : Nat, s41 = .int .i64 j ∧ s8 = .int .i64 ((n' + pre qs j : Nat) : Int) ∧ j ≤ k ∧ k - j ≤ kx ∧ Below wr.heap.size wr wr2)
            case atStart => exact ⟨0, rfl, rfl, Nat.zero_le _, Nat.le_refl _, Below.refl _ _⟩
            case round =>
              obtain ⟨j, rfl, rfl, hjk, hkx2, hb2⟩ := hrel
              by_cases hj : j < k
              · have hjz : (j : Int) < (k : Int) := by omega
                have hb := HPK.out (j + 1) (by omega)
                have hpj : n' + pre qs (j + 1) = (n' + pre qs j) + wo qs j := by rw [pre]; omega
                rw [hpj] at hb
                have HPJ := Lib.hid hpj
                clear hpj
                have hcal := HWO.out _ hb2 j (by omega)
                generalize n' + pre qs j = A at *
                generalize wo qs j = B at *
                go_wp2_with fail
                refine hcal.mono ?_
                rintro _ w8 ⟨rfl, hb8⟩
                replace hb8 := hb2.trans (hb8.mono hb2.size)
                clear hcal
                go_wp2_with fail
                go_roundg (k - (j + 1))
                case measure => omega
                case rel => exact ⟨j + 1, by go_num, by rw [HPJ.out]; go_num, by omega, Nat.le_refl _, hb8⟩
              · obtain rfl : j = k := by omega
                have hL2 := own_below hL hb2
                have hb3 := hbl.trans (hb2.mono hbl.size)
                have hcell2 := own_cell hL2 hkl
                rw [HGD.out] at hcell2
                have hfz := World.ownsRow.frozenAt hL2 j
                have hset := own_set hL2 j ((u : Nat) : Int)
                rw [nl_set, ← HDD.out] at hset
                have hb4 := hb3.setCell (p := ⟨U, j, none⟩) hU (.int .i64 (u : Int))
                have hA := HPK.out j (Nat.le_refl _)
                have HSET := Lib.hid hset
                clear hset hL2 hL HWO hb3 hcell
                have hh : ∀ W, (Instr.indexAt 22 (.slice (some ⟨U, 0, none⟩) len c7) (.int .i64 j)).run Try.prog W = .ok (.pointer (some ⟨U, j, none⟩)) W := fun W => by simp [go_sem, hklz, hk0]
                generalize hAA : n' + pre qs j = A at *
                have HAA := Lib.hid hAA
                clear hAA
                go_wp2_with fail
                go_roundg (l.length - (i + 1))
                case measure => omega
                case rel =>
                  refine ⟨i + 1, A, dec qs j, by go_num, rfl, by omega, Nat.le_refl _, HSET.out, hb4, hds1, hA, ⟨HDL.out, HCB.out, ?_⟩⟩
                  rw [HX2.out, Option.map_map]
                  congr 1
                  funext z
                  have := HAA.out
                  simp only [Function.comp]
                  omega
    · obtain rfl : i = l.length := by omega
      have hxx := hx.out.2.2
      rw [List.drop_length, rnk] at hxx
      have HXX := Lib.hid hxx
      have HQL := Lib.hid hx.out.1
      have hlz : ¬ (l.length : Int) < (l.length : Int) := by omega
      clear hxx hx
      have hz := hbl.size
      have hal := (Below.refl wr.heap.size wr).alloc (Nat.le_refl _) (.cells #[.int .i64 0] 3)
      have hL1 := own_below hL hal
      have hlit := lit_sl wr [(0 : Int)] (by simp) #[.int .i64 0] rfl _ rfl 1 rfl
      have hbl1 := hbl.trans (hal.mono hz)
      have hz1' := hbl1.size
      clear hal hL
      go_wp2_with (refine wpList_append_keep _ rfl _ _ 22 rfl w.heap.size 3 i0 (.int .i64 0) 1 8 Try.underlying22 hi hz0 hz1 hz2 rfl (by decide) (.slice p7 len c7) len (ints .i64 (nl qs)) rfl hL1 ⟨wr.heap.size, 0, none⟩ 1 1 (ints .i64 [(0 : Int)]) rfl rfl (fun j u hj => by rw [add_lit']; exact hlit.row.at_ hj) ints_one (by omega) (by omega) hz1' ?_; intro p5 c5 w5 hown5 hg5 hL5)
      have hmx := max_any (w := w5) (p := p5) (cap := c5) (l := nl qs ++ [0]) (by
        have := Sl.of_own hown5
        rw [← ints_append] at this
        unfold SlI
        rw [List.length_append, nl_len, HQL.out]
        exact this) (by simp)
      rw [List.length_append, nl_len, HQL.out] at hmx
      have HMX := Lib.hid hmx
      have hb5 : Below w.heap.size w w5 := hbl1.grown hg5 hz1' fun k hk => (hL1.lt k hk).1
      clear hmx hown5 hlit hL1 hg5 hbl1 hz1' hbl hz hL5
      refine HMX.out.mono ?_
      rintro _ w6 ⟨m, rfl, hm, hb6⟩
      replace hb6 := hb5.trans (hb6.mono hb5.size)
      rw [pos_iff] at hm
      clear HMX hb5
      by_cases h0 : 0 < qs.sum
      · have hm1 := hm.2 h0
        have hR0 : R = none := by rw [HXX.out, if_neg (by omega)]; rfl
        subst hR0
        clear hm HXX
        go_wp2_with fail
        go_ret2
        exact ⟨rfl, hb6⟩
      · have hm1 : ¬ 0 < m := fun h => h0 (hm.1 h)
        have hR0 : R = some n' := by rw [HXX.out, if_pos (by omega)]; simp
        subst hR0
        clear hm HXX
        go_wp2_with fail
        go_ret2
        exact ⟨rfl, hb6⟩

theorem rank_any {w : World} {p q : Option Addr} {cap cap2 : Nat} {l v : List Int} (hS : SlI w p cap l) (hV : SlI w q cap2 v) :
    Calls Try.prog 8 #[.slice p l.length cap, .slice q v.length cap2] w fun e w' => e = .returned (.tuple #[.int .i64 (rankM l v).1, .int .i64 (rankM l v).2]) ∧ Below w.heap.size w w' := by
  unfold rankM
  by_cases h0 : rightM l = 0
  · rw [if_pos h0]
    obtain ⟨ps, rfl, h8, h12⟩ := rightM_ok h0
    rw [nl_toNat, nl_len]
    exact rank_ok hS hV h0 h8 h12
  · rw [if_neg h0]
    have C1 := right_any hS
    have hd : (rightM l != 0) = true := by simpa using h0
    have D1 := Lib.hid C1
    clear C1 h0 hS hV
    generalize rightM l = r at *
    go_enter Try.func8, Try.ntmps8
    go_wp2_with fail
    refine D1.out.mono ?_
    rintro _ w1 ⟨rfl, hb1⟩
    go_wp2_with fail
    go_ret2
    exact ⟨rfl, hb1⟩
end Go.Proofs.Ytbnmpagjfihjjaa
