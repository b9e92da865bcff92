/-
  The walk of Nth.
-/
import Derived.Test.YtbnmpagjfihjjaaNthL
import Derived.Test.YtbnmpagjfihjjaaKeep
import Derived.Test.YtbnmpagjfihjjaaSep
import Derived.Test.YtbnmpagjfihjjaaBlk
import Derived.Deep.LoopGhost
namespace Go.Proofs.Ytbnmpagjfihjjaa
open Go.RowKit

def nthM (l : List Int) (n : Int) : List Int × Int :=
  if rightM l = 0 then (if 0 ≤ n ∧ n < (cM 0 (l.map Int.toNat) : Nat) then (nth (l.map Int.toNat).sum (l.map Int.toNat) n.toNat, 0) else ([], 1)) else ([], rightM l)
theorem mem_le_sum {n : Nat} : ∀ {ps : List Nat}, n ∈ ps → n ≤ ps.sum
  | [], h => by simp at h
  | p :: ps, h => by
    rw [List.sum_cons]
    rcases List.mem_cons.1 h with e | e
    · omega
    · have h2 := mem_le_sum e
      omega
theorem pos_iff (ps : List Nat) : (∃ x ∈ nl ps ++ [0], 0 < x) ↔ 0 < ps.sum := by
  constructor
  · rintro ⟨x, hx, h⟩
    rcases List.mem_append.1 hx with hx | hx
    · unfold nl at hx
      obtain ⟨n, hn, rfl⟩ := List.mem_map.1 hx
      have := mem_le_sum hn
      omega
    · simp at hx; omega
  · intro h
    induction ps with
    | nil => simp at h
    | cons p ps ih =>
      rw [List.sum_cons] at h
      by_cases hp : 0 < p
      · exact ⟨p, by simp [nl], by omega⟩
      · obtain ⟨x, hx, h2⟩ := ih (by omega)
        refine ⟨x, ?_, h2⟩
        rcases List.mem_append.1 hx with hx | hx
        · exact List.mem_append_left _ (by rw [show nl (p :: ps) = (p : Int) :: nl ps from rfl]; exact List.mem_cons_of_mem _ hx)
        · exact List.mem_append_right _ hx

set_option maxRecDepth 100000 in
set_option maxHeartbeats 8000000 in
theorem nth_ok {w : World} {p : Option Addr} {cap : Nat} {ps : List Nat} {n : Nat} (hS : SlI w p cap (nl ps)) (hr : rightM (nl ps) = 0) (h8 : ps.length ≤ 8) (h12 : ps.sum ≤ 12) (hn : n < cM 0 ps) :
    Calls Try.prog 7 #[.slice p ps.length cap, .int .i64 n] w fun e w' => ∃ q c, e = .returned (.tuple #[.slice q (nth ps.sum ps n).length c, .int .i64 0]) ∧ SlI w' q c (nth ps.sum ps n) ∧ Below w.heap.size w w' := by
  obtain ⟨i0, hi, hz0, hz1, hz2⟩ := info_parts infoI
  have l1 := Sl.le hS
  have l2 := Sl.big hS
  rw [nl_len] at l1
  have hnb := cM_max h12
  have C1 := right_any hS
  rw [hr, nl_len] at C1
  have C2 := fun W (hW : Below w.heap.size w W) => count_any (ps := ps) (hS.below hW) h12
  have C3 := fun W (hW : Below w.heap.size w W) => clone_any (hS.below hW) (by rw [nl_len]; omega)
  rw [nl_len] at C3
  have D1 := Lib.hid C1; have D2 := Lib.hid C2; have D3 := Lib.hid C3; have HN := Lib.hid hn; have H12 := Lib.hid h12
  have hnz : ¬ (n : Int) < 0 := by omega
  have hng : ¬ ((cM 0 ps : Nat) : Int) ≤ (n : Int) := by omega
  clear C1 C2 C3 hr hS hn
  obtain ⟨R, hR⟩ : ∃ R, R = nth ps.sum ps n := ⟨_, rfl⟩
  rw [← hR]
  have HR := Lib.hid hR
  clear hR
  generalize hcm : cM 0 ps = cm at *
  have HCM := Lib.hid hcm
  clear hcm
  go_enter Try.func7, Try.ntmps7
  go_wp2_with fail
  refine D1.out.mono ?_
  rintro _ w1 ⟨rfl, hb1⟩
  go_wp2_with fail
  refine (D2.out _ hb1).mono ?_
  rintro _ w2 ⟨rfl, hb2⟩
  replace hb2 := hb1.trans (hb2.mono hb1.size)
  clear hb1
  go_wp2_with fail
  refine (D3.out _ hb2).mono ?_
  rintro _ w3 ⟨p7, c7, rfl, hown, hb3⟩
  replace hb3 := hb2.trans (hb3.mono hb2.size)
  have hL : w3.ownsRow w.heap.size 3 1 (.slice p7 ps.length c7) ps.length (ints .i64 (nl ps)) := by unfold OwnI at hown; rw [nl_len] at hown; exact own_mono hown hb2.size
  clear hown hb2 D1 D2 D3
  obtain ⟨len, hlen⟩ : ∃ len, len = ps.length := ⟨_, rfl⟩
  rw [← hlen] at hL h8 l1 ⊢
  have HLEN := Lib.hid hlen
  clear hlen
  go_wp2_with fail
  go_loopg [1, 8] 12 (fun kx s1 s8 wr => ∃ (n' : Nat) (qs : List Nat) (q : Option Addr) (c : Nat) (o : List Int), s1 = .int .i64 n' ∧ s8 = .slice q o.length c ∧ OwnI wr w.heap.size q c o ∧ o.length ≤ 100 ∧
    wr.ownsRow w.heap.size 3 1 (.slice p7 len c7) len (ints .i64 (nl qs)) ∧ ((Value.slice q o.length c).ownBlock = none ∨ (Value.slice q o.length c).ownBlock ≠ (Value.slice p7 len c7).ownBlock) ∧ Below w.heap.size w wr ∧ qs.sum ≤ kx ∧ o.length + qs.sum ≤ 12 ∧ n' ≤ 8916100448256 ∧
    Hid (qs.length = len ∧ n' < cM 0 qs ∧ o ++ nth qs.sum qs n' = R))
  case atStart => exact ⟨n, ps, none, 0, [], rfl, rfl, World.ownsRow_nil _ _ _ _, by simp, hL, .inl rfl, hb3, H12.out, by have := H12.out; simp; omega, by omega, ⟨HLEN.out.symm, by rw [HCM.out]; exact HN.out, by rw [HR.out]; rfl⟩⟩
  case round =>
    clear hL hb3
    obtain ⟨n', qs, q, c, o, rfl, rfl, hO, hol, hL, hsep, hbl, hkx, hos, hnb', hx⟩ := hrel
    have hz := hbl.size
    have hal := (Below.refl wr.heap.size wr).alloc (Nat.le_refl _) (.cells #[.int .i64 0] 3)
    have hL1 := own_below hL hal
    have hO1 := own_below hO hal
    have hlit := lit_sl wr [(0 : Int)] (by simp) #[.int .i64 0] rfl _ rfl 1 rfl
    have hbl1 := hbl.trans (hal.mono hz)
    have hz1' := hbl1.size
    clear hal hL hO
    go_wp2_with (refine wpList_append_keep _ rfl _ _ 22 rfl w.heap.size 3 i0 (.int .i64 0) 1 8 Try.underlying22 hi hz0 hz1 hz2 rfl (by decide) (.slice p7 len c7) len (ints .i64 (nl qs)) rfl hL1 ⟨wr.heap.size, 0, none⟩ 1 1 (ints .i64 [(0 : Int)]) rfl rfl (fun j u hj => by rw [add_lit']; exact hlit.row.at_ hj) ints_one (by omega) (by omega) hz1' ?_; intro p5 c5 w5 hown5 hg5 hL5)
    have hmx := max_any (w := w5) (p := p5) (cap := c5) (l := nl qs ++ [0]) (by
      have := Sl.of_own hown5
      rw [← ints_append] at this
      unfold SlI
      rw [List.length_append, nl_len, hx.out.1]
      exact this) (by simp)
    rw [List.length_append, nl_len, hx.out.1] at hmx
    have HMX := Lib.hid hmx
    have hb5 : Below w.heap.size w w5 := hbl1.grown hg5 hz1' fun k hk => (hL1.lt k hk).1
    have hO5 : OwnI w5 w.heap.size q c o := hO1.kept hg5 hsep
    clear hmx hown5 hlit hL1 hO1 hg5 hbl1 hz1' hbl hz
    refine HMX.out.mono ?_
    rintro _ w6 ⟨m, rfl, hm, hb6⟩
    have hL6 := own_below hL5 hb6
    have hO6 := own_below hO5 hb6
    replace hb6 := hb5.trans (hb6.mono hb5.size)
    rw [pos_iff] at hm
    clear HMX hL5 hO5 hb5
    by_cases h0 : 0 < qs.sum
    · have hm1 := hm.2 h0
      have hall := pre_all h0
      have HALL := Lib.hid hall
      clear hm hall
      go_wp2_with fail
      go_loopg [1, 9] len (fun kx s1 s9 wr2 => ∃ (k x : Nat), s1 = .int .i64 x ∧ s9 = .int .i64 k ∧ x ≤ 8916100448256 ∧ Below w6.heap.size w6 wr2 ∧ len - k ≤ kx ∧ Hid (pre qs k ≤ n' ∧ x = n' - pre qs k))
      case atStart => exact ⟨0, n', rfl, rfl, hnb', Below.refl _ _, by omega, ⟨Nat.zero_le _, rfl⟩⟩
      case round =>
        obtain ⟨k, x, rfl, rfl, hxb, hb7, hkx7, hp⟩ := hrel
        have hkl : k < len := by
          rcases Nat.lt_or_ge k len with h | h
          · exact h
          · have h1 := pre_mono qs (show qs.length ≤ k by rw [hx.out.1]; exact h)
            have h2 := HALL.out
            have h3 := hx.out.2.1
            have h4 := hp.out.1
            omega
        have hwo := fun W (hW : Below w6.heap.size w6 W) => without_any (w := W) (p := p7) (cap := c7) (ps := qs) (by
          have := Sl.of_own (own_below hL6 hW)
          unfold SlI
          rw [nl_len, hx.out.1]
          exact this) (by omega) (k := k) (by rw [hx.out.1]; exact hkl) (by rw [hx.out.1]; omega)
        rw [hx.out.1] at hwo
        have hpk : pre qs (k + 1) = pre qs k + wo qs k := rfl
        have HPK := Lib.hid hpk
        have HWO := Lib.hid hwo
        clear hpk hwo
        obtain ⟨v, hv⟩ : ∃ v, v = wo qs k := ⟨_, rfl⟩
        rw [← hv] at HWO HPK
        have HV := Lib.hid hv
        clear hv
        by_cases hge : v ≤ x
        · have hgez : (v : Int) ≤ (x : Int) := by omega
          go_wp2_with fail
          refine (HWO.out _ hb7).mono ?_
          rintro _ w8 ⟨rfl, hb8⟩
          replace hb8 := hb7.trans (hb8.mono hb7.size)
          go_wp2_with fail
          refine (HWO.out _ hb8).mono ?_
          rintro _ w9 ⟨rfl, hb9⟩
          replace hb9 := hb8.trans (hb9.mono hb8.size)
          go_wp2_with fail
          go_roundg (len - (k + 1))
          case measure => omega
          case rel => exact ⟨k + 1, x - v, by go_num, by go_num, by omega, hb9, Nat.le_refl _, ⟨by have := HPK.out; have := hp.out; omega, by have := HPK.out; have := hp.out; omega⟩⟩
        · have hgez : ¬ (v : Int) ≤ (x : Int) := by omega
          have hF : IsF qs n' k := ⟨by rw [hx.out.1]; exact hkl, hp.out.1, by have := HPK.out; have := hp.out; omega⟩
          obtain ⟨g1, g2⟩ := isF_pos hF
          have g3 := dec_sum g1
          have g4 := nth_step h0 hF
          have hxx := hp.out.2
          rw [← hxx] at g2 g4
          have hR2 : (o ++ [(k : Int)]) ++ nth (dec qs k).sum (dec qs k) x = R := by
            rw [← hx.out.2.2, g4, List.append_assoc]; rfl
          have hdl : (dec qs k).length = len := by rw [dec_len, hx.out.1]
          have HR2 := Lib.hid hR2; have HG2 := Lib.hid g2; have HDL := Lib.hid hdl; have HQL := Lib.hid hx.out.1
          have g5 : (dec qs k).sum + 1 ≤ qs.sum := by omega
          have hdd : dec qs k = qs.set k (qs.getD k 0 - 1) := rfl
          have HDD := Lib.hid hdd
          clear hR2 g2 hdl hF g3 g4 hxx hp hx hdd
          go_wp2_with fail
          refine (HWO.out _ hb7).mono ?_
          rintro _ w8 ⟨rfl, hb8⟩
          have hL8 := own_below (own_below hL6 hb7) hb8
          have hO8 := own_below (own_below hO6 hb7) hb8
          replace hb8 := (hb6.trans (hb7.mono hb6.size)).trans (hb8.mono (Nat.le_trans hb6.size hb7.size))
          clear hL6 hO6 hb7 hb6 HWO HV HPK HALL
          have hz8 := hb8.size
          have hal := (Below.refl w8.heap.size w8).alloc (Nat.le_refl _) (.cells #[.int .i64 (k : Int)] 3)
          have hL9 := own_below hL8 hal
          have hO9 := own_below hO8 hal
          have hlit := lit_sl w8 [(k : Int)] (by simp) #[.int .i64 (k : Int)] rfl _ rfl 1 rfl
          have hb9 := hb8.trans (hal.mono hz8)
          have hz9 := hb9.size
          have hnew : (Value.slice p7 len c7).ownBlock ≠ some (w8.alloc (.cells #[.int .i64 (k : Int)] 3)).heap.size := fun e => by
            have := (hL9.lt _ e).2
            omega
          clear hal hL8 hO8
          go_wp2_with (refine wpList_append_sep _ rfl _ _ 22 rfl w.heap.size 3 i0 (.int .i64 0) 1 8 Try.underlying22 hi hz0 hz1 hz2 rfl (by decide) (.slice q o.length c) o.length (ints .i64 o) rfl hO9 ⟨w8.heap.size, 0, none⟩ 1 1 (ints .i64 [(k : Int)]) rfl rfl (fun j u hj => by rw [add_lit']; exact hlit.row.at_ hj) ints_one (by omega) (by omega) hz9 ?_; intro p10 c10 w10 hO10 hg10 hs10)
          have hL10 := hL9.kept hg10 (by
            rcases hsep with h | h
            · cases hob : (Value.slice p7 len c7).ownBlock with
              | none => exact .inl rfl
              | some g => exact .inr (by rw [h]; simp)
            · exact .inr (fun e => h e.symm))
          have hb10 : Below w.heap.size w w10 := hb9.grown hg10 hz9 fun k hk => (hO9.lt k hk).1
          have hsep10 : (Value.slice p10 (o.length + 1) c10).ownBlock = none ∨ (Value.slice p10 (o.length + 1) c10).ownBlock ≠ (Value.slice p7 len c7).ownBlock := by
            rcases hs10 with h | h
            · rw [h]; exact hsep
            · rw [h]; exact .inr fun e => hnew e.symm
          obtain ⟨U, hp7, hU⟩ : ∃ U, p7 = some ⟨U, 0, none⟩ ∧ w.heap.size ≤ U := by
            rcases hL10.2 with ⟨hv, e⟩ | ⟨g, cap', cur, hv, hbg, hg, -⟩
            · omega
            · simp only [Value.slice.injEq, true_and] at hv
              exact ⟨g, hv.1, hbg⟩
          subst hp7
          have hcell := own_cell hL10 hkl
          rw [nl_getD] at hcell
          have hfz := World.ownsRow.frozenAt hL10 k
          obtain ⟨u, hu⟩ : ∃ u, qs.getD k 0 = u + 1 := ⟨qs.getD k 0 - 1, by omega⟩
          have hset := own_set hL10 k ((u : Nat) : Int)
          have hdd := HDD.out
          rw [hu, Nat.add_sub_cancel] at hdd
          rw [nl_set, ← hdd] at hset
          rw [hu] at hcell
          have hu12 : u ≤ 12 := by
            have h1 := take_succ_sum (ps := qs) (i := k) (by rw [HQL.out]; exact hkl)
            have h2 := take_sum_le qs (k + 1)
            omega
          have hb11 := hb10.setCell (p := ⟨U, k, none⟩) hU (.int .i64 (u : Int))
          have hO11 := hO10.kept (grown_set w10 U k (.int .i64 (u : Int))) (by
            rcases hsep10 with h | h
            · exact .inl h
            · exact .inr h)
          rw [← ints_append] at hO11
          have hol2 : o.length + 1 = (o ++ [(k : Int)]).length := by simp
          have HOL2 := Lib.hid hol2
          have HSET := Lib.hid hset
          have hklz : (k : Int) < (len : Int) := by omega
          have hk0 : (0 : Int) ≤ (k : Int) := by omega
          clear hol2 hset hdd HDD hL9 hO9 hlit hnew hg10 hs10 hL10 hO10 hsep hu hb9 hz9 hb8 hz8
          have hh : ∀ W, (Instr.indexAt 22 (.slice (some ⟨U, 0, none⟩) len c7) (.int .i64 k)).run Try.prog W = .ok (.pointer (some ⟨U, k, none⟩)) W := fun W => by simp [go_sem, hklz, hk0]
          go_wp2_with fail
          simp only [hh, Result.andThen_ok]
          go_wp2_with fail
          go_roundg (dec qs k).sum
          case measure => omega
          case rel =>
            refine ⟨x, dec qs k, p10, c10, o ++ [(k : Int)], rfl, by rw [HOL2.out], by unfold OwnI; rw [← HOL2.out]; exact hO11, by rw [← HOL2.out]; omega, HSET.out, by rw [← HOL2.out]; exact hsep10, hb11, Nat.le_refl _, by rw [← HOL2.out]; omega, hxb, ⟨HDL.out, HG2.out, HR2.out⟩⟩
    · have hm1 : ¬ 0 < m := fun h => h0 (hm.1 h)
      have hs0 : qs.sum = 0 := by omega
      have hoR : o = R := by
        have := hx.out.2.2
        rw [nth_zero hs0, List.append_nil] at this
        exact this
      subst hoR
      clear hm hx h0
      go_wp2_with fail
      go_ret2
      exact ⟨q, c, rfl, Sl.of_own hO6, hb6⟩

theorem nth_any {w : World} {p : Option Addr} {cap : Nat} {l : List Int} (n : Int) (hS : SlI w p cap l) :
    Calls Try.prog 7 #[.slice p l.length cap, .int .i64 n] w fun e w' => ∃ q c, e = .returned (.tuple #[.slice q (nthM l n).1.length c, .int .i64 (nthM l n).2]) ∧ SlI w' q c (nthM l n).1 ∧ Below w.heap.size w w' := by
  unfold nthM
  by_cases h0 : rightM l = 0
  · rw [if_pos h0]
    obtain ⟨ps, rfl, h8, h12⟩ := rightM_ok h0
    rw [nl_toNat]
    by_cases hn : 0 ≤ n ∧ n < (cM 0 ps : Nat)
    · rw [if_pos hn]
      obtain ⟨m, rfl⟩ := Int.eq_ofNat_of_zero_le hn.1
      have := nth_ok hS h0 h8 h12 (n := m) (by omega)
      rw [nl_len, Int.toNat_natCast]
      exact this
    · rw [if_neg hn]
      have C1 := right_any hS
      rw [h0, nl_len] at C1
      have C2 := fun W (hW : Below w.heap.size w W) => count_any (ps := ps) (hS.below hW) h12
      rw [nl_len]
      have D1 := Lib.hid C1; have D2 := Lib.hid C2
      clear C1 C2 h0 hS h12
      by_cases hneg : n < 0
      · clear hn
        go_enter Try.func7, Try.ntmps7
        go_wp2_with fail
        refine D1.out.mono ?_
        rintro _ w1 ⟨rfl, hb1⟩
        go_wp2_with fail
        go_ret2
        exact ⟨none, 0, rfl, Sl.zero _ _, hb1⟩
      · have hge : ((cM 0 ps : Nat) : Int) ≤ n := by omega
        clear hn
        generalize cM 0 ps = cm at *
        go_enter Try.func7, Try.ntmps7
        go_wp2_with fail
        refine D1.out.mono ?_
        rintro _ w1 ⟨rfl, hb1⟩
        go_wp2_with fail
        refine (D2.out _ hb1).mono ?_
        rintro _ w2 ⟨rfl, hb2⟩
        go_wp2_with fail
        go_ret2
        exact ⟨none, 0, rfl, Sl.zero _ _, hb1.trans (hb2.mono hb1.size)⟩
  · rw [if_neg h0]
    have C1 := right_any hS
    have hd : (rightM l != 0) = true := by simpa using h0
    have hd2 : (rightM l == 0) = false := by simpa using h0
    have D1 := Lib.hid C1
    clear C1 h0 hS
    generalize rightM l = r at *
    go_enter Try.func7, Try.ntmps7
    go_wp2_with fail
    refine D1.out.mono ?_
    rintro _ w1 ⟨rfl, hb1⟩
    go_wp2_with fail
    go_ret2
    exact ⟨none, 0, rfl, Sl.zero _ _, hb1⟩
end Go.Proofs.Ytbnmpagjfihjjaa
