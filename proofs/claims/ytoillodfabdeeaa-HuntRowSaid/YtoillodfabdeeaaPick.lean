/-
  pick, Pick.
-/
import Derived.Test.YtoillodfabdeeaaAsk
import Derived.Lib.MinMax
namespace Go.Proofs.Ytoillodfabdeeaa
open Go.RowKit Go.Sort

/-- How many of l stand in S. -/
def partN (S l : List Int) : Nat := l.countP fun k => decide (k ∈ S)
def halfI (S l : List Int) : Int := min (partN S l : Int) ((S.length : Int) - partN S l)
def pickStep (ps : List Pt) (S : List Int) (bad : Int) (st : Int × Int) (n : Int) : Int × Int :=
  if n ≠ bad ∧ st.1 < halfI S (Bk ps n.toNat) then (halfI S (Bk ps n.toNat), n) else st
def pickTo (ps : List Pt) (S : List Int) (bad : Int) (l : List Int) : Int × Int := l.foldl (pickStep ps S bad) (-1, -1)
def pickP (ps : List Pt) (S : List Int) (bad : Int) : Int := (pickTo ps S bad S).2
theorem pickTo_snoc (ps : List Pt) (S : List Int) (bad : Int) (l : List Int) (n : Int) : pickTo ps S bad (l ++ [n]) = pickStep ps S bad (pickTo ps S bad l) n := by simp [pickTo]
theorem partN_snoc (S l : List Int) (n : Int) : partN S (l ++ [n]) = partN S l + (if decide (n ∈ S) = true then 1 else 0) := by
  unfold partN
  rw [List.countP_append, List.countP_singleton]
theorem partN_le (S l : List Int) : partN S l ≤ l.length := List.countP_le_length

set_option maxRecDepth 100000 in
set_option maxHeartbeats 4000000 in
theorem pick_any {w : World} {hp : Nat} {ps hs : List Pt} {q : Option Addr} {cap : Nat} {S : List Int} (hH : Hold w hp hs) (hI : IsBk ps hs) (hS : SlI w q cap S) (hr : ∀ n ∈ S, 0 ≤ n ∧ n < ps.length) (bad : Int) :
    Calls Try.prog 22 #[.pointer (some ⟨hp, 0, none⟩), .slice q S.length cap, .int .i64 bad] w fun e w' => e = .returned (.int .i64 (pickP ps S bad)) ∧ w = w' := by
  have hm : S.length ≤ 9223372036854775807 := Nat.le_trans hS.le hS.big
  obtain ⟨⟨bp, bc, h1, h2⟩, h3⟩ := hH
  have c1 := h1.cell 0
  change w.cell? ⟨hp, 0, none⟩ = some (.slice bp hs.length bc) at c1
  clear h1
  go_enter Try.func22, Try.ntmps22
  go_wp2_with fail
  go_loop [7, 8, 17] (fun b o s => ∃ (k : Nat) (bi oi : Int), k ≤ S.length ∧ s = .int .i64 k ∧ b = .int .i64 bi ∧ o = .int .i64 oi ∧ Hid (pickTo ps S bad (S.take k) = (bi, oi))) (fun _ _ s => S.length - (intOf s).toNat)
  case atStart => exact ⟨0, -1, -1, Nat.zero_le _, rfl, rfl, rfl, by simp [Hid, pickTo]⟩
  case round =>
    obtain ⟨k, bi, oi, hk, rfl, rfl, rfl, hto⟩ := hrel
    by_cases hlt : k < S.length
    · have hx := hr (S.getD k 0) (by simp [hlt])
      obtain ⟨b, off, rfl, hb, hc⟩ := Sl.int_at hS hlt
      have hsn := pickTo_snoc ps S bad (S.take k) (S.getD k 0)
      rw [← int_take_snoc hlt, hto.out] at hsn
      obtain ⟨y, hy⟩ := Int.eq_ofNat_of_zero_le hx.1
      rw [hy] at hc hx hsn
      have hyl : y < hs.length := by rw [hI.1]; omega
      have hyl' : (y : Int) < (hs.length : Int) := by omega
      have hbk := hI.2 y (by omega)
      obtain ⟨b2, off2, rfl, hb2, hc2, hpt⟩ := h2.at_ hyl
      have hpt' : Sl w 1 _ _ _ _ := hpt
      have hfew := h3 y hyl
      unfold pickStep at hsn
      dsimp only at hsn
      rw [Int.toNat_natCast, ← hbk] at hsn
      have Hsn := Lib.hid hsn; clear hsn hbk hpt hy hx
      generalize hs.getD y .none = x at *
      obtain ⟨xp, xc, xl⟩ := x
      dsimp only [Pt.val] at *
      have hxl : xl.length ≤ 9223372036854775807 := by omega
      go_wp2_with fail
      clear hc
      go_loop [11, 29] (fun c s => ∃ j : Nat, j ≤ xl.length ∧ s = .int .i64 j ∧ c = .int .i64 (partN S (xl.take j))) (fun _ s => xl.length - (intOf s).toNat)
      case atStart => exact ⟨0, Nat.zero_le _, rfl, by simp [partN]⟩
      case round =>
        obtain ⟨j, hj, rfl, rfl⟩ := hrel
        by_cases hjl : j < xl.length
        · obtain ⟨b3, off3, rfl, hb3, hc3⟩ := Sl.int_at hpt' hjl
          have hps := partN_snoc S (xl.take j) (xl.getD j 0)
          rw [← int_take_snoc hjl] at hps
          have hpl := partN_le S (xl.take j)
          have hpl2 : partN S (xl.take j) ≤ 200 := by simp at hpl; omega
          have hcon := containsV_any (xl.getD j 0) hS
          have Hps := Lib.hid hps; have HC := Lib.hid hcon; clear hps hcon hpl
          generalize partN S (xl.take j) = pn at *
          generalize xl.getD j 0 = z at *
          cases hd : decide (z ∈ S) with
          | true =>
            have hps := Hps.out
            have hcon := HC.out
            rw [hd, if_pos rfl] at hps
            rw [hd] at hcon
            have HP2 := Lib.hid hps; have HC2 := Lib.hid hcon; clear hps hcon HC Hps hd
            go_wp2_with fail
            refine HC2.out.mono ?_
            rintro _ w1 ⟨rfl, rfl⟩
            go_wp2_with fail
            go_round
            case rel => exact ⟨j + 1, by omega, by go_num, by rw [HP2.out]; go_num⟩
            case measure => simp [intOf]; omega
          | false =>
            have hps := Hps.out
            have hcon := HC.out
            rw [hd, if_neg (by simp)] at hps
            rw [hd] at hcon
            have HP2 := Lib.hid hps; have HC2 := Lib.hid hcon; clear hps hcon HC Hps hd
            go_wp2_with fail
            refine HC2.out.mono ?_
            rintro _ w1 ⟨rfl, rfl⟩
            go_wp2_with fail
            go_round
            case rel => exact ⟨j + 1, by omega, by go_num, by rw [HP2.out]; rfl⟩
            case measure => simp [intOf]; omega
        · obtain rfl : j = xl.length := by omega
          rw [List.take_length]
          have hpl2 : partN S xl ≤ 200 := Nat.le_trans (partN_le S xl) hfew
          have hsn := Hsn.out
          unfold halfI at hsn
          have Hs2 := Lib.hid hsn; clear hsn Hsn
          generalize partN S xl = pn at *
          obtain ⟨hv, hhv⟩ : ∃ v : Int, min (pn : Int) ((S.length : Int) - pn) = v := ⟨_, rfl⟩
          have hhb : -9223372036854775808 ≤ hv ∧ hv ≤ 9223372036854775807 := by omega
          rw [hhv] at Hs2
          by_cases hnb : (y : Int) = bad
          · have hne : ((y : Int) != bad) = false := by simp [hnb]
            have hsn := Hs2.out
            rw [if_neg (by simp [hnb])] at hsn
            have Hs3 := Lib.hid hsn; clear hsn Hs2 hnb
            go_wp2_with fail
            go_round
            case rel => exact ⟨k + 1, bi, oi, by omega, by go_num, rfl, rfl, Hs3.out⟩
            case measure => simp [intOf]; omega
          · have hne : ((y : Int) != bad) = true := by simp [hnb]
            by_cases hgt : bi < hv
            · have hsn := Hs2.out
              rw [if_pos ⟨hnb, hgt⟩] at hsn
              have Hs3 := Lib.hid hsn; clear hsn Hs2 hnb
              go_wp2_with fail
              go_round
              case rel => exact ⟨k + 1, hv, y, by omega, by go_num, rfl, rfl, Hs3.out⟩
              case measure => simp [intOf]; omega
            · have hsn := Hs2.out
              rw [if_neg (fun h => hgt h.2)] at hsn
              have Hs3 := Lib.hid hsn; clear hsn Hs2 hnb
              go_wp2_with fail
              go_round
              case rel => exact ⟨k + 1, bi, oi, by omega, by go_num, rfl, rfl, Hs3.out⟩
              case measure => simp [intOf]; omega
    · obtain rfl : k = S.length := by omega
      have hfin : pickP ps S bad = oi := by
        have := hto.out
        rw [List.take_length] at this
        unfold pickP
        rw [this]
      have Hf := Lib.hid hfin; clear hfin hto
      go_wp2_with fail
      go_ret
      exact ⟨ret_int Hf.out.symm, rfl⟩

def pickM (ps : List Pt) (bad : Int) (good : List Int) : Int := pickP ps (suspP ps bad.toNat good) bad

set_option maxRecDepth 100000 in
set_option maxHeartbeats 1000000 in
theorem Pick_any {w : World} {p q : Option Addr} {cap cap2 : Nat} {ps : List Pt} {good : List Int} (hR : Deps w p cap ps) (hG : SlI w q cap2 good) (bad : Int) :
    Calls Try.prog 14 #[.slice p ps.length cap, .int .i64 bad, .slice q good.length cap2] w fun e w' =>
      e = .returned (.tuple #[.int .i64 (if askE ps bad good = 0 then max (pickM ps bad good) 0 else 0), .bool (decide (askE ps bad good = 0) && decide (0 ≤ pickM ps bad good)), .int .i64 (askE ps bad good)]) ∧ Below w.heap.size w w' := by
  have hask := asked_any hR hG bad
  have hmem := fun n h => suspP_mem (ps := ps) (bad := bad.toNat) (good := good) (n := n) h
  have hpm : pickM ps bad good = pickP ps (suspP ps bad.toNat good) bad := rfl
  have HA := Lib.hid hask; have HM := Lib.hid hmem; have HP := Lib.hid hpm; clear hask hmem hpm
  generalize askE ps bad good = er at *
  generalize pickM ps bad good = pm at *
  generalize suspP ps bad.toNat good = sp at *
  go_enter Try.func14, Try.ntmps14
  go_wp2_with fail
  refine HA.out.mono ?_
  rintro _ w1 ⟨h1, hb1⟩
  rcases h1 with ⟨rfl, hp, hs, q', c', rfl, hH, hI, hown⟩ | ⟨hne, rfl⟩
  · have hpick := pick_any hH hI (Sl.of_own hown) HM.out bad
    rw [← HP.out] at hpick
    have HK := Lib.hid hpick; clear hpick
    go_wp2_with fail
    refine HK.out.mono ?_
    rintro _ w2 ⟨rfl, rfl⟩
    go_wp2_with fail
    go_ret3
    exact ⟨by simp, hb1⟩
  · have HN := Lib.hid hne
    have hne' : (er != 0) = true := by simpa using hne
    clear hne
    go_wp2_with fail
    go_ret3
    exact ⟨rfl, hb1⟩
end Go.Proofs.Ytoillodfabdeeaa
