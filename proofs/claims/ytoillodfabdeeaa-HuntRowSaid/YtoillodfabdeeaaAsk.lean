/-
  asked, Suspects, pick, Pick.
-/
import Derived.Test.YtoillodfabdeeaaBegin
namespace Go.Proofs.Ytoillodfabdeeaa
open Go.RowKit Go.Sort

def suspP (ps : List Pt) (bad : Nat) (good : List Int) : List Int := keptL (fun n => good.any fun g => decide (n ∈ Bk ps g.toNat)) (Bk ps bad)
def askE (ps : List Pt) (bad : Int) (good : List Int) : Int := if errB ps bad good = 0 then (if bad ∈ suspP ps bad.toNat good then 0 else 8) else errB ps bad good
def susL (ps : List Pt) (bad : Int) (good : List Int) : List Int := if askE ps bad good = 0 then suspP ps bad.toNat good else []
theorem errB_zero {ps : List Pt} {bad : Int} {good : List Int} (h : errB ps bad good = 0) : OkD ps ∧ (0 ≤ bad ∧ bad < ps.length) ∧ GoodOk ps good := by
  unfold errB at h
  split at h
  · next hc =>
    obtain ⟨h1, h2⟩ := checkM_zero hc
    refine ⟨h1, h2 bad (by simp), fun g hg => ?_⟩
    split at h
    · omega
    · next hb =>
      rw [Bool.not_eq_true, List.any_eq_false] at hb
      have := hb g hg
      unfold placeBad at this
      simp at this
      exact this
  · next hc => exact absurd h hc
theorem susp_eq {ps hs : List Pt} {bad : Nat} {good : List Int} (hI : IsBk ps hs) (hg : GoodOk ps good) (hb : bad < ps.length) : suspM hs bad good = suspP ps bad good := by
  unfold suspM suspP
  rw [hI.2 bad hb]
  have e : outB hs good = fun n => good.any fun g => decide (n ∈ Bk ps g.toNat) := by
    funext n
    unfold outB
    rw [Bool.eq_iff_iff, List.any_eq_true, List.any_eq_true]
    constructor
    · rintro ⟨g, hgm, h⟩
      refine ⟨g, hgm, ?_⟩
      have := hg g hgm
      unfold goodAt at h
      rwa [hI.2 g.toNat (by omega)] at h
    · rintro ⟨g, hgm, h⟩
      refine ⟨g, hgm, ?_⟩
      have := hg g hgm
      unfold goodAt
      rwa [hI.2 g.toNat (by omega)]
  rw [e]
theorem suspP_len {ps : List Pt} {bad : Nat} {good : List Int} : (suspP ps bad good).length ≤ ps.length := Nat.le_trans (List.length_filter_le _ _) (Bk_len ps bad)
theorem Bk_mem {ps : List Pt} {i : Nat} {n : Int} (h : n ∈ Bk ps i) : 0 ≤ n ∧ n < ps.length := by
  unfold Bk listedL at h
  rw [List.mem_map] at h
  obtain ⟨k, hk, rfl⟩ := h
  rw [List.mem_filter, List.mem_range] at hk
  omega
theorem suspP_mem {ps : List Pt} {bad : Nat} {good : List Int} {n : Int} (h : n ∈ suspP ps bad good) : 0 ≤ n ∧ n < ps.length := Bk_mem (List.mem_filter.1 h).1

set_option maxRecDepth 100000 in
set_option maxHeartbeats 2000000 in
theorem asked_any {w : World} {p q : Option Addr} {cap cap2 : Nat} {ps : List Pt} {good : List Int} (hR : Deps w p cap ps) (hG : SlI w q cap2 good) (bad : Int) :
    Calls Try.prog 17 #[.slice p ps.length cap, .int .i64 bad, .slice q good.length cap2] w fun e w' =>
      ((askE ps bad good = 0 ∧ ∃ hp hs q' c', e = .returned (.tuple #[.pointer (some ⟨hp, 0, none⟩), .slice q' (suspP ps bad.toNat good).length c', .int .i64 0]) ∧ Hold w' hp hs ∧ IsBk ps hs ∧ OwnI w' w.heap.size q' c' (suspP ps bad.toNat good)) ∨
        (askE ps bad good ≠ 0 ∧ e = .returned (.tuple #[.pointer none, .slice none 0 0, .int .i64 (askE ps bad good)]))) ∧ Below w.heap.size w w' := by
  have hbeg := begin_any hR hG bad
  have hE : askE ps bad good = if errB ps bad good = 0 then (if bad ∈ suspP ps bad.toNat good then 0 else 8) else errB ps bad good := rfl
  have hz := fun h => errB_zero (ps := ps) (bad := bad) (good := good) h
  have hlen := suspP_len (ps := ps) (bad := bad.toNat) (good := good)
  have HB := Lib.hid hbeg; have HE := Lib.hid hE; have HZ := Lib.hid hz; clear hbeg hE hz
  generalize errB ps bad good = er at *
  go_enter Try.func17, Try.ntmps17
  go_wp2_with fail
  refine HB.out.mono ?_
  rintro _ w1 ⟨h1, hb1⟩
  rcases h1 with ⟨rfl, hp, hs, rfl, hH, hI⟩ | ⟨hne, rfl⟩
  · obtain ⟨hO, hbad, hgok⟩ := HZ.out rfl
    obtain ⟨k, rfl⟩ := Int.eq_ofNat_of_zero_le hbad.1
    have hkl : k < ps.length := by omega
    have hsu := susp_any hH (hG.below hb1) (fun g hg => by rw [hI.1]; exact hgok g hg) k (by rw [hI.1]; exact hkl)
    rw [susp_eq hI hgok hkl] at hsu
    rw [Int.toNat_natCast] at *
    have HS := Lib.hid hsu; have HI := Lib.hid hI; clear hsu hI
    go_wp2_with fail
    refine HS.out.mono ?_
    rintro _ w2 ⟨q2, c2, rfl, hown, hb2⟩
    have hcon := containsV_any (k : Int) (Sl.of_own hown)
    have HC := Lib.hid hcon; clear hcon
    go_wp2_with fail
    refine HC.out.mono ?_
    rintro _ w3 ⟨rfl, rfl⟩
    have hb := hb1.trans (hb2.mono hb1.size)
    by_cases hm : (k : Int) ∈ suspP ps k good
    · have h0 : askE ps k good = 0 := by rw [HE.out]; simp [hm]
      have hd : decide ((k : Int) ∈ suspP ps k good) = true := decide_eq_true hm
      have hsl : suspP ps ((k : Int)).toNat good = suspP ps k good := by rw [Int.toNat_natCast]
      have H0 := Lib.hid h0; have Hsl := Lib.hid hsl; clear h0 hm hsl
      generalize suspP ps k good = sl at *
      rw [hd]
      go_wp2_with fail
      go_ret3
      rw [Hsl.out]
      exact ⟨.inl ⟨H0.out, hp, hs, q2, c2, rfl, hH.below hb2, HI.out, own_mono hown hb1.size⟩, hb⟩
    · have h0 : askE ps k good = 8 := by rw [HE.out]; simp [hm]
      have hd : decide ((k : Int) ∈ suspP ps k good) = false := decide_eq_false hm
      have hsl : suspP ps ((k : Int)).toNat good = suspP ps k good := by rw [Int.toNat_natCast]
      have H0 := Lib.hid h0; have Hsl := Lib.hid hsl; clear h0 hm hsl
      generalize suspP ps k good = sl at *
      rw [hd]
      go_wp2_with fail
      go_ret3
      have h0 := H0.out
      exact ⟨.inr ⟨by omega, by rw [h0]; rfl⟩, hb⟩
  · have h0 : askE ps bad good = er := by rw [HE.out, if_neg hne]
    have hne' : (er != 0) = true := by simpa using hne
    have H0 := Lib.hid h0; have HN := Lib.hid hne; clear h0 hne
    go_wp2_with fail
    go_ret3
    have h0 := H0.out
    have hn := HN.out
    exact ⟨.inr ⟨by omega, by rw [h0]; rfl⟩, hb1⟩

set_option maxHeartbeats 1000000 in
theorem Suspects_any {w : World} {p q : Option Addr} {cap cap2 : Nat} {ps : List Pt} {good : List Int} (hR : Deps w p cap ps) (hG : SlI w q cap2 good) (bad : Int) :
    Calls Try.prog 7 #[.slice p ps.length cap, .int .i64 bad, .slice q good.length cap2] w fun e w' =>
      ∃ q' c', e = .returned (.tuple #[.slice q' (susL ps bad good).length c', .int .i64 (askE ps bad good)]) ∧ OwnI w' w.heap.size q' c' (susL ps bad good) ∧ Below w.heap.size w w' := by
  have hask := asked_any hR hG bad
  have hs : susL ps bad good = if askE ps bad good = 0 then suspP ps bad.toNat good else [] := rfl
  have HA := Lib.hid hask; have HS := Lib.hid hs; clear hask hs
  generalize askE ps bad good = er at *
  generalize susL ps bad good = sl at *
  generalize suspP ps bad.toNat good = sp at *
  go_enter Try.func7, Try.ntmps7
  go_wp2_with fail
  refine HA.out.mono ?_
  rintro _ w1 ⟨h1, hb1⟩
  rcases h1 with ⟨rfl, hp, hs, q', c', rfl, hH, hI, hown⟩ | ⟨hne, rfl⟩
  · have hs := HS.out
    rw [if_pos rfl] at hs
    subst hs
    go_wp2_with fail
    go_ret2
    exact ⟨q', c', rfl, hown, hb1⟩
  · have hs := HS.out
    rw [if_neg hne] at hs
    subst hs
    have HN := Lib.hid hne; clear hne
    go_wp2_with fail
    go_ret2
    exact ⟨none, 0, rfl, World.ownsRow_nil _ _ _ _, hb1⟩
end Go.Proofs.Ytoillodfabdeeaa
