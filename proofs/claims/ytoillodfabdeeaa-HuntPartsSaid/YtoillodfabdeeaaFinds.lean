/-
  The callback of HuntFinds; the plain law.
-/
import Derived.Test.YtoillodfabdeeaaBegun
namespace Go.Proofs.Ytoillodfabdeeaa
open Go.RowKit Go.Sort

set_option maxRecDepth 100000 in
set_option maxHeartbeats 1000000 in
theorem finds1_pred {W : World} {LB CB : Nat} {p : Option Addr} {cap : Nat} {ps : List Pt} {culprit : Int} (hR : Deps W p cap ps) (hO : OkD ps) (bL : Blk W LB #[.slice p ps.length cap] 22) (bC : Blk W CB #[.int .i64 culprit] 3) :
    PredV W 9 #[.pointer (some ⟨LB, 0, none⟩), .pointer (some ⟨CB, 0, none⟩)] (Value.int .i64) (fun _ n => 0 ≤ n ∧ n < ps.length) (fun n => decide (culprit ∈ Bk ps n.toNat)) := by
  refine ⟨enters_own Try.func9 (by kernel_rfl) rfl, fun w hb n hn => ?_⟩
  obtain ⟨k, rfl⟩ := Int.eq_ofNat_of_zero_le hn.1
  have hk : k < ps.length := by omega
  rw [Int.toNat_natCast]
  have c1 := (bL.next hb).cell 0
  change w.cell? ⟨LB, 0, none⟩ = some (.slice p ps.length cap) at c1
  have hck := checkM_ok hO hk
  have hx : backM ps (k : Int) = (Bk ps k, 0) := by unfold backM; rw [if_pos hck, Int.toNat_natCast]; rfl
  have hBack := Back_any (hR.below hb) (k : Int)
  rw [hx] at hBack
  have HB := Lib.hid hBack; clear hBack hx hck
  generalize Bk ps k = bl at *
  go_enter Try.func9, Try.ntmps9
  go_wp2_with fail
  refine HB.out.mono ?_
  rintro _ w1 ⟨p1, q1, rfl, hown, hb1⟩
  have c2 := (bC.next (hb.trans (hb1.mono hb.size))).cell 0
  change w1.cell? ⟨CB, 0, none⟩ = some (.int .i64 culprit) at c2
  have hhas := hasInt_any culprit (Sl.of_own hown)
  have HH := Lib.hid hhas; clear hhas
  go_wp2_with fail
  refine HH.out.mono ?_
  rintro _ w2 ⟨rfl, rfl⟩
  go_wp2_with fail
  go_ret
  exact ⟨rfl, hb1⟩

/-- HuntFinds: what stays while one asks. -/
def FindI (ps : List Pt) (culprit : Int) (n0 : Nat) (b : Int) (g : List Int) (m : Nat) : Prop := culprit ∈ suspP ps b.toNat g ∧ b ∈ suspP ps b.toNat g ∧ m + (suspP ps b.toNat g).length ≤ n0
theorem find_goes {ps : List Pt} (hO : OkD ps) (culprit : Int) (n0 : Nat) : Goes ps (fun n => decide (culprit ∈ Bk ps n.toNat)) (FindI ps culprit n0) := by
  refine ⟨?_, ?_⟩
  · rintro b g m ⟨h1, h2, h3⟩ hb - h0 hp
    obtain ⟨k, rfl⟩ := Int.eq_ofNat_of_zero_le hb.1
    obtain ⟨n, hn, hnl, hnb, hns, -⟩ := pick_law h0
    rw [hn] at hp ⊢
    rw [Int.toNat_natCast] at *
    obtain ⟨l1, l2, l3, l4⟩ := lens_lt hO (by omega) h2 hns hnb
    rw [Int.toNat_natCast]
    refine ⟨⟨?_, by rw [Int.toNat_natCast]; exact l3, by rw [Int.toNat_natCast]; omega⟩, l1⟩
    rw [Int.toNat_natCast, susp_yes hO (by omega) hns, List.mem_filter]
    exact ⟨h1, hp⟩
  · rintro b g m ⟨h1, h2, h3⟩ hb - h0 hp
    obtain ⟨k, rfl⟩ := Int.eq_ofNat_of_zero_le hb.1
    obtain ⟨n, hn, hnl, hnb, hns, -⟩ := pick_law h0
    rw [hn] at hp ⊢
    rw [Int.toNat_natCast] at *
    obtain ⟨l1, l2, l3, l4⟩ := lens_lt hO (by omega) h2 hns hnb
    refine ⟨⟨?_, by rw [Int.toNat_natCast]; exact l4, by rw [Int.toNat_natCast]; omega⟩, l2⟩
    rw [Int.toNat_natCast, susp_no, List.mem_filter, hp]
    exact ⟨h1, rfl⟩
theorem find_end {ps : List Pt} (hO : OkD ps) {culprit b : Int} {g : List Int} {m n0 : Nat} (hI : FindI ps culprit n0 b g m) (hb : 0 ≤ b ∧ b < ps.length) (hp : pickM ps b g < 0) : b = culprit ∧ m < n0 := by
  obtain ⟨h1, h2, h3⟩ := hI
  obtain ⟨k, rfl⟩ := Int.eq_ofNat_of_zero_le hb.1
  rw [Int.toNat_natCast] at *
  have := pick_none hO (by omega) hp h1
  have := List.length_pos_of_mem h2
  exact ⟨by omega, by omega⟩
end Go.Proofs.Ytoillodfabdeeaa
