/-
  Shared.
-/
import Derived.Test.YtcnppcddpcpeoaaGet
namespace Go.Proofs.Ytcnppcddpcpeoaa
open Go.RowKit

def shN (ra rb : List Int) (k : Nat) : Nat := (List.range k).countP fun i => decide (0 ≤ ra.getD i 0) && ra.getD i 0 == rb.getD i 0
theorem shN_succ (ra rb : List Int) (k : Nat) : shN ra rb (k + 1) = shN ra rb k + if decide (0 ≤ ra.getD k 0) && ra.getD k 0 == rb.getD k 0 then 1 else 0 := by
  unfold shN
  rw [List.range_succ, List.countP_append, List.countP_singleton]
theorem shN_le (ra rb : List Int) (k : Nat) : shN ra rb k ≤ k := by
  unfold shN
  have := List.countP_le_length (p := fun i => decide (0 ≤ ra.getD i 0) && ra.getD i 0 == rb.getD i 0) (l := List.range k)
  simpa using this
noncomputable def sharedV (s : DsC) (a b : Int) : Int := if thereL s [a, b] = 0 then (shN (s.roots.getD a.toNat []) (s.roots.getD b.toNat []) 16 : Int) else 0

set_option maxHeartbeats 4000000 in
theorem shared_any {W : World} {x : Ds} (hx : x.ok W) (a b : Int) {r v : Int} (hr : thereL x.c [a, b] = r) (hv : sharedV x.c a b = v) :
    Calls Try.prog 8 #[x.val, .int .i64 a, .int .i64 b] W fun e W' => e = .returned (.tuple #[.int .i64 v, .int .i64 r]) ∧ Below W.heap.size W W' := by
  obtain ⟨⟨pp, cp, pg⟩, ⟨pu, cu, us⟩, ⟨pr, cr, rs⟩⟩ := x
  have hb0 := (Below.refl W.heap.size W).alloc (Nat.le_refl _) (.cells #[.slice pp pg.length cp, .slice pu us.length cu, .slice pr rs.length cr] 26)
  have hA0 := Blk.mk2 W #[.slice pp pg.length cp, .slice pu us.length cu, .slice pr rs.length cr] 26
  have hrs := hx.roots
  have hrl := hrs.le
  dsimp only at hrl hrs
  generalize hbn : W.heap.size = S at *
  generalize hs : Ds.c ⟨⟨pp, cp, pg⟩, ⟨pu, cu, us⟩, ⟨pr, cr, rs⟩⟩ = s at *
  have HS := Lib.hid hs
  have HR := Lib.hid hr; have HV := Lib.hid hv; clear hr hv
  go_enter Try.func8, Try.ntmps8
  refine wp_seq_k fun K hK => ?_
  have HK := Lib.hid hK; clear hK
  go_wp2_with fail
  refine HK.out _ _ ?_
  clear HK K
  generalize W.alloc (.cells #[.slice pp pg.length cp, .slice pu us.length cu, .slice pr rs.length cr] 26) = w1 at *
  have A0 : w1.cell? ⟨S, 0, none⟩ = some (.slice pp pg.length cp) := hA0.cell 0
  have A1 : w1.cell? ⟨S, 1, none⟩ = some (.slice pu us.length cu) := hA0.cell 1
  have A2 : w1.cell? ⟨S, 2, none⟩ = some (.slice pr rs.length cr) := hA0.cell 2
  have hal := (Below.refl w1.heap.size w1).alloc (Nat.le_refl _) (.cells #[.int .i64 a, .int .i64 b] 3)
  have hx2 := Ds.ok.st _ _ _ (Ds.ok.st _ _ _ hx (hbn ▸ hb0)) hal
  have hlit := lit_sl w1 [a, b] (by simp) #[.int .i64 a, .int .i64 b] rfl _ rfl 2 rfl
  have hb1 := hb0.trans (hal.mono (hbn ▸ hb0.size))
  have hA1 := hA0.next hal
  have hcall := there_any hx2 hlit (r := r) (by rw [hs]; exact HR.out)
  have HC := Lib.hid hcall; clear hcall hs hlit hx2
  go_wp2_with fail
  refine HC.out.mono ?_
  rintro _ w2 ⟨rfl, hb⟩
  have hb2 := hb1.trans (hb.mono (hbn ▸ hb1.size))
  have hA2 := hA1.next hb
  clear A0 A1 A2 HC hA1 hb1 hb hal hb0 hA0
  have hv := HV.out
  unfold sharedV at hv
  rw [HR.out] at hv
  rcases (Classical.em (r = 0)).symm with h0 | h0
  · rw [if_neg h0] at hv
    subst hv
    have k1 : (r != 0) = true := by simpa using h0
    clear h0
    go_wp2_with fail
    go_ret2
    exact ⟨rfl, hb2⟩
  · subst h0
    rw [if_pos rfl] at hv
    obtain ⟨hok, hth⟩ := thereL_zero.1 HR.out
    obtain ⟨q, rfl, hq, h16, -⟩ := there_row hok (hth a (by simp))
    obtain ⟨q2, rfl, hq2, h162, -⟩ := there_row hok (hth b (by simp))
    rw [Int.toNat_natCast, Int.toNat_natCast] at hv
    have B2 : w2.cell? ⟨S, 2, none⟩ = some (.slice pr rs.length cr) := hA2.cell 2
    have hsl : s.roots.length = rs.length := by rw [← HS.out]; simp [Ds.c]
    have hra : s.roots.getD q [] = (rs.getD q default).l := by rw [← HS.out]; simp [Ds.c, show q < rs.length by omega]
    have hrb : s.roots.getD q2 [] = (rs.getD q2 default).l := by rw [← HS.out]; simp [Ds.c, show q2 < rs.length by omega]
    rw [hsl] at hq hq2
    rw [hra] at h16 hv
    rw [hrb] at h162 hv
    have hr2 := RdR.st _ _ _ hrs (hbn ▸ hb2)
    obtain ⟨b3, o3, hp3, hb3, hc3, hrd3⟩ := hr2.at_ hq
    obtain ⟨b4, o4, hp4, hb4, hc4, hrd4⟩ := hr2.at_ hq2
    dsimp only at hp3 hc3 hrd3 hp4 hc4 hrd4
    rw [hp3] at hp4
    simp only [Option.some.injEq, Addr.mk.injEq, and_true] at hp4
    obtain ⟨rfl, rfl⟩ := hp4
    clear hra hrb hsl hok hth hr2 HR HV HS hrs hx
    generalize rs.getD q default = ra at *
    generalize rs.getD q2 default = rb at *
    obtain ⟨ap, ac, al⟩ := ra
    obtain ⟨bp, bc, bl⟩ := rb
    dsimp only [Sv.val] at hc3 hrd3 hc4 hrd4 h16 h162 hv
    subst hp3
    have HA := Lib.hid h16; have HB := Lib.hid h162; have HV := Lib.hid hv
    have hal16 : al.length ≤ 16 := by omega
    clear h16 h162 hv
    go_wp2_with fail
    generalize hz2 : w2.heap.size = Z at *
    go_loopw [26, 9] (fun t n wr => ∃ k : Nat, k ≤ al.length ∧ t = .int .i64 k ∧ n = .int .i64 (shN al bl k : Nat) ∧ Below Z w2 wr) (fun t _ _ => al.length - (intOf t).toNat)
    case atStart => exact ⟨0, Nat.zero_le _, rfl, rfl, Below.refl _ _⟩
    case round =>
      obtain ⟨k, hk, rfl, rfl, hbl⟩ := hrel
      have hbS := hb2.trans (hbl.mono (by rw [← hz2, ← hbn]; exact hb2.size))
      by_cases hlt : k < al.length
      · have hltb : k < bl.length := by have := HA.out; have := HB.out; omega
        obtain ⟨b5, o5, hp5, hb5, hc5⟩ := (RdI.st _ _ _ hrd3 (hz2 ▸ hbl)).at_ hlt
        obtain ⟨b6, o6, hp6, hb6, hc6⟩ := (RdI.st _ _ _ hrd4 (hz2 ▸ hbl)).at_ hltb
        dsimp only at hp5 hc5 hp6 hc6
        have B2 : wr.cell? ⟨S, 2, none⟩ = some (.slice (some ⟨b3, o3, none⟩) rs.length cr) := Blk.cell (Blk.next hA2 (hz2 ▸ hbl)) 2
        have hc7 := (hbl.cell (p := ⟨b3, o3 + q2, none⟩) hb4).trans hc4
        have hsn := shN_succ al bl k
        have hle := shN_le al bl k
        generalize al.getD k 0 = u at *
        generalize bl.getD k 0 = v2 at *
        subst hp5 hp6
        have HSN := Lib.hid hsn; clear hsn
        generalize shN al bl k = m at *
        by_cases h1 : 0 ≤ u
        · by_cases h2 : u = v2
          · subst h2
            have hs2 := HSN.out
            rw [if_pos (by simp [h1])] at hs2
            have HS2 := Lib.hid hs2; clear hs2 HSN
            go_wp2_with fail
            go_roundw
            case rel => exact ⟨k + 1, by omega, by go_num, by rw [HS2.out]; go_num, hbl⟩
            case measure => simp [intOf]; omega
          · have e1 : (u == v2) = false := by simpa using h2
            have hs2 := HSN.out
            rw [if_neg (by simp [e1])] at hs2
            have HS2 := Lib.hid hs2; clear hs2 HSN h2
            go_wp2_with fail
            go_roundw
            case rel => exact ⟨k + 1, by omega, by go_num, by rw [HS2.out]; rfl, hbl⟩
            case measure => simp [intOf]; omega
        · have h3 : u < 0 := by omega
          have hs2 := HSN.out
          rw [if_neg (by simp; intro; omega)] at hs2
          have HS2 := Lib.hid hs2; clear hs2 HSN h1
          go_wp2_with fail
          go_roundw
          case rel => exact ⟨k + 1, by omega, by go_num, by rw [HS2.out]; rfl, hbl⟩
          case measure => simp [intOf]; omega
      · obtain rfl : k = al.length := by omega
        have hv := HV.out
        rw [← HA.out] at hv
        subst hv
        go_wp2_with fail
        go_ret2
        exact ⟨rfl, hbS⟩
end Go.Proofs.Ytcnppcddpcpeoaa
