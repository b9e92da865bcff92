/-
  there, asked: is a version there, and a place?
-/
import Derived.Test.YtcnppcddpcpeoaaCheck
namespace Go.Proofs.Ytcnppcddpcpeoaa
open Go.RowKit

open Classical in
noncomputable def thereF (s : DsC) (l : List Int) : Int := if ∀ r ∈ l, There s r then 0 else 5
theorem thereF_good {s : DsC} {l : List Int} (h : ∀ r ∈ l, There s r) : thereF s l = 0 := by unfold thereF; rw [if_pos h]
theorem thereF_bad {s : DsC} {l : List Int} {v : Int} (hv : v ∈ l) (h : ¬ There s v) : thereF s l = 5 := by unfold thereF; rw [if_neg fun h2 => h (h2 v hv)]
noncomputable def thereL (s : DsC) (l : List Int) : Int := if checkC s ≠ 0 then checkC s else thereF s l
open Classical in
noncomputable def askedC (s : DsC) (root at_ : Int) : Int := if thereL s [root] ≠ 0 then thereL s [root] else if at_ < 0 ∨ 64 ≤ at_ then 1 else 0
theorem checkC_zero {s : DsC} : checkC s = 0 ↔ Ok s := by
  unfold checkC
  constructor
  · intro h
    split at h
    · cases h
    · split at h
      · assumption
      · cases h
  · intro h
    have h1 := h.np
    have h2 := h.nr
    rw [if_neg (by omega), if_pos h]
theorem thereL_zero {s : DsC} {l : List Int} : thereL s l = 0 ↔ Ok s ∧ ∀ r ∈ l, There s r := by
  unfold thereL thereF
  rw [← checkC_zero]
  split
  · next h => exact ⟨fun e => absurd e h, fun e => absurd e.1 h⟩
  · next h =>
    split
    · next h2 => exact ⟨fun _ => ⟨by simpa using h, h2⟩, fun _ => rfl⟩
    · next h2 => exact ⟨fun e => (by cases e), fun e => absurd e.2 h2⟩
theorem askedC_zero {s : DsC} {root at_ : Int} : askedC s root at_ = 0 ↔ Ok s ∧ There s root ∧ 0 ≤ at_ ∧ at_ < 64 := by
  unfold askedC
  have h0 := thereL_zero (s := s) (l := [root])
  split
  · next h => exact ⟨fun e => absurd e h, fun e => absurd (h0.2 ⟨e.1, by simpa using e.2.1⟩) h⟩
  · next h =>
    obtain ⟨h1, h2⟩ := h0.1 (by simpa using h)
    split
    · next h3 => exact ⟨fun e => by simp at e, fun e => by omega⟩
    · next h3 => exact ⟨fun _ => ⟨h1, by simpa using h2, by omega⟩, fun _ => rfl⟩

set_option maxHeartbeats 4000000 in
theorem there_any {W : World} {x : Ds} (hx : x.ok W) {p : Option Addr} {n c : Nat} {l : List Int} (hl : Sl W 1 p n c (ints .i64 l)) {r : Int} (hr : thereL x.c l = r) :
    Calls Try.prog 20 #[x.val, .slice p n c] W fun e W' => e = .returned (.int .i64 r) ∧ Below W.heap.size W W' := by
  obtain ⟨⟨pp, cp, pg⟩, ⟨pu, cu, us⟩, ⟨pr, cr, rs⟩⟩ := x
  have hxx := hx
  obtain ⟨hpg, hus, hrs⟩ := hx
  have hpl := hpg.le
  have hrl := hrs.le
  have hul := hus.lt63
  have hnl : l.length = n := by have := hl.len; simpa using this
  have hn63 : n ≤ 9223372036854775807 := Nat.le_trans hl.le hl.big
  dsimp only at hpg hus hrs hpl hrl hul ⊢
  have hb0 := (Below.refl W.heap.size W).alloc (Nat.le_refl _) (.cells #[.slice pp pg.length cp, .slice pu us.length cu, .slice pr rs.length cr] 26)
  have hA0 := Blk.mk2 W #[.slice pp pg.length cp, .slice pu us.length cu, .slice pr rs.length cr] 26
  generalize hbn : W.heap.size = S at *
  generalize hs : Ds.c ⟨⟨pp, cp, pg⟩, ⟨pu, cu, us⟩, ⟨pr, cr, rs⟩⟩ = s at *
  have HR := Lib.hid hr; have HN := Lib.hid hnl; have HS := Lib.hid hs; clear hr hnl
  go_enter Try.func20, Try.ntmps20
  refine wp_seq_k fun K hK => ?_
  have HK := Lib.hid hK; clear hK
  go_wp2_with fail
  refine HK.out _ _ ?_
  clear HK K
  generalize W.alloc (.cells #[.slice pp pg.length cp, .slice pu us.length cu, .slice pr rs.length cr] 26) = w1 at *
  have A0 : w1.cell? ⟨S, 0, none⟩ = some (.slice pp pg.length cp) := hA0.cell 0
  have A1 : w1.cell? ⟨S, 1, none⟩ = some (.slice pu us.length cu) := hA0.cell 1
  have A2 : w1.cell? ⟨S, 2, none⟩ = some (.slice pr rs.length cr) := hA0.cell 2
  have hcall := check_any (Ds.ok.st _ _ _ hxx (hbn ▸ hb0))
  rw [hs] at hcall
  have HC := Lib.hid hcall; clear hcall hs
  go_wp2_with fail
  refine HC.out.mono ?_
  rintro _ w2 ⟨rfl, hb⟩
  have hb2 := hb0.trans (hb.mono (hbn ▸ hb0.size))
  have hA2 := hA0.next hb
  clear A0 A1 A2 HC
  rcases (Classical.em (checkC s = 0)).symm with h0 | h0
  · have k1 : (checkC s != 0) = true := by simpa using h0
    have hrr : checkC s = r := by rw [← HR.out]; unfold thereL; rw [if_pos h0]
    rw [hrr] at k1 ⊢
    clear h0 hrr
    go_wp2_with fail
    go_ret
    exact ⟨rfl, hb2⟩
  · have hrr : thereF s l = r := by rw [← HR.out]; unfold thereL; rw [if_neg (by simpa using h0)]
    have HRR := Lib.hid hrr
    rw [h0]
    clear h0 hrr
    go_wp2_with fail
    generalize hz2 : w2.heap.size = Z at *
    go_loopw [15] (fun t wr => ∃ k : Nat, k ≤ n ∧ t = .int .i64 k ∧ Below Z w2 wr ∧ Hid (∀ y ∈ l.take k, There s y)) (fun t _ => n - (intOf t).toNat)
    case atStart => exact ⟨0, Nat.zero_le _, rfl, Below.refl _ _, by simp [Hid]⟩
    case round =>
      obtain ⟨k, hk, rfl, hbl, hok⟩ := hrel
      have hbS := hb2.trans (hbl.mono (by rw [← hz2, ← hbn]; exact hb2.size))
      by_cases hlt : k < n
      · have hl3 := hl.below (hbn ▸ hbS)
        obtain ⟨b, off, hp, hb5, hcs⟩ := hl3.row.cons (by have := HN.out; simp; omega)
        have hc := (hcs k (by have := HN.out; simp; omega)).trans (ints_getD (by have := HN.out; omega))
        clear hcs
        have hkl : k < l.length := by have := HN.out; omega
        have hx : l[k]? = some (l.getD k 0) := by simp [hkl]
        generalize l.getD k 0 = v at *
        have HX := Lib.hid hx; clear hx hl3
        subst hp
        have B2 : wr.cell? ⟨S, 2, none⟩ = some (.slice pr rs.length cr) := Blk.cell (Blk.next hA2 (hz2 ▸ hbl)) 2
        have hbad : ¬ There s v → 5 = r := fun h => by rw [← HRR.out, thereF_bad (List.mem_of_getElem? HX.out) h]
        have hgood : There s v → Hid (∀ y ∈ l.take (k + 1), There s y) := fun h y hy => by
          rw [take_snoc_ HX.out] at hy
          rcases List.mem_append.1 hy with hy | hy
          · exact hok.out y hy
          · simp at hy; subst hy; exact h
        have HB := Lib.hid hbad; have HG := Lib.hid hgood; clear hbad hgood
        have hlen : s.roots.length = rs.length := by rw [← HS.out]; simp [Ds.c]
        by_cases h1 : 0 ≤ v
        · by_cases h2 : v < rs.length
          · obtain ⟨q, rfl⟩ : ∃ q : Nat, v = q := ⟨v.toNat, by omega⟩
            have hq : q < rs.length := by omega
            obtain ⟨b7, o7, hp7, hb7, hc7, hrd7⟩ := (RdR.st _ _ _ hrs (hbn ▸ hbS)).at_ hq
            dsimp only at hp7 hc7 hrd7
            have hget : s.roots.getD q [] = (rs.getD q default).l := by rw [← HS.out]; simp [Ds.c, hq]
            generalize rs.getD q default = row at *
            obtain ⟨rp, rc, rl⟩ := row
            dsimp only [Sv.val] at hc7 hrd7 hget
            have hrl7 := hrd7.lt63
            dsimp only at hrl7
            subst hp7
            have hth : There s (q : Int) ↔ rl.length ≠ 0 := by
              unfold There
              rw [hlen, Int.toNat_natCast, hget]
              constructor
              · rintro ⟨-, -, h⟩ e; exact h (List.eq_nil_of_length_eq_zero e)
              · intro h; exact ⟨h1, h2, fun e => h (by rw [e]; rfl)⟩
            have HT := Lib.hid hth; clear hth hget hlen
            by_cases h3 : rl.length = 0
            · have h5 := HB.out (fun h => HT.out.1 h h3)
              subst h5
              have k3 : ((rl.length : Int) == 0) = true := by rw [beq_iff_eq]; omega
              clear h3
              go_wp2_with fail
              go_ret
              exact ⟨rfl, hbS⟩
            · have h5 := HG.out (HT.out.2 h3)
              have k3 : ((rl.length : Int) == 0) = false := by rw [beq_eq_false_iff_ne]; omega
              clear h3
              go_wp2_with fail
              go_roundw
              case rel => exact ⟨k + 1, by omega, by go_num, hbl, h5⟩
              case measure => simp [intOf]; omega
          · have h5 := HB.out (fun h => by have := h.2.1; omega)
            subst h5
            have h4 : (rs.length : Int) ≤ v := by omega
            clear h2 hlen
            go_wp2_with fail
            go_ret
            exact ⟨rfl, hbS⟩
        · have h5 := HB.out (fun h => by have := h.1; omega)
          subst h5
          have h4 : v < 0 := by omega
          clear h1 hlen
          go_wp2_with fail
          go_ret
          exact ⟨rfl, hbS⟩
      · obtain rfl : k = n := by omega
        have hk2 := hok.out
        rw [← HN.out, List.take_length] at hk2
        have hr0 : 0 = r := by rw [← HRR.out, thereF_good hk2]
        clear hk2
        subst hr0
        go_wp2_with fail
        go_ret
        exact ⟨rfl, hbS⟩

set_option maxHeartbeats 1000000 in
theorem asked_any {W : World} {x : Ds} (hx : x.ok W) (root at_ : Int) {r : Int} (hr : askedC x.c root at_ = r) :
    Calls Try.prog 14 #[x.val, .int .i64 root, .int .i64 at_] W fun e W' => e = .returned (.int .i64 r) ∧ Below W.heap.size W W' := by
  obtain ⟨⟨pp, cp, pg⟩, ⟨pu, cu, us⟩, ⟨pr, cr, rs⟩⟩ := x
  have hb0 := (Below.refl W.heap.size W).alloc (Nat.le_refl _) (.cells #[.slice pp pg.length cp, .slice pu us.length cu, .slice pr rs.length cr] 26)
  have hA0 := Blk.mk2 W #[.slice pp pg.length cp, .slice pu us.length cu, .slice pr rs.length cr] 26
  generalize hbn : W.heap.size = S at *
  generalize hs : Ds.c ⟨⟨pp, cp, pg⟩, ⟨pu, cu, us⟩, ⟨pr, cr, rs⟩⟩ = s at *
  have HR := Lib.hid hr; clear hr
  go_enter Try.func14, Try.ntmps14
  refine wp_seq_k fun K hK => ?_
  have HK := Lib.hid hK; clear hK
  go_wp2_with fail
  refine HK.out _ _ ?_
  clear HK K
  generalize W.alloc (.cells #[.slice pp pg.length cp, .slice pu us.length cu, .slice pr rs.length cr] 26) = w1 at *
  have A0 : w1.cell? ⟨S, 0, none⟩ = some (.slice pp pg.length cp) := hA0.cell 0
  have A1 : w1.cell? ⟨S, 1, none⟩ = some (.slice pu us.length cu) := hA0.cell 1
  have A2 : w1.cell? ⟨S, 2, none⟩ = some (.slice pr rs.length cr) := hA0.cell 2
  have hal := (Below.refl w1.heap.size w1).alloc (Nat.le_refl _) (.cells #[.int .i64 root] 3)
  have hx2 := Ds.ok.st _ _ _ (Ds.ok.st _ _ _ hx (hbn ▸ hb0)) hal
  have hlit := lit_sl w1 [root] (by simp) #[.int .i64 root] rfl _ rfl 1 rfl
  have hb1 := hb0.trans (hal.mono (hbn ▸ hb0.size))
  have hcall := there_any hx2 hlit (r := thereL s [root]) (by rw [hs])
  have HC := Lib.hid hcall; clear hcall hs hlit hx2
  go_wp2_with fail
  refine HC.out.mono ?_
  rintro _ w2 ⟨rfl, hb⟩
  have hb2 := hb1.trans (hb.mono (hbn ▸ hb1.size))
  clear A0 A1 A2 HC
  have hr := HR.out
  unfold askedC at hr
  rcases (Classical.em (thereL s [root] = 0)).symm with h0 | h0
  · rw [if_pos h0] at hr
    rw [hr] at h0 ⊢
    have k1 : (r == 0) = false := by simpa using h0
    clear h0 hr
    go_wp2_with fail
    go_ret
    exact ⟨rfl, hb2⟩
  · rw [if_neg (by simpa using h0)] at hr
    rw [h0]
    clear h0
    by_cases h1 : at_ < 0
    · rw [if_pos (by omega)] at hr
      subst hr
      go_wp2_with fail
      go_ret
      exact ⟨rfl, hb2⟩
    · have h2 : 0 ≤ at_ := by omega
      clear h1
      by_cases h3 : 64 ≤ at_
      · rw [if_pos (by omega)] at hr
        subst hr
        go_wp2_with fail
        go_ret
        exact ⟨rfl, hb2⟩
      · have h4 : at_ < 64 := by omega
        rw [if_neg (by omega)] at hr
        subst hr
        clear h3
        go_wp2_with fail
        go_ret
        exact ⟨rfl, hb2⟩
end Go.Proofs.Ytcnppcddpcpeoaa
