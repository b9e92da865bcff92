/-
  fresh: a page of one's own.
-/
import Derived.Test.YtcnppcddpcpeoaaOw2
import Derived.Test.YtcnppcddpcpeoaaSep
import Derived.Test.YtcnppcddpcpeoaaIdx
import Derived.Test.YtcnppcddpcpeoaaPgEq
namespace Go.Proofs.Ytcnppcddpcpeoaa
open Go.RowKit

/-- All blocks stay, but for those of L. -/
structure KeepL (w w' : World) (L : List (Option Nat)) : Prop where
  os : w'.os = w.os
  tape : w'.tape = w.tape
  output : w'.output = w.output
  size : w.heap.size ≤ w'.heap.size
  block : ∀ k, k < w.heap.size → some k ∉ L → w'.heap[k]? = w.heap[k]?
section
variable {W w w' : World} {L : List (Option Nat)}
theorem KeepL.refl (w : World) (L : List (Option Nat)) : KeepL w w L := ⟨rfl, rfl, rfl, Nat.le_refl _, fun _ _ _ => rfl⟩
theorem KeepL.grown {row : Option Nat} (h : KeepL W w L) (hg : w.grownBy w' row) (hr : ∀ k, row = some k → some k ∈ L ∨ W.heap.size ≤ k) : KeepL W w' L :=
  ⟨hg.os.trans h.os, hg.tape.trans h.tape, hg.output.trans h.output, Nat.le_trans h.size hg.size, fun k hk hL => (hg.block k (Nat.lt_of_lt_of_le hk h.size) fun e => by
    rcases hr k e.symm with h1 | h1
    · exact hL h1
    · omega).trans (h.block k hk hL)⟩
theorem KeepL.below (h : KeepL W w L) (hb : Below w.heap.size w w') : KeepL W w' L := h.grown (grown_of_below hb none) fun k e => by cases e
theorem KeepL.toBelow {w0 : World} {S : Nat} (h : KeepL w w' L) (hb : Below S w0 w) (hS : S ≤ w.heap.size) (hL : ∀ k, some k ∈ L → S ≤ k) : Below S w0 w' := by
  refine hb.trans ⟨h.os, h.tape, h.output, h.size, fun k hk => h.block k (Nat.lt_of_lt_of_le hk hS) fun e => ?_⟩
  have := hL k e
  omega
theorem KeepL.blk {B : Nat} {cs : Array Value} {t : TypeId} (h : KeepL w w' L) (hB : Blk w B cs t) (hn : some B ∉ L) : Blk w' B cs t := (h.block B hB.lt hn).trans hB
end
theorem news_of {w : World} {B : Nat} {cs : Array Value} {t : TypeId} (h : Blk w B cs t) : ∀ (j : Nat) u, cs.toList[j]? = some u → w.cell? ((⟨B, 0, none⟩ : Addr).add j) = some u := fun j u hj => by
  rw [add_lit', Nat.zero_add, h.cell]
  rw [← Array.getElem?_toList]; exact hj
theorem pgCells_snoc (l : List Pg) (p : Pg) : pgCells l ++ [.int .i64 p.a, .int .i64 p.b, .int .i64 p.c, .int .i64 p.d] = pgCells (l ++ [p]) := by simp [pgCells, Pg.cells]

theorem ownBlock_len (p : Option Addr) (n m c d : Nat) : (Value.slice p n c).ownBlock = (Value.slice p m d).ownBlock := by cases p <;> rfl
theorem apart_sep {w : World} {B n : Nat} {s t : Sv Int} {v : Value} {xs : List Value} (hs : w.ownsRow B 3 1 s.val n xs) (ha : Apart s t) (h : v.ownBlock = t.val.ownBlock ∨ v.ownBlock = some w.heap.size) : s.val.ownBlock = none ∨ s.val.ownBlock ≠ v.ownBlock := by
  rcases h with h | h
  · rw [h]; exact ha
  · rw [h]
    cases hb : s.val.ownBlock with
    | none => exact .inl rfl
    | some a =>
      refine .inr fun e => ?_
      have h1 := (hs.lt a hb).2
      cases e
      omega
/-- What fresh answers. -/
def FreshPost (W : World) (OB B : Nat) (x : Ds) (p : Pg) (e : Ending) (W' : World) : Prop :=
  ∃ (P' : Sv Pg) (U' : Sv Int) (r : Int), e = .returned (.int .i64 r) ∧ freshC x.pages.l x.uses.l p = (P'.l, U'.l, r) ∧ Blk W' OB #[P'.val, U'.val, x.roots.val] 26 ∧ Ow W' B ⟨P', U', x.roots⟩ ∧
    KeepL W W' [some OB, x.pages.val.ownBlock, x.uses.val.ownBlock] ∧ (∀ k, U'.val.ownBlock = some k → x.uses.val.ownBlock = some k ∨ W.heap.size ≤ k)

set_option maxHeartbeats 3000000 in
theorem fresh_any {W : World} {OB B : Nat} {x : Ds} (hB : Blk W OB #[x.pages.val, x.uses.val, x.roots.val] 26) (hW : Ow W B x) (hpl : x.pages.l.length ≤ 400) (hul : x.uses.l.length = x.pages.l.length) (hBO : B ≤ W.heap.size) (p : Pg) :
    Calls Try.prog 18 #[.pointer (some ⟨OB, 0, none⟩), p.val] W fun e W' => FreshPost W OB B x p e W' := by
  obtain ⟨⟨pp, cp, pg⟩, ⟨pu, cu, us⟩, R⟩ := x
  obtain ⟨pa, pb, pc, pd⟩ := p
  dsimp only [Sv.val] at hB hpl hul
  have hul4 : us.length ≤ 400 := by omega
  have HUL := Lib.hid hul; clear hul
  have hal := (Below.refl W.heap.size W).alloc (Nat.le_refl _) (.cells #[.int .i64 pa, .int .i64 pb, .int .i64 pc, .int .i64 pd] 38)
  have hX := Blk.mk2 W #[.int .i64 pa, .int .i64 pb, .int .i64 pc, .int .i64 pd] 38
  have hB1 := hB.next hal; have hW1 := hW.below hal
  have hsp0 : (Value.slice pp pg.length cp).ownBlock ≠ some W.heap.size := fun e => by have := (hW.pg.lt W.heap.size e).2; omega
  have HSP := Lib.hid hsp0; clear hsp0
  have hK1 := (KeepL.refl W [some OB, (Value.slice pp pg.length cp).ownBlock, (Value.slice pu us.length cu).ownBlock]).below hal
  have hq : ∀ w, (Op.equalIn 10000 38 (.agg #[.int .i64 pa, .int .i64 pb, .int .i64 pc, .int .i64 pd]) (.agg #[.int .i64 0, .int .i64 0, .int .i64 0, .int .i64 0])).run Try.prog w = .ok (decide ((⟨pa, pb, pc, pd⟩ : Pg) = Pg.zero)) w := fun w => run_eqIn_page w ⟨pa, pb, pc, pd⟩ Pg.zero
  generalize hbn : W.heap.size = S at *
  by_cases hz : (⟨pa, pb, pc, pd⟩ : Pg) = Pg.zero
  · rw [decide_eq_true hz] at hq
    have HZ := Lib.hid hz; clear hz hB hW
    go_enter Try.func18, Try.ntmps18
    refine wp_seq_k fun K hK => ?_
    have HK := Lib.hid hK; clear hK
    go_wp2_with fail
    refine HK.out _ _ ?_
    clear HK K
    generalize W.alloc (.cells #[.int .i64 pa, .int .i64 pb, .int .i64 pc, .int .i64 pd] 38) = w1 at *
    have x0 : w1.cell? ⟨S, 0, none⟩ = some (.int .i64 pa) := hX.cell 0
    have x1 : w1.cell? ⟨S, 1, none⟩ = some (.int .i64 pb) := hX.cell 1
    have x2 : w1.cell? ⟨S, 2, none⟩ = some (.int .i64 pc) := hX.cell 2
    have x3 : w1.cell? ⟨S, 3, none⟩ = some (.int .i64 pd) := hX.cell 3
    go_wp2_with fail
    go_ret
    exact ⟨⟨pp, cp, pg⟩, ⟨pu, cu, us⟩, -1, rfl, by unfold freshC; rw [if_pos HZ.out], hB1, hW1, hK1, fun k e => .inl e⟩
  · rw [decide_eq_false hz] at hq
    have HZ := Lib.hid hz; clear hz hB hW
    go_enter Try.func18, Try.ntmps18
    refine wp_seq_k fun K hK => ?_
    have HK := Lib.hid hK; clear hK
    go_wp2_with fail
    refine HK.out _ _ ?_
    clear HK K
    generalize W.alloc (.cells #[.int .i64 pa, .int .i64 pb, .int .i64 pc, .int .i64 pd] 38) = w1 at *
    have x0 : w1.cell? ⟨S, 0, none⟩ = some (.int .i64 pa) := hX.cell 0
    have x1 : w1.cell? ⟨S, 1, none⟩ = some (.int .i64 pb) := hX.cell 1
    have x2 : w1.cell? ⟨S, 2, none⟩ = some (.int .i64 pc) := hX.cell 2
    have x3 : w1.cell? ⟨S, 3, none⟩ = some (.int .i64 pd) := hX.cell 3
    have b0 : w1.cell? ⟨OB, 0, none⟩ = some (.slice pp pg.length cp) := hB1.cell 0
    have b1 : w1.cell? ⟨OB, 1, none⟩ = some (.slice pu us.length cu) := hB1.cell 1
    have hidx := indexI_val (w := w1) hW1.ok.uses 0
    dsimp only at hidx
    have HI := Lib.hid hidx; clear hidx
    go_wp2_with fail
    refine HI.out.mono ?_
    rintro _ w2 hi
    clear hq HI
    generalize hfi : us.findIdx (· == 0) = n at *
    have HFI := Lib.hid hfi; clear hfi
    rcases hi with ⟨hi, rfl, rfl⟩ | ⟨hi, rfl, rfl⟩
    · have hnp : n < pg.length := by have := HUL.out; omega
      have hBx := hB1; have hWx := hW1; have hXx := hX; have hKx := hK1
      have hown8 : ∀ k, (Value.slice pp pg.length cp).ownBlock = some k → some k ∈ [some OB, (Value.slice pp pg.length cp).ownBlock, (Value.slice pu us.length cu).ownBlock] ∨ W.heap.size ≤ k := fun k e => .inl (by rw [← e]; simp)
      have hsep : ∀ k, (Value.slice pu us.length cu).ownBlock = some k → (Value.slice pu us.length cu).ownBlock = some k ∨ W.heap.size ≤ k := fun k e => .inl e
      have HO8 := Lib.hid hown8; clear hown8; have hown8 := HO8.out
      clear hB1 hW1 hX hK1 hal x0 x1 x2 x3 b0 b1 HO8
      obtain ⟨gP, hgP⟩ := own_ptr (show World.ownsRow _ _ _ _ (.slice pp pg.length cp) pg.length _ from hWx.pg) (by omega)
      subst hgP
      obtain ⟨b8, o8, hp8, hb8, hc8⟩ := hWx.ok.pages.at_ (fun _ => rfl) (by omega) hnp default
      dsimp only at hp8
      simp only [Option.some.injEq, Addr.mk.injEq, and_true] at hp8
      obtain ⟨rfl, rfl⟩ := hp8
      generalize (pg).getD n default = pp8 at *
      have c0 := hc8 0 _ rfl; have c1 := hc8 1 _ rfl; have c2 := hc8 2 _ rfl; have c3 := hc8 3 _ rfl
      rw [Nat.zero_add] at c0 c1 c2 c3
      rw [Nat.add_zero] at c0
      clear hc8
      have g0 := hWx.pg.frozenAt (n * 4); have g1 := hWx.pg.frozenAt (n * 4 + 1); have g2 := hWx.pg.frozenAt (n * 4 + 2); have g3 := hWx.pg.frozenAt (n * 4 + 3)
      have hCw : (fun w' => w'.cell? ⟨OB, 0, none⟩ = some (.slice (some ⟨gP, 0, none⟩) pg.length cp) ∧ w'.cell? ⟨S, 0, none⟩ = some (.int .i64 pa) ∧ w'.cell? ⟨S, 1, none⟩ = some (.int .i64 pb) ∧ w'.cell? ⟨S, 2, none⟩ = some (.int .i64 pc) ∧ w'.cell? ⟨S, 3, none⟩ = some (.int .i64 pd)) w1.drew := ⟨hBx.drew.cell 0, hXx.drew.cell 0, hXx.drew.cell 1, hXx.drew.cell 2, hXx.drew.cell 3⟩
      haveI := cls_ne (C := fun w' => w'.cell? ⟨OB, 0, none⟩ = some (.slice (some ⟨gP, 0, none⟩) pg.length cp) ∧ w'.cell? ⟨S, 0, none⟩ = some (.int .i64 pa) ∧ w'.cell? ⟨S, 1, none⟩ = some (.int .i64 pb) ∧ w'.cell? ⟨S, 2, none⟩ = some (.int .i64 pc) ∧ w'.cell? ⟨S, 3, none⟩ = some (.int .i64 pd)) hCw
      have y0 := fun p : Cls (fun w' => w'.cell? ⟨OB, 0, none⟩ = some (.slice (some ⟨gP, 0, none⟩) pg.length cp) ∧ w'.cell? ⟨S, 0, none⟩ = some (.int .i64 pa) ∧ w'.cell? ⟨S, 1, none⟩ = some (.int .i64 pb) ∧ w'.cell? ⟨S, 2, none⟩ = some (.int .i64 pc) ∧ w'.cell? ⟨S, 3, none⟩ = some (.int .i64 pd)) => p.h.1; have y1 := fun p : Cls (fun w' => w'.cell? ⟨OB, 0, none⟩ = some (.slice (some ⟨gP, 0, none⟩) pg.length cp) ∧ w'.cell? ⟨S, 0, none⟩ = some (.int .i64 pa) ∧ w'.cell? ⟨S, 1, none⟩ = some (.int .i64 pb) ∧ w'.cell? ⟨S, 2, none⟩ = some (.int .i64 pc) ∧ w'.cell? ⟨S, 3, none⟩ = some (.int .i64 pd)) => p.h.2.1; have y2 := fun p : Cls (fun w' => w'.cell? ⟨OB, 0, none⟩ = some (.slice (some ⟨gP, 0, none⟩) pg.length cp) ∧ w'.cell? ⟨S, 0, none⟩ = some (.int .i64 pa) ∧ w'.cell? ⟨S, 1, none⟩ = some (.int .i64 pb) ∧ w'.cell? ⟨S, 2, none⟩ = some (.int .i64 pc) ∧ w'.cell? ⟨S, 3, none⟩ = some (.int .i64 pd)) => p.h.2.2.1; have y3 := fun p : Cls (fun w' => w'.cell? ⟨OB, 0, none⟩ = some (.slice (some ⟨gP, 0, none⟩) pg.length cp) ∧ w'.cell? ⟨S, 0, none⟩ = some (.int .i64 pa) ∧ w'.cell? ⟨S, 1, none⟩ = some (.int .i64 pb) ∧ w'.cell? ⟨S, 2, none⟩ = some (.int .i64 pc) ∧ w'.cell? ⟨S, 3, none⟩ = some (.int .i64 pd)) => p.h.2.2.2.1; have y4 := fun p : Cls (fun w' => w'.cell? ⟨OB, 0, none⟩ = some (.slice (some ⟨gP, 0, none⟩) pg.length cp) ∧ w'.cell? ⟨S, 0, none⟩ = some (.int .i64 pa) ∧ w'.cell? ⟨S, 1, none⟩ = some (.int .i64 pb) ∧ w'.cell? ⟨S, 2, none⟩ = some (.int .i64 pc) ∧ w'.cell? ⟨S, 3, none⟩ = some (.int .i64 pd)) => p.h.2.2.2.2
      have HY0 := Lib.hid y0; have HY1 := Lib.hid y1; have HY2 := Lib.hid y2; have HY3 := Lib.hid y3; have HY4 := Lib.hid y4; clear y0 y1 y2 y3 y4
      go_wp2_with fail
      refine wp_region_late (fun w' => ∃ p : Cls (fun w' => w'.cell? ⟨OB, 0, none⟩ = some (.slice (some ⟨gP, 0, none⟩) pg.length cp) ∧ w'.cell? ⟨S, 0, none⟩ = some (.int .i64 pa) ∧ w'.cell? ⟨S, 1, none⟩ = some (.int .i64 pb) ∧ w'.cell? ⟨S, 2, none⟩ = some (.int .i64 pc) ∧ w'.cell? ⟨S, 3, none⟩ = some (.int .i64 pd)), w' = p.w) 7 (.free [0, 1, 2, 4] (.late [3, 5, 6] (.last []))) rfl (by kernel_rfl) (by kernel_rfl) (by kernel_rfl) (cls_mk hCw) ?_
      change wpLate _ _ _ _ _ _ _ w1.drew
      refine wpLate_free fun K hK => ?_
      have HK := Lib.hid hK; clear hK
      simp only [pick, List.getD_cons_succ, List.getD_cons_zero]
      iterate 4 (go_big_quiet_step (fail))
      refine wpQuiet_nil ?_
      refine HK.out _ ?_
      clear HK K
      refine wpLate_late fun K hK => ?_
      have HK := Lib.hid hK; clear hK
      simp only [pick, List.getD_cons_succ, List.getD_cons_zero]
      have y0 := HY0.out; have y1 := HY1.out; have y2 := HY2.out; have y3 := HY3.out; have y4 := HY4.out
      iterate 3 (go_big_quiet_step (fail))
      refine wpQuiet_nil ?_
      clear y0 y1 y2 y3 y4 HY0 HY1 HY2 HY3 HY4 hCw this
      go_wp2_with fail
      refine HK.out _ _ ?_
      clear HK K
      refine wpPlan_last ?_
      simp only [pick]
      refine wpQuiet_nil ?_
      refine NoPanic.normal ?_
      clear c0 c1 c2 c3 g0 g1 g2 g3
      have hbdr := (Below.refl w1.heap.size w1).drew
      have hW9 := (hWx.below hbdr).setPage n ⟨pa, pb, pc, pd⟩
      have hB9 := (hBx.next hbdr).kept (hWx.below hbdr).pg (by decide) (grown_setPg _ gP n ⟨pa, pb, pc, pd⟩)
      have hK9 := (hKx.below hbdr).grown (grown_setPg _ gP n ⟨pa, pb, pc, pd⟩) (fun k e => hown8 k e)
      have hln : (pg.set n (⟨pa, pb, pc, pd⟩ : Pg)).length = pg.length := List.length_set
      have HLN := Lib.hid hln; have HW9 := Lib.hid hW9; have HB9 := Lib.hid hB9; have HK9 := Lib.hid hK9; clear hln hW9 hB9 hK9 hbdr hBx hWx hXx hKx
      go_wp2_with fail
      go_ret
      refine ⟨⟨some ⟨gP, 0, none⟩, cp, pg.set n ⟨pa, pb, pc, pd⟩⟩, ⟨pu, cu, us⟩, (n : Nat), rfl, ?_, ?_, HW9.out, HK9.out, hsep⟩
      · unfold freshC
        rw [if_neg HZ.out]
        dsimp only
        rw [HFI.out, if_pos hi]
      · show Blk _ OB #[.slice (some ⟨gP, 0, none⟩) (pg.set n (⟨pa, pb, pc, pd⟩ : Pg)).length cp, .slice pu us.length cu, R.val] _
        rw [HLN.out]
        exact HB9.out
    · have hnn : us.length = n := hi.symm
      have HNN := Lib.hid hnn; clear hnn hi
      obtain ⟨iP, hiP, pz0, pz1, pz2⟩ := info_parts infoP
      obtain ⟨iI, hiI, iz0, iz1, iz2⟩ := info_parts infoI
      have hCw : (fun w' => w'.cell? ⟨OB, 0, none⟩ = some (.slice pp pg.length cp) ∧ w'.cell? ⟨OB, 1, none⟩ = some (.slice pu us.length cu) ∧ w'.cell? ⟨S, 0, none⟩ = some (.int .i64 pa) ∧ w'.cell? ⟨S, 1, none⟩ = some (.int .i64 pb) ∧ w'.cell? ⟨S, 2, none⟩ = some (.int .i64 pc) ∧ w'.cell? ⟨S, 3, none⟩ = some (.int .i64 pd)) w1.drew := ⟨hB1.drew.cell 0, hB1.drew.cell 1, hX.drew.cell 0, hX.drew.cell 1, hX.drew.cell 2, hX.drew.cell 3⟩
      haveI := cls_ne (C := fun w' => w'.cell? ⟨OB, 0, none⟩ = some (.slice pp pg.length cp) ∧ w'.cell? ⟨OB, 1, none⟩ = some (.slice pu us.length cu) ∧ w'.cell? ⟨S, 0, none⟩ = some (.int .i64 pa) ∧ w'.cell? ⟨S, 1, none⟩ = some (.int .i64 pb) ∧ w'.cell? ⟨S, 2, none⟩ = some (.int .i64 pc) ∧ w'.cell? ⟨S, 3, none⟩ = some (.int .i64 pd)) hCw
      have y0 := fun p : Cls (fun w' => w'.cell? ⟨OB, 0, none⟩ = some (.slice pp pg.length cp) ∧ w'.cell? ⟨OB, 1, none⟩ = some (.slice pu us.length cu) ∧ w'.cell? ⟨S, 0, none⟩ = some (.int .i64 pa) ∧ w'.cell? ⟨S, 1, none⟩ = some (.int .i64 pb) ∧ w'.cell? ⟨S, 2, none⟩ = some (.int .i64 pc) ∧ w'.cell? ⟨S, 3, none⟩ = some (.int .i64 pd)) => p.h.1; have y1 := fun p : Cls (fun w' => w'.cell? ⟨OB, 0, none⟩ = some (.slice pp pg.length cp) ∧ w'.cell? ⟨OB, 1, none⟩ = some (.slice pu us.length cu) ∧ w'.cell? ⟨S, 0, none⟩ = some (.int .i64 pa) ∧ w'.cell? ⟨S, 1, none⟩ = some (.int .i64 pb) ∧ w'.cell? ⟨S, 2, none⟩ = some (.int .i64 pc) ∧ w'.cell? ⟨S, 3, none⟩ = some (.int .i64 pd)) => p.h.2.1; have y2 := fun p : Cls (fun w' => w'.cell? ⟨OB, 0, none⟩ = some (.slice pp pg.length cp) ∧ w'.cell? ⟨OB, 1, none⟩ = some (.slice pu us.length cu) ∧ w'.cell? ⟨S, 0, none⟩ = some (.int .i64 pa) ∧ w'.cell? ⟨S, 1, none⟩ = some (.int .i64 pb) ∧ w'.cell? ⟨S, 2, none⟩ = some (.int .i64 pc) ∧ w'.cell? ⟨S, 3, none⟩ = some (.int .i64 pd)) => p.h.2.2.1; have y3 := fun p : Cls (fun w' => w'.cell? ⟨OB, 0, none⟩ = some (.slice pp pg.length cp) ∧ w'.cell? ⟨OB, 1, none⟩ = some (.slice pu us.length cu) ∧ w'.cell? ⟨S, 0, none⟩ = some (.int .i64 pa) ∧ w'.cell? ⟨S, 1, none⟩ = some (.int .i64 pb) ∧ w'.cell? ⟨S, 2, none⟩ = some (.int .i64 pc) ∧ w'.cell? ⟨S, 3, none⟩ = some (.int .i64 pd)) => p.h.2.2.2.1; have y4 := fun p : Cls (fun w' => w'.cell? ⟨OB, 0, none⟩ = some (.slice pp pg.length cp) ∧ w'.cell? ⟨OB, 1, none⟩ = some (.slice pu us.length cu) ∧ w'.cell? ⟨S, 0, none⟩ = some (.int .i64 pa) ∧ w'.cell? ⟨S, 1, none⟩ = some (.int .i64 pb) ∧ w'.cell? ⟨S, 2, none⟩ = some (.int .i64 pc) ∧ w'.cell? ⟨S, 3, none⟩ = some (.int .i64 pd)) => p.h.2.2.2.2.1; have y5 := fun p : Cls (fun w' => w'.cell? ⟨OB, 0, none⟩ = some (.slice pp pg.length cp) ∧ w'.cell? ⟨OB, 1, none⟩ = some (.slice pu us.length cu) ∧ w'.cell? ⟨S, 0, none⟩ = some (.int .i64 pa) ∧ w'.cell? ⟨S, 1, none⟩ = some (.int .i64 pb) ∧ w'.cell? ⟨S, 2, none⟩ = some (.int .i64 pc) ∧ w'.cell? ⟨S, 3, none⟩ = some (.int .i64 pd)) => p.h.2.2.2.2.2
      have HY0 := Lib.hid y0; have HY1 := Lib.hid y1; have HY2 := Lib.hid y2; have HY3 := Lib.hid y3; have HY4 := Lib.hid y4; have HY5 := Lib.hid y5; clear y0 y1 y2 y3 y4 y5
      go_wp2_with fail
      refine wp_region_late (fun w' => ∃ p : Cls (fun w' => w'.cell? ⟨OB, 0, none⟩ = some (.slice pp pg.length cp) ∧ w'.cell? ⟨OB, 1, none⟩ = some (.slice pu us.length cu) ∧ w'.cell? ⟨S, 0, none⟩ = some (.int .i64 pa) ∧ w'.cell? ⟨S, 1, none⟩ = some (.int .i64 pb) ∧ w'.cell? ⟨S, 2, none⟩ = some (.int .i64 pc) ∧ w'.cell? ⟨S, 3, none⟩ = some (.int .i64 pd)), w' = p.w) 17 (.free [0, 1, 2, 3, 4, 9, 10, 11] (.two [5, 6, 12] 7 (.two [] 8 (.one [] 13 (.one [] 14 (.free [15, 16] (.late [] (.one [18, 19] 20 (.last [])))))) 13 (.one [] 8 (.one [] 14 (.free [15, 16] (.late [] (.one [18, 19] 20 (.last []))))))) 13 (.one [] 7 (.one [] 8 (.one [] 14 (.free [15, 16] (.late [] (.one [18, 19] 20 (.last []))))))))) rfl (by kernel_rfl) (by kernel_rfl) (by kernel_rfl) (cls_mk hCw) ?_
      change wpLate _ _ _ _ _ _ _ w1.drew
      refine wpLate_free fun K hK => ?_
      have HK := Lib.hid hK; clear hK
      simp only [pick, List.getD_cons_succ, List.getD_cons_zero]
      iterate 8 (go_big_quiet_step (fail))
      refine wpQuiet_nil ?_
      refine HK.out _ ?_
      clear HK K
      refine wpLate_two fun K K' hK hK' => ?_
      have HK := Lib.hid hK; have HK' := Lib.hid hK'; clear hK hK'
      simp only [pick, List.getD_cons_succ, List.getD_cons_zero]
      have y0 := HY0.out; have y1 := HY1.out; have y2 := HY2.out; have y3 := HY3.out; have y4 := HY4.out; have y5 := HY5.out
      iterate 3 (go_big_quiet_step (fail))
      refine wpQuiet_nil ?_
      clear y0 y1 y2 y3 y4 y5 HY0 HY1 HY2 HY3 HY4 HY5 hCw this x0 x1 x2 x3 b0 b1
      have hbdr := (Below.refl w1.heap.size w1).drew
      have hBx := hB1.next hbdr; have hWx := hW1.below hbdr; have hXx := hX.next hbdr; have hKx := hK1.below hbdr
      clear hB1 hW1 hX hK1 hbdr hal
      generalize w1.drew = wx at *
      refine ⟨?oa, ?ob⟩
      case' oa =>
        clear HK' K'
        have hal := (Below.refl wx.heap.size wx).alloc (Nat.le_refl _) (.cells #[.int .i64 pa, .int .i64 pb, .int .i64 pc, .int .i64 pd] 38)
        have hP7 := Blk.mk2 wx #[.int .i64 pa, .int .i64 pb, .int .i64 pc, .int .i64 pd] 38
        have hBy := hBx.next hal; have hWy := hWx.below hal; have hXy := hXx.next hal; have hKy := hKx.below hal
        clear hBx hWx hXx hKx hal
        have hBx := hBy; have hWx := hWy; have hXx := hXy; have hKx := hKy
        clear hBy hWy hXy hKy
        go_wp2_with fail
        refine ⟨cls_mk (C := fun w' => w'.cell? ⟨OB, 0, none⟩ = some (.slice pp pg.length cp) ∧ w'.cell? ⟨OB, 1, none⟩ = some (.slice pu us.length cu) ∧ w'.cell? ⟨S, 0, none⟩ = some (.int .i64 pa) ∧ w'.cell? ⟨S, 1, none⟩ = some (.int .i64 pb) ∧ w'.cell? ⟨S, 2, none⟩ = some (.int .i64 pc) ∧ w'.cell? ⟨S, 3, none⟩ = some (.int .i64 pd)) ⟨hBx.cell 0, hBx.cell 1, hXx.cell 0, hXx.cell 1, hXx.cell 2, hXx.cell 3⟩, HK.out _ _ ?_⟩
        generalize wx.heap.size = L7 at *
        generalize wx.alloc (.cells #[.int .i64 pa, .int .i64 pb, .int .i64 pc, .int .i64 pd] 38) = wy at *
        obtain ⟨wx, hwx⟩ : ∃ wx : World, wx = wy := ⟨_, rfl⟩
        subst hwx
        clear HK K
        refine wpLate_two fun K K' hK hK' => ?_
        have HK := Lib.hid hK; have HK' := Lib.hid hK'; clear hK hK'
        simp only [pick, List.getD_cons_succ, List.getD_cons_zero]
        refine wpQuiet_nil ?_
        refine ⟨?ia, ?ib⟩
        case' ia =>
          clear HK' K'
          have hBS : B ≤ wx.heap.size := Nat.le_trans hBO (by have := hKx.size; omega)
          have hpg0 := hWx.pg
          go_wp2_with (refine wpList_append_sep wx rfl _ _ 22 rfl B 38 iP (.agg #[.int .i64 0, .int .i64 0, .int .i64 0, .int .i64 0]) 4 32 Try.underlying22 hiP pz0 pz1 pz2 rfl (by decide) (.slice pp pg.length cp) pg.length (pgCells pg) rfl hpg0 ⟨L7, 0, none⟩ 1 1 [.int .i64 pa, .int .i64 pb, .int .i64 pc, .int .i64 pd] rfl rfl (news_of hP7) (by intro u hu; simp only [List.mem_cons, List.not_mem_nil, or_false] at hu; rcases hu with rfl | rfl | rfl | rfl <;> rfl) (by omega) (by decide) hBS ?_; intro pp2 cp2 wy hop hg hsp)
          try go_frame
          rw [pgCells_snoc pg ⟨pa, pb, pc, pd⟩] at hop
          have hBy := hBx.kept hpg0 (by decide) hg
          have hKy := hKx.grown hg (fun k e => .inl (by rw [← e]; simp))
          have hwp : ∀ k, (Value.slice pp2 (pg.length + 1) cp2).ownBlock = some k → (Value.slice pp pg.length cp).ownBlock = some k ∨ S ≤ k := fun k e => by
            rcases hsp with h | h
            · exact .inl (by rw [← h]; exact e)
            · rw [h] at e; cases e; exact .inr (by have := hKx.size; omega)
          have hwx : w1.heap.size ≤ wx.heap.size ∨ True := .inr trivial
          have hXy : Blk wy S #[.int .i64 pa, .int .i64 pb, .int .i64 pc, .int .i64 pd] 38 := (hg.block S hXx.lt (fun e => HSP.out e.symm)).trans hXx
          have husy := hWx.us.kept hg (own_apart hWx.us hpg0 (by decide)); have hrty := hWx.rt.kept hg (own_apart hWx.rt hpg0 (by decide))
          have heay : ∀ s ∈ R.l, OwnS wy B s ∧ Apart s ⟨pu, cu, us⟩ := fun s hs => ⟨(hWx.each s hs).1.kept hg (own_apart (hWx.each s hs).1 hpg0 (by decide)), (hWx.each s hs).2⟩
          have hop2 : wy.ownsRow B 38 4 (.slice pp2 (pg ++ [(⟨pa, pb, pc, pd⟩ : Pg)]).length cp2) (pg ++ [(⟨pa, pb, pc, pd⟩ : Pg)]).length (pgCells (pg ++ [⟨pa, pb, pc, pd⟩])) := by rw [List.length_append]; exact hop
          refine ⟨cls_mk (C := fun w' => w'.cell? ⟨OB, 0, none⟩ = some (.slice pp pg.length cp) ∧ w'.cell? ⟨OB, 1, none⟩ = some (.slice pu us.length cu) ∧ w'.cell? ⟨S, 0, none⟩ = some (.int .i64 pa) ∧ w'.cell? ⟨S, 1, none⟩ = some (.int .i64 pb) ∧ w'.cell? ⟨S, 2, none⟩ = some (.int .i64 pc) ∧ w'.cell? ⟨S, 3, none⟩ = some (.int .i64 pd)) ⟨hBy.cell 0, hBy.cell 1, hXy.cell 0, hXy.cell 1, hXy.cell 2, hXy.cell 3⟩, HK.out _ _ ?_⟩
          have hWy : Ow wy B ⟨⟨pp2, cp2, pg ++ [⟨pa, pb, pc, pd⟩]⟩, ⟨pu, cu, us⟩, R⟩ := ⟨hop2, husy, hrty, heay⟩
          clear hBx hWx hXx hKx hg hsp hop hop2 husy hrty heay hpg0 hBS hP7 hwx
          have hBx := hBy; have hWx := hWy; have hXx := hXy; have hKx := hKy
          clear hBy hWy hXy hKy
          obtain ⟨wx, hwx⟩ : ∃ wx : World, wx = wy := ⟨_, rfl⟩
          subst hwx
          clear HK K
          refine wpLate_one fun K hK => ?_
          have HK := Lib.hid hK; clear hK
          simp only [pick, List.getD_cons_succ, List.getD_cons_zero]
          refine wpQuiet_nil ?_
          have hal := (Below.refl wx.heap.size wx).alloc (Nat.le_refl _) (.cells #[.int .i64 0] 3)
          have hP13 := Blk.mk2 wx #[.int .i64 0] 3
          have hBy := hBx.next hal; have hWy := hWx.below hal; have hXy := hXx.next hal; have hKy := hKx.below hal
          clear hBx hWx hXx hKx hal
          have hBx := hBy; have hWx := hWy; have hXx := hXy; have hKx := hKy
          clear hBy hWy hXy hKy
          go_wp2_with fail
          refine ⟨cls_mk (C := fun w' => w'.cell? ⟨OB, 0, none⟩ = some (.slice pp pg.length cp) ∧ w'.cell? ⟨OB, 1, none⟩ = some (.slice pu us.length cu) ∧ w'.cell? ⟨S, 0, none⟩ = some (.int .i64 pa) ∧ w'.cell? ⟨S, 1, none⟩ = some (.int .i64 pb) ∧ w'.cell? ⟨S, 2, none⟩ = some (.int .i64 pc) ∧ w'.cell? ⟨S, 3, none⟩ = some (.int .i64 pd)) ⟨hBx.cell 0, hBx.cell 1, hXx.cell 0, hXx.cell 1, hXx.cell 2, hXx.cell 3⟩, HK.out _ _ ?_⟩
          generalize wx.heap.size = L13 at *
          generalize wx.alloc (.cells #[.int .i64 0] 3) = wy at *
          obtain ⟨wx, hwx⟩ : ∃ wx : World, wx = wy := ⟨_, rfl⟩
          subst hwx
          clear HK K
          refine wpLate_one fun K hK => ?_
          have HK := Lib.hid hK; clear hK
          simp only [pick, List.getD_cons_succ, List.getD_cons_zero]
          refine wpQuiet_nil ?_
          have hBS : B ≤ wx.heap.size := Nat.le_trans hBO (by have := hKx.size; omega)
          have hus0 := hWx.us
          go_wp2_with (refine wpList_append_sep wx rfl _ _ 23 rfl B 3 iI (.int .i64 0) 1 8 Try.underlying23 hiI iz0 iz1 iz2 rfl (by decide) (.slice pu us.length cu) us.length (ints .i64 us) rfl hus0 ⟨L13, 0, none⟩ 1 1 [.int .i64 0] rfl rfl (news_of hP13) (by intro u hu; obtain rfl := List.mem_singleton.1 hu; rfl) (by omega) (by decide) hBS ?_; intro pu2 cu2 wy hou hg hsp)
          try go_frame
          have hBy := hBx.kept hus0 (by decide) hg
          have hXy := hXx.kept hus0 (by decide) hg
          have hKy := hKx.grown hg (fun k e => .inl (by rw [← e]; simp))
          replace hsp : (Value.slice pu2 (us ++ [0]).length cu2).ownBlock = (Value.slice pu us.length cu).ownBlock ∨ (Value.slice pu2 (us ++ [0]).length cu2).ownBlock = some wx.heap.size := by rw [ownBlock_len pu2 _ (us.length + 1) _ cu2]; exact hsp
          have hsep : ∀ k, (Value.slice pu2 (us ++ [0]).length cu2).ownBlock = some k → (Value.slice pu us.length cu).ownBlock = some k ∨ S ≤ k := fun k e => by
            rcases hsp with h | h
            · exact .inl (by rw [← h]; exact e)
            · have e2 : some wx.heap.size = some k := h.symm.trans e
              cases e2; exact .inr (by have := hKx.size; omega)
          have hou2 : wy.ownsRow B 3 1 (.slice pu2 (us ++ [0]).length cu2) (us ++ [0]).length (ints .i64 (us ++ [0])) := by rw [List.length_append, ints_append]; exact hou
          have hWy : Ow wy B ⟨⟨pp2, cp2, pg ++ [⟨pa, pb, pc, pd⟩]⟩, ⟨pu2, cu2, us ++ [0]⟩, R⟩ := ⟨hWx.pg.kept hg (own_apart hWx.pg hus0 (by decide)), hou2, hWx.rt.kept hg (own_apart hWx.rt hus0 (by decide)), fun s hs => ⟨(hWx.each s hs).1.kept hg (hWx.each s hs).2, by
            exact apart_sep (hWx.each s hs).1 (hWx.each s hs).2 hsp⟩⟩
          refine ⟨cls_mk (C := fun w' => w'.cell? ⟨OB, 0, none⟩ = some (.slice pp pg.length cp) ∧ w'.cell? ⟨OB, 1, none⟩ = some (.slice pu us.length cu) ∧ w'.cell? ⟨S, 0, none⟩ = some (.int .i64 pa) ∧ w'.cell? ⟨S, 1, none⟩ = some (.int .i64 pb) ∧ w'.cell? ⟨S, 2, none⟩ = some (.int .i64 pc) ∧ w'.cell? ⟨S, 3, none⟩ = some (.int .i64 pd)) ⟨hBy.cell 0, hBy.cell 1, hXy.cell 0, hXy.cell 1, hXy.cell 2, hXy.cell 3⟩, HK.out _ _ ?_⟩
          clear hBx hWx hXx hKx hg hsp hou hou2 hus0 hBS hP13
          have hBx := hBy; have hWx := hWy; have hXx := hXy; have hKx := hKy
          clear hBy hWy hXy hKy
          obtain ⟨wx, hwx⟩ : ∃ wx : World, wx = wy := ⟨_, rfl⟩
          subst hwx
        case' ib =>
          clear HK K
          have hal := (Below.refl wx.heap.size wx).alloc (Nat.le_refl _) (.cells #[.int .i64 0] 3)
          have hP13 := Blk.mk2 wx #[.int .i64 0] 3
          have hBy := hBx.next hal; have hWy := hWx.below hal; have hXy := hXx.next hal; have hKy := hKx.below hal
          replace hP7 := hP7.next hal
          clear hBx hWx hXx hKx hal
          have hBx := hBy; have hWx := hWy; have hXx := hXy; have hKx := hKy
          clear hBy hWy hXy hKy
          go_wp2_with fail
          refine ⟨cls_mk (C := fun w' => w'.cell? ⟨OB, 0, none⟩ = some (.slice pp pg.length cp) ∧ w'.cell? ⟨OB, 1, none⟩ = some (.slice pu us.length cu) ∧ w'.cell? ⟨S, 0, none⟩ = some (.int .i64 pa) ∧ w'.cell? ⟨S, 1, none⟩ = some (.int .i64 pb) ∧ w'.cell? ⟨S, 2, none⟩ = some (.int .i64 pc) ∧ w'.cell? ⟨S, 3, none⟩ = some (.int .i64 pd)) ⟨hBx.cell 0, hBx.cell 1, hXx.cell 0, hXx.cell 1, hXx.cell 2, hXx.cell 3⟩, HK'.out _ _ ?_⟩
          generalize wx.heap.size = L13 at *
          generalize wx.alloc (.cells #[.int .i64 0] 3) = wy at *
          obtain ⟨wx, hwx⟩ : ∃ wx : World, wx = wy := ⟨_, rfl⟩
          subst hwx
          clear HK' K'
          refine wpLate_one fun K hK => ?_
          have HK := Lib.hid hK; clear hK
          simp only [pick, List.getD_cons_succ, List.getD_cons_zero]
          refine wpQuiet_nil ?_
          have hBS : B ≤ wx.heap.size := Nat.le_trans hBO (by have := hKx.size; omega)
          have hpg0 := hWx.pg
          go_wp2_with (refine wpList_append_sep wx rfl _ _ 22 rfl B 38 iP (.agg #[.int .i64 0, .int .i64 0, .int .i64 0, .int .i64 0]) 4 32 Try.underlying22 hiP pz0 pz1 pz2 rfl (by decide) (.slice pp pg.length cp) pg.length (pgCells pg) rfl hpg0 ⟨L7, 0, none⟩ 1 1 [.int .i64 pa, .int .i64 pb, .int .i64 pc, .int .i64 pd] rfl rfl (news_of hP7) (by intro u hu; simp only [List.mem_cons, List.not_mem_nil, or_false] at hu; rcases hu with rfl | rfl | rfl | rfl <;> rfl) (by omega) (by decide) hBS ?_; intro pp2 cp2 wy hop hg hsp)
          try go_frame
          rw [pgCells_snoc pg ⟨pa, pb, pc, pd⟩] at hop
          have hBy := hBx.kept hpg0 (by decide) hg
          have hKy := hKx.grown hg (fun k e => .inl (by rw [← e]; simp))
          have hwp : ∀ k, (Value.slice pp2 (pg.length + 1) cp2).ownBlock = some k → (Value.slice pp pg.length cp).ownBlock = some k ∨ S ≤ k := fun k e => by
            rcases hsp with h | h
            · exact .inl (by rw [← h]; exact e)
            · rw [h] at e; cases e; exact .inr (by have := hKx.size; omega)
          have hwx : w1.heap.size ≤ wx.heap.size ∨ True := .inr trivial
          have hXy : Blk wy S #[.int .i64 pa, .int .i64 pb, .int .i64 pc, .int .i64 pd] 38 := (hg.block S hXx.lt (fun e => HSP.out e.symm)).trans hXx
          have husy := hWx.us.kept hg (own_apart hWx.us hpg0 (by decide)); have hrty := hWx.rt.kept hg (own_apart hWx.rt hpg0 (by decide))
          have heay : ∀ s ∈ R.l, OwnS wy B s ∧ Apart s ⟨pu, cu, us⟩ := fun s hs => ⟨(hWx.each s hs).1.kept hg (own_apart (hWx.each s hs).1 hpg0 (by decide)), (hWx.each s hs).2⟩
          have hop2 : wy.ownsRow B 38 4 (.slice pp2 (pg ++ [(⟨pa, pb, pc, pd⟩ : Pg)]).length cp2) (pg ++ [(⟨pa, pb, pc, pd⟩ : Pg)]).length (pgCells (pg ++ [⟨pa, pb, pc, pd⟩])) := by rw [List.length_append]; exact hop
          replace hP13 := hP13.kept hpg0 (by decide) hg
          refine ⟨cls_mk (C := fun w' => w'.cell? ⟨OB, 0, none⟩ = some (.slice pp pg.length cp) ∧ w'.cell? ⟨OB, 1, none⟩ = some (.slice pu us.length cu) ∧ w'.cell? ⟨S, 0, none⟩ = some (.int .i64 pa) ∧ w'.cell? ⟨S, 1, none⟩ = some (.int .i64 pb) ∧ w'.cell? ⟨S, 2, none⟩ = some (.int .i64 pc) ∧ w'.cell? ⟨S, 3, none⟩ = some (.int .i64 pd)) ⟨hBy.cell 0, hBy.cell 1, hXy.cell 0, hXy.cell 1, hXy.cell 2, hXy.cell 3⟩, HK.out _ _ ?_⟩
          have hWy : Ow wy B ⟨⟨pp2, cp2, pg ++ [⟨pa, pb, pc, pd⟩]⟩, ⟨pu, cu, us⟩, R⟩ := ⟨hop2, husy, hrty, heay⟩
          clear hBx hWx hXx hKx hg hsp hop hop2 husy hrty heay hpg0 hBS hP7 hwx
          have hBx := hBy; have hWx := hWy; have hXx := hXy; have hKx := hKy
          clear hBy hWy hXy hKy
          obtain ⟨wx, hwx⟩ : ∃ wx : World, wx = wy := ⟨_, rfl⟩
          subst hwx
          clear HK K
          refine wpLate_one fun K hK => ?_
          have HK := Lib.hid hK; clear hK
          simp only [pick, List.getD_cons_succ, List.getD_cons_zero]
          refine wpQuiet_nil ?_
          have hBS : B ≤ wx.heap.size := Nat.le_trans hBO (by have := hKx.size; omega)
          have hus0 := hWx.us
          go_wp2_with (refine wpList_append_sep wx rfl _ _ 23 rfl B 3 iI (.int .i64 0) 1 8 Try.underlying23 hiI iz0 iz1 iz2 rfl (by decide) (.slice pu us.length cu) us.length (ints .i64 us) rfl hus0 ⟨L13, 0, none⟩ 1 1 [.int .i64 0] rfl rfl (news_of hP13) (by intro u hu; obtain rfl := List.mem_singleton.1 hu; rfl) (by omega) (by decide) hBS ?_; intro pu2 cu2 wy hou hg hsp)
          try go_frame
          have hBy := hBx.kept hus0 (by decide) hg
          have hXy := hXx.kept hus0 (by decide) hg
          have hKy := hKx.grown hg (fun k e => .inl (by rw [← e]; simp))
          replace hsp : (Value.slice pu2 (us ++ [0]).length cu2).ownBlock = (Value.slice pu us.length cu).ownBlock ∨ (Value.slice pu2 (us ++ [0]).length cu2).ownBlock = some wx.heap.size := by rw [ownBlock_len pu2 _ (us.length + 1) _ cu2]; exact hsp
          have hsep : ∀ k, (Value.slice pu2 (us ++ [0]).length cu2).ownBlock = some k → (Value.slice pu us.length cu).ownBlock = some k ∨ S ≤ k := fun k e => by
            rcases hsp with h | h
            · exact .inl (by rw [← h]; exact e)
            · have e2 : some wx.heap.size = some k := h.symm.trans e
              cases e2; exact .inr (by have := hKx.size; omega)
          have hou2 : wy.ownsRow B 3 1 (.slice pu2 (us ++ [0]).length cu2) (us ++ [0]).length (ints .i64 (us ++ [0])) := by rw [List.length_append, ints_append]; exact hou
          have hWy : Ow wy B ⟨⟨pp2, cp2, pg ++ [⟨pa, pb, pc, pd⟩]⟩, ⟨pu2, cu2, us ++ [0]⟩, R⟩ := ⟨hWx.pg.kept hg (own_apart hWx.pg hus0 (by decide)), hou2, hWx.rt.kept hg (own_apart hWx.rt hus0 (by decide)), fun s hs => ⟨(hWx.each s hs).1.kept hg (hWx.each s hs).2, by
            exact apart_sep (hWx.each s hs).1 (hWx.each s hs).2 hsp⟩⟩
          refine ⟨cls_mk (C := fun w' => w'.cell? ⟨OB, 0, none⟩ = some (.slice pp pg.length cp) ∧ w'.cell? ⟨OB, 1, none⟩ = some (.slice pu us.length cu) ∧ w'.cell? ⟨S, 0, none⟩ = some (.int .i64 pa) ∧ w'.cell? ⟨S, 1, none⟩ = some (.int .i64 pb) ∧ w'.cell? ⟨S, 2, none⟩ = some (.int .i64 pc) ∧ w'.cell? ⟨S, 3, none⟩ = some (.int .i64 pd)) ⟨hBy.cell 0, hBy.cell 1, hXy.cell 0, hXy.cell 1, hXy.cell 2, hXy.cell 3⟩, HK.out _ _ ?_⟩
          clear hBx hWx hXx hKx hg hsp hou hou2 hus0 hBS hP13
          have hBx := hBy; have hWx := hWy; have hXx := hXy; have hKx := hKy
          clear hBy hWy hXy hKy
          obtain ⟨wx, hwx⟩ : ∃ wx : World, wx = wy := ⟨_, rfl⟩
          subst hwx
      case' ob =>
        clear HK K
        have hal := (Below.refl wx.heap.size wx).alloc (Nat.le_refl _) (.cells #[.int .i64 0] 3)
        have hP13 := Blk.mk2 wx #[.int .i64 0] 3
        have hBy := hBx.next hal; have hWy := hWx.below hal; have hXy := hXx.next hal; have hKy := hKx.below hal
        clear hBx hWx hXx hKx hal
        have hBx := hBy; have hWx := hWy; have hXx := hXy; have hKx := hKy
        clear hBy hWy hXy hKy
        go_wp2_with fail
        refine ⟨cls_mk (C := fun w' => w'.cell? ⟨OB, 0, none⟩ = some (.slice pp pg.length cp) ∧ w'.cell? ⟨OB, 1, none⟩ = some (.slice pu us.length cu) ∧ w'.cell? ⟨S, 0, none⟩ = some (.int .i64 pa) ∧ w'.cell? ⟨S, 1, none⟩ = some (.int .i64 pb) ∧ w'.cell? ⟨S, 2, none⟩ = some (.int .i64 pc) ∧ w'.cell? ⟨S, 3, none⟩ = some (.int .i64 pd)) ⟨hBx.cell 0, hBx.cell 1, hXx.cell 0, hXx.cell 1, hXx.cell 2, hXx.cell 3⟩, HK'.out _ _ ?_⟩
        generalize wx.heap.size = L13 at *
        generalize wx.alloc (.cells #[.int .i64 0] 3) = wy at *
        obtain ⟨wx, hwx⟩ : ∃ wx : World, wx = wy := ⟨_, rfl⟩
        subst hwx
        clear HK' K'
        refine wpLate_one fun K hK => ?_
        have HK := Lib.hid hK; clear hK
        simp only [pick, List.getD_cons_succ, List.getD_cons_zero]
        refine wpQuiet_nil ?_
        have hal := (Below.refl wx.heap.size wx).alloc (Nat.le_refl _) (.cells #[.int .i64 pa, .int .i64 pb, .int .i64 pc, .int .i64 pd] 38)
        have hP7 := Blk.mk2 wx #[.int .i64 pa, .int .i64 pb, .int .i64 pc, .int .i64 pd] 38
        have hBy := hBx.next hal; have hWy := hWx.below hal; have hXy := hXx.next hal; have hKy := hKx.below hal
        replace hP13 := hP13.next hal
        clear hBx hWx hXx hKx hal
        have hBx := hBy; have hWx := hWy; have hXx := hXy; have hKx := hKy
        clear hBy hWy hXy hKy
        go_wp2_with fail
        refine ⟨cls_mk (C := fun w' => w'.cell? ⟨OB, 0, none⟩ = some (.slice pp pg.length cp) ∧ w'.cell? ⟨OB, 1, none⟩ = some (.slice pu us.length cu) ∧ w'.cell? ⟨S, 0, none⟩ = some (.int .i64 pa) ∧ w'.cell? ⟨S, 1, none⟩ = some (.int .i64 pb) ∧ w'.cell? ⟨S, 2, none⟩ = some (.int .i64 pc) ∧ w'.cell? ⟨S, 3, none⟩ = some (.int .i64 pd)) ⟨hBx.cell 0, hBx.cell 1, hXx.cell 0, hXx.cell 1, hXx.cell 2, hXx.cell 3⟩, HK.out _ _ ?_⟩
        generalize wx.heap.size = L7 at *
        generalize wx.alloc (.cells #[.int .i64 pa, .int .i64 pb, .int .i64 pc, .int .i64 pd] 38) = wy at *
        obtain ⟨wx, hwx⟩ : ∃ wx : World, wx = wy := ⟨_, rfl⟩
        subst hwx
        clear HK K
        refine wpLate_one fun K hK => ?_
        have HK := Lib.hid hK; clear hK
        simp only [pick, List.getD_cons_succ, List.getD_cons_zero]
        refine wpQuiet_nil ?_
        have hBS : B ≤ wx.heap.size := Nat.le_trans hBO (by have := hKx.size; omega)
        have hpg0 := hWx.pg
        go_wp2_with (refine wpList_append_sep wx rfl _ _ 22 rfl B 38 iP (.agg #[.int .i64 0, .int .i64 0, .int .i64 0, .int .i64 0]) 4 32 Try.underlying22 hiP pz0 pz1 pz2 rfl (by decide) (.slice pp pg.length cp) pg.length (pgCells pg) rfl hpg0 ⟨L7, 0, none⟩ 1 1 [.int .i64 pa, .int .i64 pb, .int .i64 pc, .int .i64 pd] rfl rfl (news_of hP7) (by intro u hu; simp only [List.mem_cons, List.not_mem_nil, or_false] at hu; rcases hu with rfl | rfl | rfl | rfl <;> rfl) (by omega) (by decide) hBS ?_; intro pp2 cp2 wy hop hg hsp)
        try go_frame
        rw [pgCells_snoc pg ⟨pa, pb, pc, pd⟩] at hop
        have hBy := hBx.kept hpg0 (by decide) hg
        have hKy := hKx.grown hg (fun k e => .inl (by rw [← e]; simp))
        have hwp : ∀ k, (Value.slice pp2 (pg.length + 1) cp2).ownBlock = some k → (Value.slice pp pg.length cp).ownBlock = some k ∨ S ≤ k := fun k e => by
          rcases hsp with h | h
          · exact .inl (by rw [← h]; exact e)
          · rw [h] at e; cases e; exact .inr (by have := hKx.size; omega)
        have hwx : w1.heap.size ≤ wx.heap.size ∨ True := .inr trivial
        have hXy : Blk wy S #[.int .i64 pa, .int .i64 pb, .int .i64 pc, .int .i64 pd] 38 := (hg.block S hXx.lt (fun e => HSP.out e.symm)).trans hXx
        have husy := hWx.us.kept hg (own_apart hWx.us hpg0 (by decide)); have hrty := hWx.rt.kept hg (own_apart hWx.rt hpg0 (by decide))
        have heay : ∀ s ∈ R.l, OwnS wy B s ∧ Apart s ⟨pu, cu, us⟩ := fun s hs => ⟨(hWx.each s hs).1.kept hg (own_apart (hWx.each s hs).1 hpg0 (by decide)), (hWx.each s hs).2⟩
        have hop2 : wy.ownsRow B 38 4 (.slice pp2 (pg ++ [(⟨pa, pb, pc, pd⟩ : Pg)]).length cp2) (pg ++ [(⟨pa, pb, pc, pd⟩ : Pg)]).length (pgCells (pg ++ [⟨pa, pb, pc, pd⟩])) := by rw [List.length_append]; exact hop
        replace hP13 := hP13.kept hpg0 (by decide) hg
        refine ⟨cls_mk (C := fun w' => w'.cell? ⟨OB, 0, none⟩ = some (.slice pp pg.length cp) ∧ w'.cell? ⟨OB, 1, none⟩ = some (.slice pu us.length cu) ∧ w'.cell? ⟨S, 0, none⟩ = some (.int .i64 pa) ∧ w'.cell? ⟨S, 1, none⟩ = some (.int .i64 pb) ∧ w'.cell? ⟨S, 2, none⟩ = some (.int .i64 pc) ∧ w'.cell? ⟨S, 3, none⟩ = some (.int .i64 pd)) ⟨hBy.cell 0, hBy.cell 1, hXy.cell 0, hXy.cell 1, hXy.cell 2, hXy.cell 3⟩, HK.out _ _ ?_⟩
        have hWy : Ow wy B ⟨⟨pp2, cp2, pg ++ [⟨pa, pb, pc, pd⟩]⟩, ⟨pu, cu, us⟩, R⟩ := ⟨hop2, husy, hrty, heay⟩
        clear hBx hWx hXx hKx hg hsp hop hop2 husy hrty heay hpg0 hBS hP7 hwx
        have hBx := hBy; have hWx := hWy; have hXx := hXy; have hKx := hKy
        clear hBy hWy hXy hKy
        obtain ⟨wx, hwx⟩ : ∃ wx : World, wx = wy := ⟨_, rfl⟩
        subst hwx
        clear HK K
        refine wpLate_one fun K hK => ?_
        have HK := Lib.hid hK; clear hK
        simp only [pick, List.getD_cons_succ, List.getD_cons_zero]
        refine wpQuiet_nil ?_
        have hBS : B ≤ wx.heap.size := Nat.le_trans hBO (by have := hKx.size; omega)
        have hus0 := hWx.us
        go_wp2_with (refine wpList_append_sep wx rfl _ _ 23 rfl B 3 iI (.int .i64 0) 1 8 Try.underlying23 hiI iz0 iz1 iz2 rfl (by decide) (.slice pu us.length cu) us.length (ints .i64 us) rfl hus0 ⟨L13, 0, none⟩ 1 1 [.int .i64 0] rfl rfl (news_of hP13) (by intro u hu; obtain rfl := List.mem_singleton.1 hu; rfl) (by omega) (by decide) hBS ?_; intro pu2 cu2 wy hou hg hsp)
        try go_frame
        have hBy := hBx.kept hus0 (by decide) hg
        have hXy := hXx.kept hus0 (by decide) hg
        have hKy := hKx.grown hg (fun k e => .inl (by rw [← e]; simp))
        replace hsp : (Value.slice pu2 (us ++ [0]).length cu2).ownBlock = (Value.slice pu us.length cu).ownBlock ∨ (Value.slice pu2 (us ++ [0]).length cu2).ownBlock = some wx.heap.size := by rw [ownBlock_len pu2 _ (us.length + 1) _ cu2]; exact hsp
        have hsep : ∀ k, (Value.slice pu2 (us ++ [0]).length cu2).ownBlock = some k → (Value.slice pu us.length cu).ownBlock = some k ∨ S ≤ k := fun k e => by
          rcases hsp with h | h
          · exact .inl (by rw [← h]; exact e)
          · have e2 : some wx.heap.size = some k := h.symm.trans e
            cases e2; exact .inr (by have := hKx.size; omega)
        have hou2 : wy.ownsRow B 3 1 (.slice pu2 (us ++ [0]).length cu2) (us ++ [0]).length (ints .i64 (us ++ [0])) := by rw [List.length_append, ints_append]; exact hou
        have hWy : Ow wy B ⟨⟨pp2, cp2, pg ++ [⟨pa, pb, pc, pd⟩]⟩, ⟨pu2, cu2, us ++ [0]⟩, R⟩ := ⟨hWx.pg.kept hg (own_apart hWx.pg hus0 (by decide)), hou2, hWx.rt.kept hg (own_apart hWx.rt hus0 (by decide)), fun s hs => ⟨(hWx.each s hs).1.kept hg (hWx.each s hs).2, by
          exact apart_sep (hWx.each s hs).1 (hWx.each s hs).2 hsp⟩⟩
        refine ⟨cls_mk (C := fun w' => w'.cell? ⟨OB, 0, none⟩ = some (.slice pp pg.length cp) ∧ w'.cell? ⟨OB, 1, none⟩ = some (.slice pu us.length cu) ∧ w'.cell? ⟨S, 0, none⟩ = some (.int .i64 pa) ∧ w'.cell? ⟨S, 1, none⟩ = some (.int .i64 pb) ∧ w'.cell? ⟨S, 2, none⟩ = some (.int .i64 pc) ∧ w'.cell? ⟨S, 3, none⟩ = some (.int .i64 pd)) ⟨hBy.cell 0, hBy.cell 1, hXy.cell 0, hXy.cell 1, hXy.cell 2, hXy.cell 3⟩, HK.out _ _ ?_⟩
        clear hBx hWx hXx hKx hg hsp hou hou2 hus0 hBS hP13
        have hBx := hBy; have hWx := hWy; have hXx := hXy; have hKx := hKy
        clear hBy hWy hXy hKy
        obtain ⟨wx, hwx⟩ : ∃ wx : World, wx = wy := ⟨_, rfl⟩
        subst hwx
      all_goals
        clear HK K
        refine wpLate_free fun K hK => ?_
        have HK := Lib.hid hK; clear hK
        simp only [pick, List.getD_cons_succ, List.getD_cons_zero]
        iterate 2 (go_big_quiet_step (fail))
        refine wpQuiet_nil ?_
        refine HK.out _ ?_
        clear HK K
        refine wpLate_late fun K hK => ?_
        have HK := Lib.hid hK; clear hK
        simp only [pick, List.getD_cons_succ, List.getD_cons_zero]
        refine wpQuiet_nil ?_
        have q0 : wx.cell? ⟨OB, 0, none⟩ = some (.slice pp pg.length cp) := hBx.cell 0
        have f0 := hBx.frozen 0
        go_wp2_with fail
        refine HK.out _ _ ?_
        clear HK K q0 f0
        refine wpPlan_one fun K hK => ?_
        have HK := Lib.hid hK; clear hK
        simp only [pick, List.getD_cons_succ, List.getD_cons_zero]
        iterate 2 (go_big_quiet_step (fail))
        refine wpQuiet_nil ?_
        have hBy := hBx.set 0 (.slice pp2 (pg.length + 1) cp2)
        have hWy := hWx.other hBx (by decide) (by decide) (by decide) (grown_set wx OB 0 (.slice pp2 (pg.length + 1) cp2))
        have hXO : OB ≠ S := fun e => by
          subst e
          have h1 : wx.heap[OB]? = _ := hBx
          rw [show wx.heap[OB]? = _ from hXx] at h1
          cases h1
        have hXy := hXx.other (C := OB) (k := 0) (.slice pp2 (pg.length + 1) cp2) hXO
        have hKy := hKx.grown (grown_set wx OB 0 (.slice pp2 (pg.length + 1) cp2)) (fun k e => .inl (by rw [← e]; simp))
        clear hBx hWx hXx hKx
        generalize wx.setCell ⟨OB, 0, none⟩ (.slice pp2 (pg.length + 1) cp2) = wy at *
        have q1 : wy.cell? ⟨OB, 1, none⟩ = some (.slice pu us.length cu) := hBy.cell 1
        have f1 := hBy.frozen 1
        go_wp2_with fail
        refine ⟨trivial, HK.out _ _ ?_⟩
        clear HK K q1 f1
        refine wpPlan_last ?_
        simp only [pick]
        refine wpQuiet_nil ?_
        refine NoPanic.normal ?_
        have hBx0 := hBy.set 1 (.slice pu2 (us.length + 1) cu2)
        have hWx := hWy.other hBy (by decide) (by decide) (by decide) (grown_set wy OB 1 (.slice pu2 (us.length + 1) cu2))
        have hXx := hXy.other (C := OB) (k := 1) (.slice pu2 (us.length + 1) cu2) hXO
        have hKx := hKy.grown (grown_set wy OB 1 (.slice pu2 (us.length + 1) cu2)) (fun k e => .inl (by rw [← e]; simp))
        clear hBy hWy hXy hKy hXO
        generalize wy.setCell ⟨OB, 1, none⟩ (.slice pu2 (us.length + 1) cu2) = wv at *
        have hPL : (pg ++ [(⟨pa, pb, pc, pd⟩ : Pg)]).length = pg.length + 1 := by simp
        have hUL : (us ++ [(0 : Int)]).length = us.length + 1 := by simp
        have hpset : (pg ++ [(⟨pa, pb, pc, pd⟩ : Pg)]).set pg.length ⟨pa, pb, pc, pd⟩ = pg ++ [(⟨pa, pb, pc, pd⟩ : Pg)] := by simp
        have hBx : Blk wv OB #[.slice pp2 (pg ++ [(⟨pa, pb, pc, pd⟩ : Pg)]).length cp2, .slice pu2 (us ++ [(0 : Int)]).length cu2, .slice R.p R.l.length R.cap] 26 := by rw [hPL, hUL]; exact hBx0
        have hown8 : ∀ k, (Value.slice pp2 (pg ++ [(⟨pa, pb, pc, pd⟩ : Pg)]).length cp2).ownBlock = some k → some k ∈ [some OB, (Value.slice pp pg.length cp).ownBlock, (Value.slice pu us.length cu).ownBlock] ∨ W.heap.size ≤ k := fun k e => by
          rw [ownBlock_len pp2 _ (pg.length + 1) _ cp2] at e
          rcases hwp k e with h | h
          · exact .inl (by rw [← h]; simp)
          · exact .inr (by rw [hbn]; exact h)
        have hsep2 : ∀ k, (Value.slice pu2 (us ++ [(0 : Int)]).length cu2).ownBlock = some k → (Value.slice pu us.length cu).ownBlock = some k ∨ W.heap.size ≤ k := fun k e => by rw [hbn]; exact hsep k e
        clear hBx0 hsep hwp
        have hsep := hsep2; clear hsep2
        have HPS := Lib.hid hpset; have HPL := Lib.hid hPL; have HUL2 := Lib.hid hUL; clear hpset hPL hUL
        generalize hPLe : pg ++ [(⟨pa, pb, pc, pd⟩ : Pg)] = PL at *
        generalize hULe : us ++ [(0 : Int)] = UL at *
        have HPLE := Lib.hid hPLe; have HULE := Lib.hid hULe; clear hPLe hULe
        have hnp : pg.length < PL.length := by have := HPL.out; omega
        have hPL4 : PL.length ≤ 401 := by have := HPL.out; omega
        have HO8 := Lib.hid hown8; clear hown8; have hown8 := HO8.out; clear HO8
        obtain ⟨gP, hgP⟩ := own_ptr (show World.ownsRow _ _ _ _ (.slice pp2 PL.length cp2) PL.length _ from hWx.pg) (by omega)
        subst hgP
        obtain ⟨b8, o8, hp8, hb8, hc8⟩ := hWx.ok.pages.at_ (fun _ => rfl) (by omega) hnp default
        dsimp only at hp8
        simp only [Option.some.injEq, Addr.mk.injEq, and_true] at hp8
        obtain ⟨rfl, rfl⟩ := hp8
        generalize (PL).getD pg.length default = pp8 at *
        have c0 := hc8 0 _ rfl; have c1 := hc8 1 _ rfl; have c2 := hc8 2 _ rfl; have c3 := hc8 3 _ rfl
        rw [Nat.zero_add] at c0 c1 c2 c3
        rw [Nat.add_zero] at c0
        clear hc8
        have g0 := hWx.pg.frozenAt (pg.length * 4); have g1 := hWx.pg.frozenAt (pg.length * 4 + 1); have g2 := hWx.pg.frozenAt (pg.length * 4 + 2); have g3 := hWx.pg.frozenAt (pg.length * 4 + 3)
        have hCw : (fun w' => w'.cell? ⟨OB, 0, none⟩ = some (.slice (some ⟨gP, 0, none⟩) PL.length cp2) ∧ w'.cell? ⟨S, 0, none⟩ = some (.int .i64 pa) ∧ w'.cell? ⟨S, 1, none⟩ = some (.int .i64 pb) ∧ w'.cell? ⟨S, 2, none⟩ = some (.int .i64 pc) ∧ w'.cell? ⟨S, 3, none⟩ = some (.int .i64 pd)) wv.drew := ⟨hBx.drew.cell 0, hXx.drew.cell 0, hXx.drew.cell 1, hXx.drew.cell 2, hXx.drew.cell 3⟩
        haveI := cls_ne (C := fun w' => w'.cell? ⟨OB, 0, none⟩ = some (.slice (some ⟨gP, 0, none⟩) PL.length cp2) ∧ w'.cell? ⟨S, 0, none⟩ = some (.int .i64 pa) ∧ w'.cell? ⟨S, 1, none⟩ = some (.int .i64 pb) ∧ w'.cell? ⟨S, 2, none⟩ = some (.int .i64 pc) ∧ w'.cell? ⟨S, 3, none⟩ = some (.int .i64 pd)) hCw
        have y0 := fun p : Cls (fun w' => w'.cell? ⟨OB, 0, none⟩ = some (.slice (some ⟨gP, 0, none⟩) PL.length cp2) ∧ w'.cell? ⟨S, 0, none⟩ = some (.int .i64 pa) ∧ w'.cell? ⟨S, 1, none⟩ = some (.int .i64 pb) ∧ w'.cell? ⟨S, 2, none⟩ = some (.int .i64 pc) ∧ w'.cell? ⟨S, 3, none⟩ = some (.int .i64 pd)) => p.h.1; have y1 := fun p : Cls (fun w' => w'.cell? ⟨OB, 0, none⟩ = some (.slice (some ⟨gP, 0, none⟩) PL.length cp2) ∧ w'.cell? ⟨S, 0, none⟩ = some (.int .i64 pa) ∧ w'.cell? ⟨S, 1, none⟩ = some (.int .i64 pb) ∧ w'.cell? ⟨S, 2, none⟩ = some (.int .i64 pc) ∧ w'.cell? ⟨S, 3, none⟩ = some (.int .i64 pd)) => p.h.2.1; have y2 := fun p : Cls (fun w' => w'.cell? ⟨OB, 0, none⟩ = some (.slice (some ⟨gP, 0, none⟩) PL.length cp2) ∧ w'.cell? ⟨S, 0, none⟩ = some (.int .i64 pa) ∧ w'.cell? ⟨S, 1, none⟩ = some (.int .i64 pb) ∧ w'.cell? ⟨S, 2, none⟩ = some (.int .i64 pc) ∧ w'.cell? ⟨S, 3, none⟩ = some (.int .i64 pd)) => p.h.2.2.1; have y3 := fun p : Cls (fun w' => w'.cell? ⟨OB, 0, none⟩ = some (.slice (some ⟨gP, 0, none⟩) PL.length cp2) ∧ w'.cell? ⟨S, 0, none⟩ = some (.int .i64 pa) ∧ w'.cell? ⟨S, 1, none⟩ = some (.int .i64 pb) ∧ w'.cell? ⟨S, 2, none⟩ = some (.int .i64 pc) ∧ w'.cell? ⟨S, 3, none⟩ = some (.int .i64 pd)) => p.h.2.2.2.1; have y4 := fun p : Cls (fun w' => w'.cell? ⟨OB, 0, none⟩ = some (.slice (some ⟨gP, 0, none⟩) PL.length cp2) ∧ w'.cell? ⟨S, 0, none⟩ = some (.int .i64 pa) ∧ w'.cell? ⟨S, 1, none⟩ = some (.int .i64 pb) ∧ w'.cell? ⟨S, 2, none⟩ = some (.int .i64 pc) ∧ w'.cell? ⟨S, 3, none⟩ = some (.int .i64 pd)) => p.h.2.2.2.2
        have HY0 := Lib.hid y0; have HY1 := Lib.hid y1; have HY2 := Lib.hid y2; have HY3 := Lib.hid y3; have HY4 := Lib.hid y4; clear y0 y1 y2 y3 y4
        go_wp2_with fail
        refine wp_region_late (fun w' => ∃ p : Cls (fun w' => w'.cell? ⟨OB, 0, none⟩ = some (.slice (some ⟨gP, 0, none⟩) PL.length cp2) ∧ w'.cell? ⟨S, 0, none⟩ = some (.int .i64 pa) ∧ w'.cell? ⟨S, 1, none⟩ = some (.int .i64 pb) ∧ w'.cell? ⟨S, 2, none⟩ = some (.int .i64 pc) ∧ w'.cell? ⟨S, 3, none⟩ = some (.int .i64 pd)), w' = p.w) 7 (.free [0, 1, 2, 4] (.late [3, 5, 6] (.last []))) rfl (by kernel_rfl) (by kernel_rfl) (by kernel_rfl) (cls_mk hCw) ?_
        change wpLate _ _ _ _ _ _ _ wv.drew
        refine wpLate_free fun K hK => ?_
        have HK := Lib.hid hK; clear hK
        simp only [pick, List.getD_cons_succ, List.getD_cons_zero]
        iterate 4 (go_big_quiet_step (fail))
        refine wpQuiet_nil ?_
        refine HK.out _ ?_
        clear HK K
        refine wpLate_late fun K hK => ?_
        have HK := Lib.hid hK; clear hK
        simp only [pick, List.getD_cons_succ, List.getD_cons_zero]
        have y0 := HY0.out; have y1 := HY1.out; have y2 := HY2.out; have y3 := HY3.out; have y4 := HY4.out
        iterate 3 (go_big_quiet_step (fail))
        refine wpQuiet_nil ?_
        clear y0 y1 y2 y3 y4 HY0 HY1 HY2 HY3 HY4 hCw this
        go_wp2_with fail
        refine HK.out _ _ ?_
        clear HK K
        refine wpPlan_last ?_
        simp only [pick]
        refine wpQuiet_nil ?_
        refine NoPanic.normal ?_
        clear c0 c1 c2 c3 g0 g1 g2 g3
        have hbdr := (Below.refl wv.heap.size wv).drew
        have hW9 := (hWx.below hbdr).setPage pg.length ⟨pa, pb, pc, pd⟩
        have hB9 := (hBx.next hbdr).kept (hWx.below hbdr).pg (by decide) (grown_setPg _ gP pg.length ⟨pa, pb, pc, pd⟩)
        have hK9 := (hKx.below hbdr).grown (grown_setPg _ gP pg.length ⟨pa, pb, pc, pd⟩) (fun k e => hown8 k e)
        have hln : (PL.set pg.length (⟨pa, pb, pc, pd⟩ : Pg)).length = PL.length := List.length_set
        have HLN := Lib.hid hln; have HW9 := Lib.hid hW9; have HB9 := Lib.hid hB9; have HK9 := Lib.hid hK9; clear hln hW9 hB9 hK9 hbdr hBx hWx hXx hKx
        go_wp2_with fail
        go_ret
        refine ⟨⟨some ⟨gP, 0, none⟩, cp2, PL.set pg.length ⟨pa, pb, pc, pd⟩⟩, ⟨pu2, cu2, UL⟩, (pg.length : Nat), rfl, ?_, ?_, HW9.out, HK9.out, hsep⟩
        · unfold freshC
          rw [if_neg HZ.out]
          dsimp only
          rw [HFI.out, HPS.out, if_neg (by have := HNN.out; omega), HULE.out, HPLE.out]
        · show Blk _ OB #[.slice (some ⟨gP, 0, none⟩) (PL.set pg.length (⟨pa, pb, pc, pd⟩ : Pg)).length cp2, .slice pu2 UL.length cu2, R.val] _
          rw [HLN.out]
          exact HB9.out
end Go.Proofs.Ytcnppcddpcpeoaa
