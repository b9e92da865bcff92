/-
  Set.
-/
import Derived.Test.YtcnppcddpcpeoaaRoot
import Derived.Test.YtcnppcddpcpeoaaDropP
import Derived.Deep.Cut
namespace Go.Proofs.Ytcnppcddpcpeoaa
open Go.RowKit

open Classical in
noncomputable def setR (s : DsC) (root at_ v : Int) : Int :=
  if askedC s root at_ ≠ 0 then askedC s root at_ else if 400 < (setC s root.toNat at_.toNat v).pages.length ∨ 40 < (setC s root.toNat at_.toNat v).roots.length then 2 else 0
def SetPost (S : Nat) (s : DsC) (root at_ v r : Int) (W : World) (e : Ending) (W' : World) : Prop :=
  ∃ (y : Ds) (n : Int), e = .returned (.tuple #[y.val, .int .i64 n, .int .i64 r]) ∧ y.ok W' ∧ Below S W W' ∧ (r = 0 → y.c = setC s root.toNat at_.toNat v ∧ n = (freeRoot s.roots : Nat)) ∧ (r ≠ 0 → y = Ds.none ∧ n = 0)
theorem KeepL.own {w w' : World} {L : List (Option Nat)} {B s n : Nat} {e : TypeId} {v : Value} {xs : List Value} (h : KeepL w w' L) (ho : w.ownsRow B e s v n xs) (hn : ∀ k, v.ownBlock = some k → some k ∉ L) : w'.ownsRow B e s v n xs := by
  refine ⟨ho.1, ?_⟩
  rcases ho.2 with hv | ⟨g, cap, cur, rfl, hb, hg, rest⟩
  · exact .inl hv
  · exact .inr ⟨g, cap, cur, rfl, hb, (h.block g (Array.getElem?_eq_some_iff.1 hg).1 (hn g rfl)).trans hg, rest⟩
/-- Rows apart do not lie in one block. -/
theorem notin3 {w : World} {B n1 n2 s1 s2 OB : Nat} {e1 e2 t : TypeId} {v v2 v3 : Value} {x1 x2 : List Value} {cs : Array Value} (h1 : w.ownsRow B e1 s1 v n1 x1) (hB : Blk w OB cs t) (ht : e1 ≠ t) (h2 : w.ownsRow B e2 s2 v2 n2 x2) (he : e1 ≠ e2) (h3 : v.ownBlock = none ∨ v.ownBlock ≠ v3.ownBlock) :
    ∀ k, v.ownBlock = some k → some k ∉ [some OB, v2.ownBlock, v3.ownBlock] := by
  intro k hk hm
  simp only [List.mem_cons, List.not_mem_nil, or_false] at hm
  rcases hm with e | e | e
  · rcases own_blk h1 hB ht with h | h
    · rw [h] at hk; cases hk
    · exact h (hk.trans e)
  · rcases own_apart h1 h2 he with h | h
    · rw [h] at hk; cases hk
    · exact h (hk.trans e)
  · rcases h3 with h | h
    · rw [h] at hk; cases hk
    · exact h (hk.trans e)
theorem pg_cell {w : World} {B : Nat} {p : Pg} (h : Blk w B #[.int .i64 p.a, .int .i64 p.b, .int .i64 p.c, .int .i64 p.d] 38) {j : Nat} (hj : j < 4) : w.cell? ⟨B, j, none⟩ = some (.int .i64 (p.get j)) := by
  rw [h.cell]
  match j, hj with
  | 0, _ | 1, _ | 2, _ | 3, _ => rfl
theorem pg_blk_set {w : World} {B : Nat} {p : Pg} (h : Blk w B #[.int .i64 p.a, .int .i64 p.b, .int .i64 p.c, .int .i64 p.d] 38) {j : Nat} (hj : j < 4) (v : Int) : Blk (w.setCell ⟨B, j, none⟩ (.int .i64 v)) B #[.int .i64 (p.set v j).a, .int .i64 (p.set v j).b, .int .i64 (p.set v j).c, .int .i64 (p.set v j).d] 38 := by
  have := h.set j (.int .i64 v)
  match j, hj with
  | 0, _ | 1, _ | 2, _ | 3, _ => exact this

theorem freshC_facts {pages : List Pg} {uses : List Int} {q : Pg} {P : List Pg} {U : List Int} {r : Int} (h : freshC pages uses q = (P, U, r)) (hl : uses.length = pages.length) :
    U.length = P.length ∧ P.length ≤ pages.length + 1 ∧ pages.length ≤ P.length ∧ (LoB uses 0 → LoB U 0) ∧ (r = -1 ∨ (0 ≤ r ∧ r < P.length)) := by
  unfold freshC at h
  split at h
  · cases h; exact ⟨hl, by omega, Nat.le_refl _, id, .inl rfl⟩
  · dsimp only at h
    split at h
    · next h1 => cases h; exact ⟨by simp [hl], by simp, by simp, id, .inr ⟨by omega, by simp; omega⟩⟩
    · cases h
      refine ⟨by simp [hl], by simp, by simp, fun hlo i => ?_, .inr ⟨by omega, by simp; omega⟩⟩
      have h2 := hlo i
      by_cases hi : i < uses.length
      · simp only [List.getD_eq_getElem?_getD, List.getElem?_append_left hi] at h2 ⊢; exact h2
      · rw [List.getD_eq_getElem?_getD, List.getElem?_append_right (by omega)]
        cases i - uses.length with
        | zero => simp
        | succ m => simp
theorem apart_old {w w' : World} {B1 B2 n m : Nat} {s : Sv Int} {v : Value} {xs ys : List Value} (hs : w.ownsRow B1 3 1 s.val n xs) (ht : w'.ownsRow B2 3 1 v m ys) (h : w.heap.size ≤ B2) : s.val.ownBlock = none ∨ s.val.ownBlock ≠ v.ownBlock := by
  cases hb : s.val.ownBlock with
  | none => exact .inl rfl
  | some a =>
    refine .inr fun e => ?_
    have h1 := (hs.lt a hb).2
    have h2 := (ht.lt a e.symm).1
    omega
theorem Ow.otherI {w w' : World} {B : Nat} {x : Ds} {n : Nat} {v : Value} {xs : List Value} (h : Ow w B x) (hr : w.ownsRow B 3 1 v n xs) (h1 : x.uses.val.ownBlock = none ∨ x.uses.val.ownBlock ≠ v.ownBlock) (h2 : ∀ s ∈ x.roots.l, s.val.ownBlock = none ∨ s.val.ownBlock ≠ v.ownBlock) (hg : w.grownBy w' v.ownBlock) : Ow w' B x :=
  ⟨h.pg.kept hg (own_apart h.pg hr (by decide)), h.us.kept hg h1, h.rt.kept hg (own_apart h.rt hr (by decide)), fun s hs => ⟨(h.each s hs).1.kept hg (h2 s hs), (h.each s hs).2⟩⟩
def UpB (u : List Int) (m : Nat) : Prop := ∀ i, -1 ≤ u.getD i 0 ∧ u.getD i 0 ≤ 1000 + m
theorem UpB.of {u : List Int} (h : LoB u 0) : UpB u 0 := fun i => by have := h i; omega
theorem UpB.step {u : List Int} {m : Nat} (h : UpB u m) (i : Nat) : UpB (u.set i (u.getD i 0 + 1)) (m + 1) := fun j => by
  have h1 := h i
  have h2 := h j
  by_cases hi : i < u.length
  · by_cases e : i = j
    · subst e; simp [hi] at h1 ⊢; omega
    · simp only [List.getD_eq_getElem?_getD, List.getElem?_set, if_neg e] at h1 h2 ⊢; omega
  · rw [List.set_eq_of_length_le (by omega)]; omega
theorem UpB.mono {u : List Int} {m n : Nat} (h : UpB u m) (hm : m ≤ n) : UpB u n := fun j => by have := h j; omega
theorem freeRoot_map (l : List (Sv Int)) : freeRoot (l.map (·.l)) = l.findIdx (fun r => decide (r.l.length = 0)) := by
  unfold freeRoot
  rw [List.findIdx_map]
  congr 1
  funext r
  show r.l.isEmpty = _
  cases r.l <;> rfl
theorem Ow.otherP {w w' : World} {B A : Nat} {x : Ds} {cs : Array Value} (h : Ow w B x) (hA : Blk w A cs 38) (hne : x.pages.val.ownBlock ≠ some A) (hg : w.grownBy w' (some A)) : Ow w' B x :=
  ⟨h.pg.kept hg (.inr hne), h.us.kept hg (own_blk h.us hA (by decide)), h.rt.kept hg (own_blk h.rt hA (by decide)), fun s hs => ⟨(h.each s hs).1.kept hg (own_blk (h.each s hs).1 hA (by decide)), (h.each s hs).2⟩⟩
set_option maxHeartbeats 4000000 in
theorem set_any {W : World} {x : Ds} (hx : x.ok W) (root at_ v : Int) {r : Int} (hr : setR x.c root at_ v = r) :
    Calls Try.prog 7 #[x.val, .int .i64 root, .int .i64 at_, .int .i64 v] W fun e W' => SetPost W.heap.size x.c root at_ v r W e W' := by
  obtain ⟨⟨pp, cp, pg⟩, ⟨pu, cu, us⟩, ⟨pr, cr, rs⟩⟩ := x
  have hb0 := ((Below.refl W.heap.size W).alloc (Nat.le_refl _) (.cells #[.slice pp pg.length cp, .slice pu us.length cu, .slice pr rs.length cr] 26)).alloc (by simp) (.cells #[.slice none 0 0, .slice none 0 0, .slice none 0 0] 26)
  have hA0 := (Blk.mk2 W #[.slice pp pg.length cp, .slice pu us.length cu, .slice pr rs.length cr] 26).alloc (.cells #[.slice none 0 0, .slice none 0 0, .slice none 0 0] 26)
  have hR0 : Blk ((W.alloc (.cells #[.slice pp pg.length cp, .slice pu us.length cu, .slice pr rs.length cr] 26)).alloc (.cells #[.slice none 0 0, .slice none 0 0, .slice none 0 0] 26)) (W.heap.size + 1) #[.slice none 0 0, .slice none 0 0, .slice none 0 0] 26 := Blk.mk_ _ _ _ (by simp)
  generalize hbn : W.heap.size = S at *
  have hxx := hx
  generalize hs : Ds.c ⟨⟨pp, cp, pg⟩, ⟨pu, cu, us⟩, ⟨pr, cr, rs⟩⟩ = s at *
  have HS := Lib.hid hs; have HR := Lib.hid hr; clear hr
  have hcall := asked_any (Ds.ok.st _ _ _ hx (hbn ▸ hb0)) root at_ (r := askedC s root at_) (by rw [hs])
  have HC := Lib.hid hcall; clear hcall hs
  go_enter Try.func7, Try.ntmps7
  refine wp_seq_k fun K hK => ?_
  have HK := Lib.hid hK; clear hK
  go_wp2_with fail
  refine HK.out _ _ ?_
  clear HK K
  generalize (W.alloc (.cells #[.slice pp pg.length cp, .slice pu us.length cu, .slice pr rs.length cr] 26)).alloc (.cells #[.slice none 0 0, .slice none 0 0, .slice none 0 0] 26) = w1 at *
  have A0 : w1.cell? ⟨S, 0, none⟩ = some (.slice pp pg.length cp) := hA0.cell 0
  have A1 : w1.cell? ⟨S, 1, none⟩ = some (.slice pu us.length cu) := hA0.cell 1
  have A2 : w1.cell? ⟨S, 2, none⟩ = some (.slice pr rs.length cr) := hA0.cell 2
  go_wp2_with fail
  refine HC.out.mono ?_
  rintro _ w2 ⟨rfl, hb⟩
  have hb2 := hb0.trans (hb.mono (hbn ▸ hb0.size))
  have hA2 := hA0.next hb; have hR2 := hR0.next hb
  clear A0 A1 A2 HC hb hb0 hA0 hR0
  have hr := HR.out
  unfold setR at hr
  rcases (Classical.em (askedC s root at_ = 0)).symm with h0 | h0
  · rw [if_pos h0] at hr
    rw [hr] at h0 ⊢
    have k1 : (r != 0) = true := by simpa using h0
    have H0 := Lib.hid h0; clear h0 hr
    have f0 := hR2.frozen 0; have f1 := hR2.frozen 1; have f2 := hR2.frozen 2
    have z0 : w2.cell? ⟨S + 1, 0, none⟩ = some (.slice none 0 0) := hR2.cell 0
    have z1 : w2.cell? ⟨S + 1, 1, none⟩ = some (.slice none 0 0) := hR2.cell 1
    have z2 : w2.cell? ⟨S + 1, 2, none⟩ = some (.slice none 0 0) := hR2.cell 2
    go_wp2_with fail
    clear z0 z1 z2 f0 f1 f2
    have hZ3 := ((hR2.set 0 (.slice none 0 0)).set 1 (.slice none 0 0)).set 2 (.slice none 0 0)
    have hb3 := ((hb2.setCell (p := ⟨S + 1, 0, none⟩) (by show S ≤ S + 1; omega) (.slice none 0 0)).setCell (p := ⟨S + 1, 1, none⟩) (by show S ≤ S + 1; omega) (.slice none 0 0)).setCell (p := ⟨S + 1, 2, none⟩) (by show S ≤ S + 1; omega) (.slice none 0 0)
    generalize ((w2.setCell ⟨S + 1, 0, none⟩ (.slice none 0 0)).setCell ⟨S + 1, 1, none⟩ (.slice none 0 0)).setCell ⟨S + 1, 2, none⟩ (.slice none 0 0) = wq at *
    have D0 : wq.cell? ⟨S + 1, 0, none⟩ = some (.slice none 0 0) := hZ3.cell 0
    have D1 : wq.cell? ⟨S + 1, 1, none⟩ = some (.slice none 0 0) := hZ3.cell 1
    have D2 : wq.cell? ⟨S + 1, 2, none⟩ = some (.slice none 0 0) := hZ3.cell 2
    exact bodyPost_ret (v := .tuple #[Ds.none.val, .int .i64 0, .int .i64 r]) (by simp [results, Try.results7, go_sem, D0, D1, D2, Ds.val, Sv.val]) rfl ⟨Ds.none, 0, rfl, Ds.none_ok _, hb3, fun h => absurd h H0.out, fun _ => ⟨rfl, rfl⟩⟩
  · rw [if_neg (by simpa using h0)] at hr
    have HA0 := Lib.hid h0
    obtain ⟨hok, hth, ha1, ha2⟩ := askedC_zero.1 h0
    rw [h0]
    clear h0
    obtain ⟨q, rfl, hq, h16, hro⟩ := there_row hok hth
    obtain ⟨a, rfl⟩ : ∃ a : Nat, at_ = a := ⟨at_.toNat, by omega⟩
    rw [Int.toNat_natCast, Int.toNat_natCast] at hr
    have ha64 : a < 64 := by omega
    have A0 : w2.cell? ⟨S, 0, none⟩ = some (.slice pp pg.length cp) := hA2.cell 0
    have A1 : w2.cell? ⟨S, 1, none⟩ = some (.slice pu us.length cu) := hA2.cell 1
    have A2 : w2.cell? ⟨S, 2, none⟩ = some (.slice pr rs.length cr) := hA2.cell 2
    have hs := HS.out
    have hok2 := hok; rw [← hs] at hok2
    have hpl : pg.length ≤ 400 := hok2.np
    have hul : us.length = pg.length := by have := hok2.uses; have h3 : us = _ := this; rw [h3]; simp [Ds.c]
    have hrl : rs.length ≤ 40 := by have := hok2.nr; simpa [Ds.c] using this
    have hr16 : ∀ t ∈ rs, t.l.length ≤ 16 := fun t ht => by
      rcases (hok2.form t.l (List.mem_map.2 ⟨t, ht, rfl⟩)).1 with h | h
      · rw [h]; simp
      · omega
    have hcall := own_any (Ds.ok.st _ _ _ hx (hbn ▸ hb2)) (x := ⟨⟨pp, cp, pg⟩, ⟨pu, cu, us⟩, ⟨pr, cr, rs⟩⟩) hpl (by show us.length ≤ 400; omega) hrl hr16
    have hlo : LoB us 0 := hok2.lo
    have hqr : q < rs.length := by have : s.roots.length = rs.length := by rw [← HS.out]; simp [Ds.c]
                                   omega
    have hrow : s.roots.getD q [] = (rs.getD q default).l := by rw [← HS.out]; simp [Ds.c, hqr]
    have hsp : s.pages.length = pg.length := by rw [← HS.out]; rfl
    have hpl4 := Lib.hid hpl; have HC := Lib.hid hcall; have HLO := Lib.hid hlo; have HUL := Lib.hid hul; have H16 := Lib.hid h16; have HRO := Lib.hid hro; have HROW := Lib.hid hrow; have HSP := Lib.hid hsp
    rw [hs] at HC
    have HRR := Lib.hid hr
    clear hcall hs hlo hok2 hr16 hul h16 hro hrow hsp hr hq hth ha1 ha2
    go_wp2_with fail
    refine HC.out.mono ?_
    rintro _ w3 ⟨y, rfl, hyc, hW, hb⟩
    clear HC
    obtain ⟨⟨yp, yc, yl⟩, ⟨yq, yd, ym⟩, ⟨yr, ye, yn⟩⟩ := y
    have hyc' : yl = pg ∧ ym = us ∧ yn.map (·.l) = rs.map (·.l) := by
      rw [← HS.out] at hyc
      simpa [Ds.c] using hyc
    obtain ⟨rfl, rfl, hmap⟩ := hyc'
    have hbW := hb2.trans (hb.mono (hbn ▸ hb2.size))
    have hR3 := hR2.next hb; have hA3 := hA2.next hb
    have hal := (Below.refl w3.heap.size w3).alloc (Nat.le_refl _) (.cells #[.slice yp yl.length yc, .slice yq ym.length yd, .slice yr yn.length ye] 26)
    have hB := Blk.mk2 w3 #[.slice yp yl.length yc, .slice yq ym.length yd, .slice yr yn.length ye] 26
    have hW4 := (hW.mono (by rw [← hbn]; exact hb2.size : S ≤ w2.heap.size)).below hal
    have hR4 := hR3.next hal; have hA4 := hA3.next hal
    have hb4 := hbW.trans (hal.mono (hbn ▸ hbW.size))
    have hSO : S + 1 < w3.heap.size := hR3.lt
    have HM := Lib.hid hmap
    have hyn : Hid (yn.length ≤ 40) := Lib.hid (by have := congrArg List.length hmap; simp at this; omega)
    clear A0 A1 A2 hb hbW hR3 hal hW hR2 hb2 hyc hA2 hA3 hmap
    -- the row, cloned
    have A2 : (w3.alloc (.cells #[.slice yp yl.length yc, .slice yq ym.length yd, .slice yr yn.length ye] 26)).cell? ⟨S, 2, none⟩ = some (.slice pr rs.length cr) := hA4.cell 2
    have hx4 := Ds.ok.st _ _ _ hx (hbn ▸ hb4)
    obtain ⟨b5, o5, hp5, hb5, hc5, hrd5⟩ := hx4.roots.at_ hqr
    dsimp only at hp5 hc5 hrd5
    generalize hrw : rs.getD q default = row at *
    obtain ⟨rp, rc, rl⟩ := row
    dsimp only [Sv.val] at hc5 hrd5
    have hl16 : rl.length = 16 := by have h1 := HROW.out; have h2 := H16.out; rw [h1] at h2; exact h2
    subst hp5
    have hcl := clone_any hrd5 (by show rl.length * 8 ≤ _; omega)
    dsimp only at hcl
    have HCL := Lib.hid hcl; have HL16 := Lib.hid hl16; have HRW := Lib.hid hrw; clear hcl hl16 hrw
    go_wp2_with fail
    refine HCL.out.mono ?_
    rintro _ w5 ⟨cp2, cc2, rfl, hcr, hb⟩
    clear HCL hc5
    have hB5 := hB.next hb; have hR5 := hR4.next hb; have hA5 := hA4.next hb; have hW5 := hW4.below hb
    have hb5' := hb4.trans (hb.mono (hbn ▸ hb4.size))
    have hap : Apart ⟨cp2, cc2, rl⟩ ⟨yq, yd, ym⟩ := apart_new hcr hW4.us (Nat.le_refl _)
    have hapR : ∀ s ∈ yn, s.val.ownBlock = none ∨ s.val.ownBlock ≠ (Value.slice cp2 rl.length cc2).ownBlock := fun s hs => apart_old (hW4.each s hs).1 hcr (Nat.le_refl _)
    have HAPR := Lib.hid hapR; clear hapR
    have hcr2 := own_mono hcr (by have := hb4.size; omega : S ≤ (w3.alloc (.cells #[.slice yp yl.length yc, .slice yq ym.length yd, .slice yr yn.length ye] 26)).heap.size)
    clear hB hR4 hA4 hW4 hb hb4 A2 hcr hb5 hrd5 hx4
    generalize w3.heap.size = OB at *
    have B0 : w5.cell? ⟨S, 0, none⟩ = some (.slice pp yl.length cp) := hA5.cell 0
    have B1 : w5.cell? ⟨S, 1, none⟩ = some (.slice pu ym.length cu) := hA5.cell 1
    have B2 : w5.cell? ⟨S, 2, none⟩ = some (.slice (some ⟨b5, o5, none⟩) rs.length cr) := hA5.cell 2
    have hpc := page_any (Ds.ok.st _ _ _ hx (hbn ▸ hb5')) (q := q) (a := a) hqr ha64 (by show (rs.getD q default).l.length = 16; rw [HRW.out]; exact HL16.out) (by show rootOk yl.length (rs.getD q default).l; rw [HRW.out]; have h := HRO.out; rw [HSP.out, HROW.out] at h; exact h) rfl
    rw [HS.out] at hpc
    generalize hg : pageOf s ((s.roots.getD q []).getD (a / 4) (-1)) = g at *
    have HPC := Lib.hid hpc; have HG := Lib.hid hg; clear hpc hg
    go_wp2_with fail
    refine HPC.out.mono ?_
    rintro _ w6 ⟨rfl, hb⟩
    clear HPC B0 B1 B2
    have hal := (Below.refl w6.heap.size w6).alloc (Nat.le_refl _) (.cells #[.int .i64 g.a, .int .i64 g.b, .int .i64 g.c, .int .i64 g.d] 38)
    have hpAB : (Value.slice yp yl.length yc).ownBlock ≠ some w6.heap.size := fun e => by have := ((hW5.below hb).pg.lt _ e).2; omega
    have hX7 := Blk.mk2 w6 #[.int .i64 g.a, .int .i64 g.b, .int .i64 g.c, .int .i64 g.d] 38
    have hB7 := (hB5.next hb).next hal; have hR7 := (hR5.next hb).next hal; have hW7 := (hW5.below hb).below hal
    have hcr7 := own_below (own_below hcr2 hb) hal
    have hb6 := hb5'.trans (hb.mono (hbn ▸ hb5'.size))
    have hb7 := hb6.trans (hal.mono (hbn ▸ hb6.size))
    clear hB5 hR5 hA5 hW5 hcr2 hb hal hb5'
    go_upto_region 7 with (fail)
    generalize w6.alloc (.cells #[.int .i64 g.a, .int .i64 g.b, .int .i64 g.c, .int .i64 g.d] 38) = w7 at *
    have hSAB : S ≤ w6.heap.size := by have := hb6.size; omega
    generalize w6.heap.size = AB at *
    have hm4 : a % 4 < 4 := Nat.mod_lt _ (by decide)
    have c7 := pg_cell hX7 hm4
    have f7 := hX7.frozen (a % 4)
    obtain ⟨GR, hGR⟩ := own_ptr hcr7 (by have := HL16.out; omega)
    subst hGR
    have hmid : (midC s q a v) = if g.get (a % 4) = v then ⟨yl, ym, rl⟩ else ⟨(freshC yl ym (g.set v (a % 4))).1, (freshC yl ym (g.set v (a % 4))).2.1, rl.set (a / 4) (freshC yl ym (g.set v (a % 4))).2.2⟩ := by
      unfold midC
      have h1 : s.pages = yl := by rw [← HS.out]; rfl
      have h2 : s.uses = ym := by rw [← HS.out]; rfl
      have h3 := HG.out
      rw [HROW.out] at h3 ⊢
      dsimp only
      rw [h3, h1, h2]
    have HMID := Lib.hid hmid; clear hmid
    by_cases hgv : g.get (a % 4) = v
    · have k1 : (g.get (a % 4) != v) = false := by simp [hgv]
      have hm2 := HMID.out
      rw [if_pos hgv] at hm2
      have HM2 := Lib.hid hm2; clear hm2 HMID hgv
      go_wp2_with fail
      have hrl16 : rl.length ≤ 16 ∧ 16 ≤ rl.length := by have := HL16.out; omega
      have hUL0 := HUL.out
      have hulx : ym.length ≤ 401 := by have h1 := hpl4.out; omega
      have hULj : Hid (ym.length = yl.length) := HUL
      have hPLj : Hid (yl.length ≤ 401) := Lib.hid (by have h1 := hpl4.out; omega)
      have hentj : Hid (∀ p ∈ rl, p = -1 ∨ (0 ≤ p ∧ p < yl.length)) := Lib.hid (by have h := HRO.out.2; rw [HSP.out, HROW.out] at h; exact h)
      have hloj := HLO
      have HAJ : Hid (Apart ⟨some ⟨GR, 0, none⟩, cc2, rl⟩ ⟨yq, yd, ym⟩) := Lib.hid hap
      clear hUL0 hulx hap
      have hbj := hb7; have hRj := hR7; have hBj := hB7; have hWj := hW7; have hcrj := hcr7
      clear hb7 hR7 hB7 hW7 hcr7
      go_loopw [56] (fun t wr => ∃ (k : Nat) (U : List Int), k ≤ rl.length ∧ t = .int .i64 k ∧ Below S W wr ∧ Blk wr (S + 1) #[.slice none 0 0, .slice none 0 0, .slice none 0 0] 26 ∧ Blk wr OB #[.slice yp yl.length yc, .slice yq U.length yd, .slice yr yn.length ye] 26 ∧ Ow wr S ⟨⟨yp, yc, yl⟩, ⟨yq, yd, U⟩, ⟨yr, ye, yn⟩⟩ ∧ wr.ownsRow S 3 1 (.slice (some ⟨GR, 0, none⟩) rl.length cc2) rl.length (ints .i64 rl) ∧ UpB U k ∧ Hid (U = countUp ym (rl.take k))) (fun t _ => rl.length - (intOf t).toNat)
      case atStart => exact ⟨0, ym, Nat.zero_le _, rfl, hbj, hRj, hBj, hWj, hcrj, UpB.of hloj.out, Lib.hid rfl⟩
      clear hbj hRj hBj hWj hcrj hloj
      case round =>
        obtain ⟨k, U, hk, rfl, hbS, hR, hB, hW, hcr, hup, hcu⟩ := hrel
        have hUl : U.length = ym.length := by rw [hcu.out, countUp_length]
        have HULN := Lib.hid hUl; clear hUl
        have hrjl : rl.length = rl.length := by first | rfl | (have h9 := hcr.1; rw [ints_length] at h9; omega)
        have HRJL := Lib.hid hrjl; clear hrjl
        by_cases hlt : k < rl.length
        · have hkj : k < rl.length := by have := HRJL.out; omega
          have c1 := own_cell hcr hlt
          have hx : rl[k]? = some (rl.getD k 0) := by simp [hkj]
          have hent := hentj.out (rl.getD k 0) (List.mem_of_getElem? hx)
          have hsn := countUp_snoc ym (rl.take k) (rl.getD k 0)
          rw [← take_snoc_ hx, ← hcu.out] at hsn
          have HSN := Lib.hid hsn; clear hsn hx
          generalize rl.getD k 0 = p at *
          by_cases h0 : 0 ≤ p
          · obtain ⟨n, rfl⟩ : ∃ n : Nat, p = n := ⟨p.toNat, by omega⟩
            have hnU : n < U.length := by have h1 := HULN.out; have h2 := hULj.out; omega
            have hU4 : U.length ≤ 401 := by have h1 := HULN.out; have h2 := hULj.out; have h3 := hPLj.out; omega
            have hs2 := HSN.out
            rw [if_pos h0, Int.toNat_natCast] at hs2
            have hWk := hW
            obtain ⟨gU, hgU⟩ := own_ptr (show World.ownsRow _ _ _ _ (.slice yq U.length yd) U.length _ from hW.us) (by omega)
            have B1 : wr.cell? ⟨OB, 1, none⟩ = some (.slice (some ⟨gU, 0, none⟩) U.length yd) := by rw [← hgU]; exact hB.cell 1
            have hus : wr.ownsRow S 3 1 (.slice (some ⟨gU, 0, none⟩) U.length yd) U.length (ints .i64 U) := by rw [← hgU]; exact hW.us
            have cU : wr.cell? ⟨gU, n, none⟩ = some (.int .i64 (U.getD n 0)) := own_cell hus hnU
            have fU : wr.frozen? ⟨gU, n, none⟩ = false := hus.frozenAt n
            have hbd := hup n
            have hg9 := grown_set wr gU n (.int .i64 (U.getD n 0 + 1))
            have hW2 : Ow (wr.setCell ⟨gU, n, none⟩ (.int .i64 (U.getD n 0 + 1))) S ⟨⟨yp, yc, yl⟩, ⟨yq, yd, U.set n (U.getD n 0 + 1)⟩, ⟨yr, ye, yn⟩⟩ := by
              rw [hgU] at hWk ⊢
              exact hWk.setUse n _
            have hB2 := hB.kept hus (by decide) hg9
            have hR2 := hR.kept hus (by decide) hg9
            have hcr3 := hcr.kept hg9 (by
              rcases HAJ.out with h | h
              · cases h
              · refine .inr fun e => h ?_
                rw [show (Sv.val ⟨yq, yd, ym⟩).ownBlock = _ from ownBlock_len yq ym.length U.length yd yd, hgU]
                exact e)
            have hb2 := hbS.setCell (p := ⟨gU, n, none⟩) (hus.lt gU rfl).1 (.int .i64 (U.getD n 0 + 1))
            have hup2 := hup.step n
            generalize U.getD n 0 = u at *
            have hlen2 : (U.set n (u + 1)).length = U.length := List.length_set
            have HL2 := Lib.hid hlen2; have HS2 := Lib.hid hs2; have HW2 := Lib.hid hW2; have HGU := Lib.hid hgU
            clear hlen2 hs2 HSN hW hB hR hcr hWk hW2 hgU hup hcu
            go_wp2_with fail
            go_roundw
            case rel =>
              refine ⟨k + 1, U.set n (u + 1), by omega, by go_num, hb2, hR2, ?_, HW2.out, hcr3, hup2, HS2.out.symm⟩
              show Blk _ OB #[.slice yp yl.length yc, .slice yq (U.set n (u + 1)).length yd, .slice yr yn.length ye] _
              rw [HL2.out]
              exact hB2
            case measure => simp [intOf]; omega
          · have hz : p < 0 := by omega
            have hs2 := HSN.out
            rw [if_neg h0] at hs2
            have HS2 := Lib.hid hs2; clear hs2 HSN h0 hcu
            go_wp2_with fail
            go_roundw
            case rel => exact ⟨k + 1, U, by omega, by go_num, hbS, hR, hB, hW, hcr, hup.mono (by omega), HS2.out.symm⟩
            case measure => simp [intOf]; omega
        · obtain rfl : k = rl.length := by omega
          have hc2 := hcu.out
          rw [List.take_of_length_le (by have := HRJL.out; omega)] at hc2
          have HCU := Lib.hid hc2; clear hc2 hcu
          have hap2 : Apart ⟨some ⟨GR, 0, none⟩, cc2, rl⟩ ⟨yq, yd, U⟩ := by
            unfold Apart
            rcases HAJ.out with h | h
            · cases h
            · refine .inr fun e => h ?_
              rw [show (Sv.val ⟨yq, yd, ym⟩).ownBlock = _ from ownBlock_len yq ym.length U.length yd yd]
              exact e
          have hrt := root_any (x := ⟨⟨yp, yc, yl⟩, ⟨yq, yd, U⟩, ⟨yr, ye, yn⟩⟩) (s := ⟨some ⟨GR, 0, none⟩, cc2, rl⟩) hB hW (by show wr.ownsRow _ _ _ (.slice _ rl.length _) rl.length _; rw [HRJL.out]; exact hcr) hap2 (by show yn.length ≤ 400; have := hyn.out; omega) (by have := hbS.size; omega)
          dsimp only [Sv.val] at hrt
          rw [HRJL.out] at hrt
          have hyn4 := hyn.out
          have HRT := Lib.hid hrt; clear hrt hcr hap2
          go_wp2_with fail
          refine HRT.out.mono ?_
          rintro _ w11 ⟨⟨zr, ze, zn⟩, rfl, hRl, hB11, hW11, hK11⟩
          clear HRT
          dsimp only at hRl hB11 hW11 hK11
          have hR11 := hK11.blk hR (by
            simp only [List.mem_cons, List.not_mem_nil, or_false, not_or]
            refine ⟨fun e => by cases e; omega, fun e => ?_⟩
            rcases own_blk hW.rt hR (by decide) with h | h
            · have h' : (Value.slice yr yn.length ye).ownBlock = none := h
              rw [h'] at e; cases e
            · exact h e.symm)
          have hb11 := hK11.toBelow hbS (by have := hbS.size; omega) (fun k hk => by
            simp only [List.mem_cons, List.not_mem_nil, or_false] at hk
            rcases hk with e | e
            · cases e; omega
            · exact (hW.rt.lt k e.symm).1)
          have hzn : zn.length ≤ 41 := by
            rw [hRl]; split <;> simp <;> omega
          clear hB hW hR hbS hK11
          have HRL := Lib.hid hRl; clear hRl
          have hPL4 := hPLj.out
          have q0 : w11.cell? ⟨OB, 0, none⟩ = some (.slice yp yl.length yc) := hB11.cell 0
          have q1 : w11.cell? ⟨OB, 1, none⟩ = some (.slice yq U.length yd) := hB11.cell 1
          have q2 : w11.cell? ⟨OB, 2, none⟩ = some (.slice zr zn.length ze) := hB11.cell 2
          have z0 : w11.cell? ⟨S + 1, 0, none⟩ = some (.slice none 0 0) := hR11.cell 0
          have z1 : w11.cell? ⟨S + 1, 1, none⟩ = some (.slice none 0 0) := hR11.cell 1
          have z2 : w11.cell? ⟨S + 1, 2, none⟩ = some (.slice none 0 0) := hR11.cell 2
          have f0 := hR11.frozen 0; have f1 := hR11.frozen 1; have f2 := hR11.frozen 2
          have hfin : setC s q a v = ⟨yl, U, zn.map (·.l)⟩ := by
            unfold setC
            rw [HM2.out]
            dsimp only
            have h1 : s.roots = yn.map (·.l) := by rw [← HS.out, HM.out]; rfl
            rw [← HCU.out]
            congr 1
            rw [HRL.out, h1]
            unfold putRoot
            rw [freeRoot_map, List.length_map]
            split
            · rw [List.map_set]
            · rw [List.map_append]; rfl
          have hfr : freeRoot s.roots = yn.findIdx (fun r => decide (r.l.length = 0)) := by
            have h1 : s.roots = yn.map (·.l) := by rw [← HS.out, HM.out]; rfl
            rw [h1, freeRoot_map]
          have hrr := HRR.out
          rw [hfin, List.length_map] at hrr
          dsimp only at hrr
          have HFIN := Lib.hid hfin; have HFR := Lib.hid hfr; clear hfin hfr
          generalize yn.findIdx (fun r => decide (r.l.length = 0)) = fi at *
          by_cases hlarge : 400 < yl.length ∨ 40 < zn.length
          · rw [if_pos hlarge] at hrr
            subst hrr
            have hk : (decide ((400 : Int) < yl.length) = true) ∨ (decide ((400 : Int) < yl.length) = false ∧ decide ((40 : Int) < zn.length) = true) := by
              by_cases h : 400 < yl.length
              · exact .inl (by simp; omega)
              · exact .inr ⟨by simp; omega, by simp; omega⟩
            have HLG := Lib.hid hlarge; clear hlarge
            rcases hk with k5 | ⟨k5, k6⟩
            all_goals
              go_wp2_with fail
              clear z0 z1 z2 f0 f1 f2 q0 q1 q2
              have hZ3 := ((hR11.set 0 (.slice none 0 0)).set 1 (.slice none 0 0)).set 2 (.slice none 0 0)
              have hb3 := ((hb11.setCell (p := ⟨S + 1, 0, none⟩) (by show S ≤ S + 1; omega) (.slice none 0 0)).setCell (p := ⟨S + 1, 1, none⟩) (by show S ≤ S + 1; omega) (.slice none 0 0)).setCell (p := ⟨S + 1, 2, none⟩) (by show S ≤ S + 1; omega) (.slice none 0 0)
              generalize ((w11.setCell ⟨S + 1, 0, none⟩ (.slice none 0 0)).setCell ⟨S + 1, 1, none⟩ (.slice none 0 0)).setCell ⟨S + 1, 2, none⟩ (.slice none 0 0) = wq at *
              have D0 : wq.cell? ⟨S + 1, 0, none⟩ = some (.slice none 0 0) := hZ3.cell 0
              have D1 : wq.cell? ⟨S + 1, 1, none⟩ = some (.slice none 0 0) := hZ3.cell 1
              have D2 : wq.cell? ⟨S + 1, 2, none⟩ = some (.slice none 0 0) := hZ3.cell 2
              exact bodyPost_ret (v := .tuple #[Ds.none.val, .int .i64 0, .int .i64 2]) (by simp [results, Try.results7, go_sem, D0, D1, D2, Ds.val, Sv.val]) rfl ⟨Ds.none, 0, rfl, Ds.none_ok _, hb3, (fun h => absurd h (by decide)), fun _ => ⟨rfl, rfl⟩⟩
          · rw [if_neg hlarge] at hrr
            subst hrr
            have k5 : decide ((400 : Int) < yl.length) = false := by simp; omega
            have k6 : decide ((40 : Int) < zn.length) = false := by simp; omega
            clear hlarge
            go_wp2_with fail
            clear z0 z1 z2 f0 f1 f2 q0 q1 q2
            have hZ1 := hR11.set 0 (.slice yp yl.length yc)
            have hZ2 := hZ1.set 1 (.slice yq U.length yd)
            have hZ3 := hZ2.set 2 (.slice zr zn.length ze)
            have hW12 := hW11.other hR11 (by decide) (by decide) (by decide) (grown_set w11 (S + 1) 0 (.slice yp yl.length yc))
            have hW13 := hW12.other hZ1 (by decide) (by decide) (by decide) (grown_set _ (S + 1) 1 (.slice yq U.length yd))
            have hW14 := hW13.other hZ2 (by decide) (by decide) (by decide) (grown_set _ (S + 1) 2 (.slice zr zn.length ze))
            have hb3 := ((hb11.setCell (p := ⟨S + 1, 0, none⟩) (by show S ≤ S + 1; omega) (.slice yp yl.length yc)).setCell (p := ⟨S + 1, 1, none⟩) (by show S ≤ S + 1; omega) (.slice yq U.length yd)).setCell (p := ⟨S + 1, 2, none⟩) (by show S ≤ S + 1; omega) (.slice zr zn.length ze)
            generalize ((w11.setCell ⟨S + 1, 0, none⟩ (.slice yp yl.length yc)).setCell ⟨S + 1, 1, none⟩ (.slice yq U.length yd)).setCell ⟨S + 1, 2, none⟩ (.slice zr zn.length ze) = wq at *
            have D0 : wq.cell? ⟨S + 1, 0, none⟩ = some (.slice yp yl.length yc) := hZ3.cell 0
            have D1 : wq.cell? ⟨S + 1, 1, none⟩ = some (.slice yq U.length yd) := hZ3.cell 1
            have D2 : wq.cell? ⟨S + 1, 2, none⟩ = some (.slice zr zn.length ze) := hZ3.cell 2
            refine bodyPost_ret (v := .tuple #[Ds.val ⟨⟨yp, yc, yl⟩, ⟨yq, yd, U⟩, ⟨zr, ze, zn⟩⟩, .int .i64 (fi : Nat), .int .i64 0]) (by simp [results, Try.results7, go_sem, D0, D1, D2, Ds.val, Sv.val]) rfl ⟨_, _, rfl, hW14.ok, hb3, fun _ => ⟨?_, ?_⟩, fun h => absurd rfl h⟩
            · rw [Int.toNat_natCast, Int.toNat_natCast, HFIN.out]; rfl
            · rw [HFR.out]
    · have k1 : (g.get (a % 4) != v) = true := by simpa using hgv
      have hm2 := HMID.out
      rw [if_neg hgv] at hm2
      have HM2 := Lib.hid hm2; clear hm2 HMID hgv
      have hX8 := pg_blk_set hX7 hm4 v
      have hgr := grown_set w7 AB (a % 4) (.int .i64 v)
      have hW8 := hW7.otherP hX7 hpAB hgr
      have hB8 : Blk (w7.setCell ⟨AB, a % 4, none⟩ (.int .i64 v)) OB #[.slice yp yl.length yc, .slice yq ym.length yd, .slice yr yn.length ye] 26 := hB7.other (.int .i64 v) (fun e => by
        subst e
        have h1 : w7.heap[AB]? = _ := hB7
        rw [show w7.heap[AB]? = _ from hX7] at h1
        cases h1)
      have hR8 : Blk (w7.setCell ⟨AB, a % 4, none⟩ (.int .i64 v)) (S + 1) #[.slice none 0 0, .slice none 0 0, .slice none 0 0] 26 := hR7.other (.int .i64 v) (fun e => by
        subst e
        have h1 : w7.heap[S + 1]? = _ := hR7
        rw [show w7.heap[S + 1]? = _ from hX7] at h1
        cases h1)
      have hcr8 := hcr7.kept hgr (own_blk hcr7 hX7 (by decide))
      have hb8 := hb7.setCell (p := ⟨AB, a % 4, none⟩) (hSAB) (.int .i64 v)
      generalize hg' : g.set v (a % 4) = g' at *
      have HG' := Lib.hid hg'; clear hg'
      obtain ⟨ga, gb, gc, gd⟩ := g'
      have x0 : (w7.setCell ⟨AB, a % 4, none⟩ (.int .i64 v)).cell? ⟨AB, 0, none⟩ = some (.int .i64 ga) := hX8.cell 0
      have x1 : (w7.setCell ⟨AB, a % 4, none⟩ (.int .i64 v)).cell? ⟨AB, 1, none⟩ = some (.int .i64 gb) := hX8.cell 1
      have x2 : (w7.setCell ⟨AB, a % 4, none⟩ (.int .i64 v)).cell? ⟨AB, 2, none⟩ = some (.int .i64 gc) := hX8.cell 2
      have x3 : (w7.setCell ⟨AB, a % 4, none⟩ (.int .i64 v)).cell? ⟨AB, 3, none⟩ = some (.int .i64 gd) := hX8.cell 3
      have hfr := fresh_any hB8 hW8 (by show yl.length ≤ 400; exact hpl4.out) (by exact HUL.out) (by have := hb8.size; omega : S ≤ _) ⟨ga, gb, gc, gd⟩
      have HFR := Lib.hid hfr
      clear hfr hX7 hW7 hB7 hR7 hcr7 hb7 hX8 hgr
      go_wp2_with fail
      refine HFR.out.mono ?_
      rintro _ w9 ⟨⟨np, nc, nl⟩, ⟨nu, nd, nm⟩, rr, rfl, hfc, hB9, hW9, hK9, hsep⟩
      clear HFR x0 x1 x2 x3 c7 f7
      dsimp only at hfc hB9 hW9 hK9 hsep
      obtain ⟨hf1, hf2, hf3, hf4, hf5⟩ := freshC_facts hfc HUL.out
      have hcr9 := hK9.own hcr8 (notin3 hcr8 hB8 (by decide) hW8.pg (by decide) hap)
      have hR9 := hK9.blk hR8 (by
        simp only [List.mem_cons, List.not_mem_nil, or_false, not_or]
        refine ⟨fun e => by cases e; omega, fun e => ?_, fun e => ?_⟩
        · rcases own_blk hW8.pg hR8 (by decide) with h | h
          · have h' : (Value.slice yp yl.length yc).ownBlock = none := h
            rw [h'] at e; cases e
          · exact h e.symm
        · rcases own_blk hW8.us hR8 (by decide) with h | h
          · have h' : (Value.slice yq ym.length yd).ownBlock = none := h
            rw [h'] at e; cases e
          · exact h e.symm)
      have hb9 := hK9.toBelow hb8 (by have := hb8.size; omega) (fun k hk => by
        simp only [List.mem_cons, List.not_mem_nil, or_false] at hk
        rcases hk with e | e | e
        · cases e; omega
        · exact (hW8.pg.lt k e.symm).1
        · exact (hW8.us.lt k e.symm).1)
      have hap9 : Apart ⟨some ⟨GR, 0, none⟩, cc2, rl⟩ ⟨nu, nd, nm⟩ := by
        refine .inr fun e => ?_
        have e1 : (Value.slice nu nm.length nd).ownBlock = some GR := e.symm
        rcases hsep GR e1 with h | h
        · rcases hap with h2 | h2
          · cases h2
          · exact h2 h.symm
        · have := (hcr8.lt GR rfl).2
          omega
      have c9 := own_cell hcr9 (i := a / 4) (by have := HL16.out; omega)
      have f9 : w9.frozen? ⟨GR, a / 4, none⟩ = false := hcr9.frozenAt (a / 4)
      have hgr9 := grown_set w9 GR (a / 4) (.int .i64 rr)
      have hW10 := hW9.otherI hcr9 (by
        rcases hap9 with h | h
        · cases h
        · exact .inr fun e => h e.symm) HAPR.out hgr9
      have hB10 := hB9.kept hcr9 (by decide) hgr9
      have hR10 := hR9.kept hcr9 (by decide) hgr9
      have hcr10 := own_set hcr9 (a / 4) rr
      have hb10 := hb9.setCell (p := ⟨GR, a / 4, none⟩) (hcr9.lt GR rfl).1 (.int .i64 rr)
      have hULj : Hid (nm.length = nl.length) := Lib.hid hf1
      have hPLj : Hid (nl.length ≤ 401) := Lib.hid (by have h1 := hpl4.out; omega)
      have hentj : Hid (∀ p ∈ rl.set (a / 4) rr, p = -1 ∨ (0 ≤ p ∧ p < nl.length)) := Lib.hid (fun p hp => by
        rcases List.mem_or_eq_of_mem_set hp with h | rfl
        · have h1 := HRO.out.2
          rw [HSP.out, HROW.out] at h1
          have h2 := h1 p h
          omega
        · exact hf5)
      have hloj : Hid (LoB nm 0) := Lib.hid (hf4 HLO.out)
      have HAJ : Hid (Apart ⟨some ⟨GR, 0, none⟩, cc2, rl.set (a / 4) rr⟩ ⟨nu, nd, nm⟩) := Lib.hid hap9
      have ha16 : a / 4 < 16 := by omega
      have hrl16 : rl.length ≤ 16 ∧ 16 ≤ rl.length := by have := HL16.out; omega
      have HFC := Lib.hid hfc
      clear hfc hf1 hf2 hf3 hf4 hf5 hsep hap hap9 hK9 hcr8 hR8 hB8 hW8 hb8 hcr9 hR9 hB9 hW9 hb9
      have HW10 := Lib.hid hW10; have HB10 := Lib.hid hB10; have HR10 := Lib.hid hR10; have HCR10 := Lib.hid hcr10; have HBB10 := Lib.hid hb10
      clear hW10 hB10 hR10 hcr10 hb10 hgr9
      go_wp2_with fail
      have hWj := HW10.out; have hBj := HB10.out; have hRj := HR10.out; have hcrj := HCR10.out; have hbj := HBB10.out
      clear HW10 HB10 HR10 HCR10 HBB10 c9 f9
      generalize w9.setCell ⟨GR, a / 4, none⟩ (.int .i64 rr) = w10 at *
      have HRJE : Hid (midC s q a v = ⟨nl, nm, rl.set (a / 4) rr⟩) := by
        have h := HM2.out
        rw [HFC.out] at h
        exact h
      clear HM2
      have HM2 := HRJE; clear HRJE
      generalize rl.set (a / 4) rr = rj at *
      go_loopw [56] (fun t wr => ∃ (k : Nat) (U : List Int), k ≤ rl.length ∧ t = .int .i64 k ∧ Below S W wr ∧ Blk wr (S + 1) #[.slice none 0 0, .slice none 0 0, .slice none 0 0] 26 ∧ Blk wr OB #[.slice np nl.length nc, .slice nu U.length nd, .slice yr yn.length ye] 26 ∧ Ow wr S ⟨⟨np, nc, nl⟩, ⟨nu, nd, U⟩, ⟨yr, ye, yn⟩⟩ ∧ wr.ownsRow S 3 1 (.slice (some ⟨GR, 0, none⟩) rl.length cc2) rl.length (ints .i64 rj) ∧ UpB U k ∧ Hid (U = countUp nm (rj.take k))) (fun t _ => rl.length - (intOf t).toNat)
      case atStart => exact ⟨0, nm, Nat.zero_le _, rfl, hbj, hRj, hBj, hWj, hcrj, UpB.of hloj.out, Lib.hid rfl⟩
      clear hbj hRj hBj hWj hcrj hloj
      case round =>
        obtain ⟨k, U, hk, rfl, hbS, hR, hB, hW, hcr, hup, hcu⟩ := hrel
        have hUl : U.length = nm.length := by rw [hcu.out, countUp_length]
        have HULN := Lib.hid hUl; clear hUl
        have hrjl : rj.length = rl.length := by first | rfl | (have h9 := hcr.1; rw [ints_length] at h9; omega)
        have HRJL := Lib.hid hrjl; clear hrjl
        by_cases hlt : k < rl.length
        · have hkj : k < rj.length := by have := HRJL.out; omega
          have c1 := own_cell hcr hlt
          have hx : rj[k]? = some (rj.getD k 0) := by simp [hkj]
          have hent := hentj.out (rj.getD k 0) (List.mem_of_getElem? hx)
          have hsn := countUp_snoc nm (rj.take k) (rj.getD k 0)
          rw [← take_snoc_ hx, ← hcu.out] at hsn
          have HSN := Lib.hid hsn; clear hsn hx
          generalize rj.getD k 0 = p at *
          by_cases h0 : 0 ≤ p
          · obtain ⟨n, rfl⟩ : ∃ n : Nat, p = n := ⟨p.toNat, by omega⟩
            have hnU : n < U.length := by have h1 := HULN.out; have h2 := hULj.out; omega
            have hU4 : U.length ≤ 401 := by have h1 := HULN.out; have h2 := hULj.out; have h3 := hPLj.out; omega
            have hs2 := HSN.out
            rw [if_pos h0, Int.toNat_natCast] at hs2
            have hWk := hW
            obtain ⟨gU, hgU⟩ := own_ptr (show World.ownsRow _ _ _ _ (.slice nu U.length nd) U.length _ from hW.us) (by omega)
            have B1 : wr.cell? ⟨OB, 1, none⟩ = some (.slice (some ⟨gU, 0, none⟩) U.length nd) := by rw [← hgU]; exact hB.cell 1
            have hus : wr.ownsRow S 3 1 (.slice (some ⟨gU, 0, none⟩) U.length nd) U.length (ints .i64 U) := by rw [← hgU]; exact hW.us
            have cU : wr.cell? ⟨gU, n, none⟩ = some (.int .i64 (U.getD n 0)) := own_cell hus hnU
            have fU : wr.frozen? ⟨gU, n, none⟩ = false := hus.frozenAt n
            have hbd := hup n
            have hg9 := grown_set wr gU n (.int .i64 (U.getD n 0 + 1))
            have hW2 : Ow (wr.setCell ⟨gU, n, none⟩ (.int .i64 (U.getD n 0 + 1))) S ⟨⟨np, nc, nl⟩, ⟨nu, nd, U.set n (U.getD n 0 + 1)⟩, ⟨yr, ye, yn⟩⟩ := by
              rw [hgU] at hWk ⊢
              exact hWk.setUse n _
            have hB2 := hB.kept hus (by decide) hg9
            have hR2 := hR.kept hus (by decide) hg9
            have hcr3 := hcr.kept hg9 (by
              rcases HAJ.out with h | h
              · cases h
              · refine .inr fun e => h ?_
                rw [show (Sv.val ⟨nu, nd, nm⟩).ownBlock = _ from ownBlock_len nu nm.length U.length nd nd, hgU]
                exact e)
            have hb2 := hbS.setCell (p := ⟨gU, n, none⟩) (hus.lt gU rfl).1 (.int .i64 (U.getD n 0 + 1))
            have hup2 := hup.step n
            generalize U.getD n 0 = u at *
            have hlen2 : (U.set n (u + 1)).length = U.length := List.length_set
            have HL2 := Lib.hid hlen2; have HS2 := Lib.hid hs2; have HW2 := Lib.hid hW2; have HGU := Lib.hid hgU
            clear hlen2 hs2 HSN hW hB hR hcr hWk hW2 hgU hup hcu
            go_wp2_with fail
            go_roundw
            case rel =>
              refine ⟨k + 1, U.set n (u + 1), by omega, by go_num, hb2, hR2, ?_, HW2.out, hcr3, hup2, HS2.out.symm⟩
              show Blk _ OB #[.slice np nl.length nc, .slice nu (U.set n (u + 1)).length nd, .slice yr yn.length ye] _
              rw [HL2.out]
              exact hB2
            case measure => simp [intOf]; omega
          · have hz : p < 0 := by omega
            have hs2 := HSN.out
            rw [if_neg h0] at hs2
            have HS2 := Lib.hid hs2; clear hs2 HSN h0 hcu
            go_wp2_with fail
            go_roundw
            case rel => exact ⟨k + 1, U, by omega, by go_num, hbS, hR, hB, hW, hcr, hup.mono (by omega), HS2.out.symm⟩
            case measure => simp [intOf]; omega
        · obtain rfl : k = rl.length := by omega
          have hc2 := hcu.out
          rw [List.take_of_length_le (by have := HRJL.out; omega)] at hc2
          have HCU := Lib.hid hc2; clear hc2 hcu
          have hap2 : Apart ⟨some ⟨GR, 0, none⟩, cc2, rj⟩ ⟨nu, nd, U⟩ := by
            unfold Apart
            rcases HAJ.out with h | h
            · cases h
            · refine .inr fun e => h ?_
              rw [show (Sv.val ⟨nu, nd, nm⟩).ownBlock = _ from ownBlock_len nu nm.length U.length nd nd]
              exact e
          have hrt := root_any (x := ⟨⟨np, nc, nl⟩, ⟨nu, nd, U⟩, ⟨yr, ye, yn⟩⟩) (s := ⟨some ⟨GR, 0, none⟩, cc2, rj⟩) hB hW (by show wr.ownsRow _ _ _ (.slice _ rj.length _) rj.length _; rw [HRJL.out]; exact hcr) hap2 (by show yn.length ≤ 400; have := hyn.out; omega) (by have := hbS.size; omega)
          dsimp only [Sv.val] at hrt
          rw [HRJL.out] at hrt
          have hyn4 := hyn.out
          have HRT := Lib.hid hrt; clear hrt hcr hap2
          go_wp2_with fail
          refine HRT.out.mono ?_
          rintro _ w11 ⟨⟨zr, ze, zn⟩, rfl, hRl, hB11, hW11, hK11⟩
          clear HRT
          dsimp only at hRl hB11 hW11 hK11
          have hR11 := hK11.blk hR (by
            simp only [List.mem_cons, List.not_mem_nil, or_false, not_or]
            refine ⟨fun e => by cases e; omega, fun e => ?_⟩
            rcases own_blk hW.rt hR (by decide) with h | h
            · have h' : (Value.slice yr yn.length ye).ownBlock = none := h
              rw [h'] at e; cases e
            · exact h e.symm)
          have hb11 := hK11.toBelow hbS (by have := hbS.size; omega) (fun k hk => by
            simp only [List.mem_cons, List.not_mem_nil, or_false] at hk
            rcases hk with e | e
            · cases e; omega
            · exact (hW.rt.lt k e.symm).1)
          have hzn : zn.length ≤ 41 := by
            rw [hRl]; split <;> simp <;> omega
          clear hB hW hR hbS hK11
          have HRL := Lib.hid hRl; clear hRl
          have hPL4 := hPLj.out
          have q0 : w11.cell? ⟨OB, 0, none⟩ = some (.slice np nl.length nc) := hB11.cell 0
          have q1 : w11.cell? ⟨OB, 1, none⟩ = some (.slice nu U.length nd) := hB11.cell 1
          have q2 : w11.cell? ⟨OB, 2, none⟩ = some (.slice zr zn.length ze) := hB11.cell 2
          have z0 : w11.cell? ⟨S + 1, 0, none⟩ = some (.slice none 0 0) := hR11.cell 0
          have z1 : w11.cell? ⟨S + 1, 1, none⟩ = some (.slice none 0 0) := hR11.cell 1
          have z2 : w11.cell? ⟨S + 1, 2, none⟩ = some (.slice none 0 0) := hR11.cell 2
          have f0 := hR11.frozen 0; have f1 := hR11.frozen 1; have f2 := hR11.frozen 2
          have hfin : setC s q a v = ⟨nl, U, zn.map (·.l)⟩ := by
            unfold setC
            rw [HM2.out]
            dsimp only
            have h1 : s.roots = yn.map (·.l) := by rw [← HS.out, HM.out]; rfl
            rw [← HCU.out]
            congr 1
            rw [HRL.out, h1]
            unfold putRoot
            rw [freeRoot_map, List.length_map]
            split
            · rw [List.map_set]
            · rw [List.map_append]; rfl
          have hfr : freeRoot s.roots = yn.findIdx (fun r => decide (r.l.length = 0)) := by
            have h1 : s.roots = yn.map (·.l) := by rw [← HS.out, HM.out]; rfl
            rw [h1, freeRoot_map]
          have hrr := HRR.out
          rw [hfin, List.length_map] at hrr
          dsimp only at hrr
          have HFIN := Lib.hid hfin; have HFR := Lib.hid hfr; clear hfin hfr
          generalize yn.findIdx (fun r => decide (r.l.length = 0)) = fi at *
          by_cases hlarge : 400 < nl.length ∨ 40 < zn.length
          · rw [if_pos hlarge] at hrr
            subst hrr
            have hk : (decide ((400 : Int) < nl.length) = true) ∨ (decide ((400 : Int) < nl.length) = false ∧ decide ((40 : Int) < zn.length) = true) := by
              by_cases h : 400 < nl.length
              · exact .inl (by simp; omega)
              · exact .inr ⟨by simp; omega, by simp; omega⟩
            have HLG := Lib.hid hlarge; clear hlarge
            rcases hk with k5 | ⟨k5, k6⟩
            all_goals
              go_wp2_with fail
              clear z0 z1 z2 f0 f1 f2 q0 q1 q2
              have hZ3 := ((hR11.set 0 (.slice none 0 0)).set 1 (.slice none 0 0)).set 2 (.slice none 0 0)
              have hb3 := ((hb11.setCell (p := ⟨S + 1, 0, none⟩) (by show S ≤ S + 1; omega) (.slice none 0 0)).setCell (p := ⟨S + 1, 1, none⟩) (by show S ≤ S + 1; omega) (.slice none 0 0)).setCell (p := ⟨S + 1, 2, none⟩) (by show S ≤ S + 1; omega) (.slice none 0 0)
              generalize ((w11.setCell ⟨S + 1, 0, none⟩ (.slice none 0 0)).setCell ⟨S + 1, 1, none⟩ (.slice none 0 0)).setCell ⟨S + 1, 2, none⟩ (.slice none 0 0) = wq at *
              have D0 : wq.cell? ⟨S + 1, 0, none⟩ = some (.slice none 0 0) := hZ3.cell 0
              have D1 : wq.cell? ⟨S + 1, 1, none⟩ = some (.slice none 0 0) := hZ3.cell 1
              have D2 : wq.cell? ⟨S + 1, 2, none⟩ = some (.slice none 0 0) := hZ3.cell 2
              exact bodyPost_ret (v := .tuple #[Ds.none.val, .int .i64 0, .int .i64 2]) (by simp [results, Try.results7, go_sem, D0, D1, D2, Ds.val, Sv.val]) rfl ⟨Ds.none, 0, rfl, Ds.none_ok _, hb3, (fun h => absurd h (by decide)), fun _ => ⟨rfl, rfl⟩⟩
          · rw [if_neg hlarge] at hrr
            subst hrr
            have k5 : decide ((400 : Int) < nl.length) = false := by simp; omega
            have k6 : decide ((40 : Int) < zn.length) = false := by simp; omega
            clear hlarge
            go_wp2_with fail
            clear z0 z1 z2 f0 f1 f2 q0 q1 q2
            have hZ1 := hR11.set 0 (.slice np nl.length nc)
            have hZ2 := hZ1.set 1 (.slice nu U.length nd)
            have hZ3 := hZ2.set 2 (.slice zr zn.length ze)
            have hW12 := hW11.other hR11 (by decide) (by decide) (by decide) (grown_set w11 (S + 1) 0 (.slice np nl.length nc))
            have hW13 := hW12.other hZ1 (by decide) (by decide) (by decide) (grown_set _ (S + 1) 1 (.slice nu U.length nd))
            have hW14 := hW13.other hZ2 (by decide) (by decide) (by decide) (grown_set _ (S + 1) 2 (.slice zr zn.length ze))
            have hb3 := ((hb11.setCell (p := ⟨S + 1, 0, none⟩) (by show S ≤ S + 1; omega) (.slice np nl.length nc)).setCell (p := ⟨S + 1, 1, none⟩) (by show S ≤ S + 1; omega) (.slice nu U.length nd)).setCell (p := ⟨S + 1, 2, none⟩) (by show S ≤ S + 1; omega) (.slice zr zn.length ze)
            generalize ((w11.setCell ⟨S + 1, 0, none⟩ (.slice np nl.length nc)).setCell ⟨S + 1, 1, none⟩ (.slice nu U.length nd)).setCell ⟨S + 1, 2, none⟩ (.slice zr zn.length ze) = wq at *
            have D0 : wq.cell? ⟨S + 1, 0, none⟩ = some (.slice np nl.length nc) := hZ3.cell 0
            have D1 : wq.cell? ⟨S + 1, 1, none⟩ = some (.slice nu U.length nd) := hZ3.cell 1
            have D2 : wq.cell? ⟨S + 1, 2, none⟩ = some (.slice zr zn.length ze) := hZ3.cell 2
            refine bodyPost_ret (v := .tuple #[Ds.val ⟨⟨np, nc, nl⟩, ⟨nu, nd, U⟩, ⟨zr, ze, zn⟩⟩, .int .i64 (fi : Nat), .int .i64 0]) (by simp [results, Try.results7, go_sem, D0, D1, D2, Ds.val, Sv.val]) rfl ⟨_, _, rfl, hW14.ok, hb3, fun _ => ⟨?_, ?_⟩, fun h => absurd rfl h⟩
            · rw [Int.toNat_natCast, Int.toNat_natCast, HFIN.out]; rfl
            · rw [HFR.out]
end Go.Proofs.Ytcnppcddpcpeoaa
