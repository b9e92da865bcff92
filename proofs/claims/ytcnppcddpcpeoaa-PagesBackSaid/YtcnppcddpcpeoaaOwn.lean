/-
  own: a store whose rows are one's own; what stays of it where others are written.
-/
import Derived.Test.YtcnppcddpcpeoaaLibP
import Derived.Test.YtcnppcddpcpeoaaClone
import Derived.Test.YtcnppcddpcpeoaaLate
import Derived.Test.YtcnppcddpcpeoaaFast
import Derived.Test.YtcnppcddpcpeoaaOwnI
import Derived.Test.YtcnppcddpcpeoaaUses
namespace Go.Proofs.Ytcnppcddpcpeoaa
open Go.RowKit Go.Sort

/-- Rows of unlike elements lie apart. -/
theorem own_apart {w : World} {b1 b2 s1 s2 n1 n2 : Nat} {e1 e2 : TypeId} {v1 v2 : Value} {xs1 xs2 : List Value} (h1 : w.ownsRow b1 e1 s1 v1 n1 xs1) (h2 : w.ownsRow b2 e2 s2 v2 n2 xs2) (hne : e1 ≠ e2) : v1.ownBlock = none ∨ v1.ownBlock ≠ v2.ownBlock := by
  rcases h1.2 with ⟨rfl, _⟩ | ⟨g, cap, cur, rfl, hb, hg, -⟩
  · exact .inl rfl
  · refine .inr fun e => ?_
    rcases h2.2 with ⟨rfl, _⟩ | ⟨g', cap', cur', rfl, hb', hg', -⟩
    · cases e
    · have e' : g = g' := by
        have : some g = some g' := e
        simpa using this
      subst e'
      rw [hg] at hg'
      cases hg'
      exact hne rfl
/-- A row and a block of another type lie apart. -/
theorem own_blk {w : World} {b s n B : Nat} {e t : TypeId} {v : Value} {xs : List Value} {cs : Array Value} (h1 : w.ownsRow b e s v n xs) (h2 : Blk w B cs t) (hne : e ≠ t) : v.ownBlock = none ∨ v.ownBlock ≠ some B := by
  rcases h1.2 with ⟨rfl, _⟩ | ⟨g, cap, cur, rfl, hb, hg, -⟩
  · exact .inl rfl
  · refine .inr fun e => ?_
    have e' : g = B := by
      have : some g = some B := e
      simpa using this
    subst e'
    rw [show w.heap[g]? = _ from h2] at hg
    cases hg
    exact hne rfl
def rwCells (l : List (Sv Int)) : List Value := l.flatMap rowCells
theorem rwCells_length (l : List (Sv Int)) : (rwCells l).length = l.length * 1 := fm_len (cells := rowCells) (fun _ => rfl) l
abbrev OwnR (w : World) (base : Nat) (s : Sv (Sv Int)) : Prop := w.ownsRow base 23 1 s.val s.l.length (rwCells s.l)
abbrev OwnS (w : World) (base : Nat) (s : Sv Int) : Prop := w.ownsRow base 3 1 s.val s.l.length (ints .i64 s.l)
def Apart (s t : Sv Int) : Prop := s.val.ownBlock = none ∨ s.val.ownBlock ≠ t.val.ownBlock
/-- A store of one's own. -/
structure Ow (w : World) (B : Nat) (x : Ds) : Prop where
  pg : OwnP w B x.pages.p x.pages.cap x.pages.l
  us : OwnS w B x.uses
  rt : OwnR w B x.roots
  each : ∀ s ∈ x.roots.l, OwnS w B s ∧ Apart s x.uses
theorem Ow.ok {w : World} {B : Nat} {x : Ds} (h : Ow w B x) : x.ok w :=
  ⟨⟨Sl.of_own h.pg, fun _ _ => trivial⟩, Sl.of_own h.us, ⟨Sl.of_own h.rt, fun s hs => Sl.of_own (h.each s hs).1⟩⟩
theorem Ow.below {w w' : World} {B : Nat} {x : Ds} (h : Ow w B x) (hb : Below w.heap.size w w') : Ow w' B x :=
  ⟨own_below h.pg hb, own_below h.us hb, own_below h.rt hb, fun s hs => ⟨own_below (h.each s hs).1 hb, (h.each s hs).2⟩⟩
/-- Where a block of another type is written all stays. -/
theorem Ow.other {w w' : World} {B A : Nat} {x : Ds} {cs : Array Value} {t : TypeId} (h : Ow w B x) (hA : Blk w A cs t) (h1 : t ≠ 38) (h2 : t ≠ 3) (h3 : t ≠ 23) (hg : w.grownBy w' (some A)) : Ow w' B x :=
  ⟨h.pg.kept hg (own_blk h.pg hA h1.symm), h.us.kept hg (own_blk h.us hA h2.symm), h.rt.kept hg (own_blk h.rt hA h3.symm), fun s hs => ⟨(h.each s hs).1.kept hg (own_blk (h.each s hs).1 hA h2.symm), (h.each s hs).2⟩⟩

theorem apart_new {w w' : World} {B1 B2 n m : Nat} {s t : Sv Int} {xs ys : List Value} (hs : w'.ownsRow B1 3 1 s.val n xs) (ht : w.ownsRow B2 3 1 t.val m ys) (h : w.heap.size ≤ B1) : Apart s t := by
  unfold Apart
  cases hb : s.val.ownBlock with
  | none => exact .inl rfl
  | some a =>
    refine .inr fun e => ?_
    have h1 := (hs.lt a hb).1
    have h2 := (ht.lt a e.symm).2
    omega
theorem infoR : (Try.prog.info? 23).map (fun i => (i.zero, i.size, i.bytes)) = some (some (.slice none 0 0), 1, 24) := by kernel_rfl
set_option maxHeartbeats 8000000 in
theorem own_any {W : World} {x : Ds} (hx : x.ok W) (hp : x.pages.l.length ≤ 400) (hu : x.uses.l.length ≤ 400) (hr : x.roots.l.length ≤ 40) (h16 : ∀ s ∈ x.roots.l, s.l.length ≤ 16) :
    Calls Try.prog 15 #[x.val] W fun e W' => ∃ y : Ds, e = .returned y.val ∧ y.c = x.c ∧ Ow W' W.heap.size y ∧ Below W.heap.size W W' := by
  obtain ⟨⟨pp, cp, pg⟩, ⟨pu, cu, us⟩, ⟨pr, cr, rs⟩⟩ := x
  obtain ⟨hpg, hus, hrs⟩ := hx
  have hpl := hpg.le
  have hrl := hrs.le
  have hul := hus.lt63
  dsimp only at hpg hus hrs hpl hrl hul hp hu hr h16 ⊢
  have hb0 := ((Below.refl W.heap.size W).alloc (Nat.le_refl _) (.cells #[.slice pp pg.length cp, .slice pu us.length cu, .slice pr rs.length cr] 26)).alloc (by simp) (.cells #[.slice none 0 0, .slice none 0 0, .slice none 0 0] 26)
  have hA0 := (Blk.mk2 W #[.slice pp pg.length cp, .slice pu us.length cu, .slice pr rs.length cr] 26).alloc (.cells #[.slice none 0 0, .slice none 0 0, .slice none 0 0] 26)
  have hR0 : Blk ((W.alloc (.cells #[.slice pp pg.length cp, .slice pu us.length cu, .slice pr rs.length cr] 26)).alloc (.cells #[.slice none 0 0, .slice none 0 0, .slice none 0 0] 26)) (W.heap.size + 1) #[.slice none 0 0, .slice none 0 0, .slice none 0 0] 26 := Blk.mk_ _ _ _ (by simp)
  generalize hbn : W.heap.size = S at *
  have H16 := Lib.hid h16; clear h16
  go_enter Try.func15, Try.ntmps15
  refine wp_seq_k fun K hK => ?_
  have HK := Lib.hid hK; clear hK
  go_wp2_with fail
  refine HK.out _ _ ?_
  clear HK K
  generalize (W.alloc (.cells #[.slice pp pg.length cp, .slice pu us.length cu, .slice pr rs.length cr] 26)).alloc (.cells #[.slice none 0 0, .slice none 0 0, .slice none 0 0] 26) = w1 at *
  have hpg1 := RdPg.st _ _ _ hpg (hbn ▸ hb0); have hus1 := RdI.st _ _ _ hus (hbn ▸ hb0); have hrs1 := RdR.st _ _ _ hrs (hbn ▸ hb0)
  clear hpg hus
  have r0 := cell_regrown (show w1.cell? ⟨S, 0, none⟩ = some (.slice pp pg.length cp) from hA0.cell 0)
  have r1 := cell_regrown (show w1.cell? ⟨S, 1, none⟩ = some (.slice pu us.length cu) from hA0.cell 1)
  have hSW : S ≤ w1.heap.size := by have := hb0.size; omega
  go_wp2_with fail
  refine wp_region_plan (fun w' => ∃ p : Regrown, w' = grow (redrawn w1 p.d) p.os) (.two [0, 1, 3, 4] 2 (.two [] 5 (.one [6] 7 (.one [] 8 (.last []))) 7 (.one [] 5 (.one [6] 8 (.last [])))) 7 (.one [] 2 (.one [] 5 (.one [6] 8 (.last []))))) rfl (by kernel_rfl) (by kernel_rfl) (by kernel_rfl) (regrown_of_below ((Below.refl _ _).drew)) ?_
  change wpPlan _ _ _ _ _ _ w1.drew
  refine wpPlan_two fun K K' hK hK' => ?_
  have HK := Lib.hid hK; have HK' := Lib.hid hK'; clear hK hK'
  simp only [pick, List.getD_cons_succ, List.getD_cons_zero]
  iterate 4 (go_big_quiet_step (fail))
  refine wpQuiet_nil ?_
  clear r0 r1
  have hbd := (Below.refl w1.heap.size w1).drew
  generalize w1.drew = wd at *
  refine ⟨?oa, ?ob⟩
  case' oa =>
    clear HK' K'
    have hn := cloneP_any (RdPg.st _ _ _ hpg1 hbd) (by show pg.length ≤ _; omega)
    go_wp2_with fail
    refine hn.mono ?_
    rintro _ we ⟨pp2, cp2, rfl, hoP, hb⟩
    have hbd2 := hbd.trans (hb.mono hbd.size)
    replace hoP := own_mono hoP (Nat.le_trans hSW hbd.size)
    clear hn hb hbd
    have hbd := hbd2; clear hbd2
    go_wp2_with fail
    refine ⟨regrown_of_below hbd, HK.out _ _ ?_⟩
    clear HK K
    refine wpPlan_two fun K K' hK hK' => ?_
    have HK := Lib.hid hK; have HK' := Lib.hid hK'; clear hK hK'
    simp only [pick, List.getD_cons_succ, List.getD_cons_zero]
    refine wpQuiet_nil ?_
    refine ⟨?ia, ?ib⟩
    case' ia =>
      clear HK' K'
      have hn := clone_any (RdI.st _ _ _ hus1 hbd) (by show us.length * 8 ≤ _; omega)
      go_wp2_with fail
      refine hn.mono ?_
      rintro _ wf ⟨pu2, cu2, rfl, hoU, hb⟩
      have hbd2 := hbd.trans (hb.mono hbd.size)
      replace hoU := own_mono hoU (Nat.le_trans hSW hbd.size)
      replace hoP := own_below hoP hb
      clear hn hb hbd
      have hbd := hbd2; clear hbd2
      go_wp2_with fail
      refine ⟨regrown_of_below hbd, HK.out _ _ ?_⟩
      clear HK K
      refine wpPlan_one fun K hK => ?_
      have HK := Lib.hid hK; clear hK
      simp only [pick, List.getD_cons_succ, List.getD_cons_zero]
      iterate 1 (go_big_quiet_step (fail))
      refine wpQuiet_nil ?_
      have hge := hbd.size
      have hbd2 := hbd.alloc hbd.size (.cells #[.slice none 0 0, .slice none 0 0, .slice none 0 0] 26)
      have hOB := Blk.mk2 wf #[.slice none 0 0, .slice none 0 0, .slice none 0 0] 26
      replace hoP := own_below hoP ((Below.refl wf.heap.size wf).alloc (Nat.le_refl _) (.cells #[.slice none 0 0, .slice none 0 0, .slice none 0 0] 26))
      replace hoU := own_below hoU ((Below.refl wf.heap.size wf).alloc (Nat.le_refl _) (.cells #[.slice none 0 0, .slice none 0 0, .slice none 0 0] 26))
      clear hbd; have hbd := hbd2; clear hbd2
      go_wp2_with fail
      refine ⟨regrown_of_below hbd, HK.out _ _ ?_⟩
      have hOBge : w1.heap.size ≤ wf.heap.size := hge
      generalize wf.heap.size = OB at *
      generalize wf.alloc (.cells #[.slice none 0 0, .slice none 0 0, .slice none 0 0] 26) = wg at *
      clear HK K
      refine wpPlan_one fun K hK => ?_
      have HK := Lib.hid hK; clear hK
      simp only [pick, List.getD_cons_succ, List.getD_cons_zero]
      refine wpQuiet_nil ?_
      have q0 : wg.cell? ⟨OB, 0, none⟩ = some (.slice none 0 0) := hOB.cell 0; have f0 := hOB.frozen 0
      have q1 : wg.cell? ⟨OB, 1, none⟩ = some (.slice none 0 0) := hOB.cell 1; have f1 := hOB.frozen 1
      have q2 : wg.cell? ⟨OB, 2, none⟩ = some (.slice none 0 0) := hOB.cell 2; have f2 := hOB.frozen 2
      go_wp2_with fail
      have a3 : Below w1.heap.size w1 (((wg.setCell ⟨OB, 0, none⟩ (.slice pp2 pg.length cp2)).setCell ⟨OB, 1, none⟩ (.slice pu2 us.length cu2)).setCell ⟨OB, 2, none⟩ (.slice none 0 0)) := (((hbd.setCell (p := ⟨OB, 0, none⟩) hOBge (.slice pp2 pg.length cp2)).setCell (p := ⟨OB, 1, none⟩) hOBge (.slice pu2 us.length cu2)).setCell (p := ⟨OB, 2, none⟩) hOBge (.slice none 0 0))
      have hOB' : Blk (((wg.setCell ⟨OB, 0, none⟩ (.slice pp2 pg.length cp2)).setCell ⟨OB, 1, none⟩ (.slice pu2 us.length cu2)).setCell ⟨OB, 2, none⟩ (.slice none 0 0)) OB #[.slice pp2 pg.length cp2, .slice pu2 us.length cu2, .slice none 0 0] 26 := (((hOB.setL 0 (.slice pp2 pg.length cp2)).setL 1 (.slice pu2 us.length cu2)).setL 2 (.slice none 0 0))
      have hoP1 := hoP.kept (grown_set _ OB 0 (.slice pp2 pg.length cp2)) (own_blk hoP hOB (by decide))
      have hoP2 := hoP1.kept (grown_set _ OB 1 (.slice pu2 us.length cu2)) (own_blk hoP1 (hOB.setL 0 (.slice pp2 pg.length cp2)) (by decide))
      have hoP3 := hoP2.kept (grown_set _ OB 2 (.slice none 0 0)) (own_blk hoP2 ((hOB.setL 0 (.slice pp2 pg.length cp2)).setL 1 (.slice pu2 us.length cu2)) (by decide))
      have hoU1 := hoU.kept (grown_set _ OB 0 (.slice pp2 pg.length cp2)) (own_blk hoU hOB (by decide))
      have hoU2 := hoU1.kept (grown_set _ OB 1 (.slice pu2 us.length cu2)) (own_blk hoU1 (hOB.setL 0 (.slice pp2 pg.length cp2)) (by decide))
      have hoU3 := hoU2.kept (grown_set _ OB 2 (.slice none 0 0)) (own_blk hoU2 ((hOB.setL 0 (.slice pp2 pg.length cp2)).setL 1 (.slice pu2 us.length cu2)) (by decide))
      refine ⟨regrown_of_below a3, HK.out _ _ ?_⟩
      clear HK K q0 q1 q2 f0 f1 f2 hOB hoP hoU hoP1 hoP2 hoU1 hoU2 hbd
      generalize (((wg.setCell ⟨OB, 0, none⟩ (.slice pp2 pg.length cp2)).setCell ⟨OB, 1, none⟩ (.slice pu2 us.length cu2)).setCell ⟨OB, 2, none⟩ (.slice none 0 0)) = wz at *
      refine wpPlan_last ?_
      simp only [pick]
      refine wpQuiet_nil ?_
      refine NoPanic.normal ?_
    case' ib =>
      clear HK K
      have hge := hbd.size
      have hbd2 := hbd.alloc hbd.size (.cells #[.slice none 0 0, .slice none 0 0, .slice none 0 0] 26)
      have hOB := Blk.mk2 we #[.slice none 0 0, .slice none 0 0, .slice none 0 0] 26
      replace hoP := own_below hoP ((Below.refl we.heap.size we).alloc (Nat.le_refl _) (.cells #[.slice none 0 0, .slice none 0 0, .slice none 0 0] 26))
      clear hbd; have hbd := hbd2; clear hbd2
      go_wp2_with fail
      refine ⟨regrown_of_below hbd, HK'.out _ _ ?_⟩
      have hOBge : w1.heap.size ≤ we.heap.size := hge
      generalize we.heap.size = OB at *
      generalize we.alloc (.cells #[.slice none 0 0, .slice none 0 0, .slice none 0 0] 26) = wg at *
      clear HK' K'
      refine wpPlan_one fun K hK => ?_
      have HK := Lib.hid hK; clear hK
      simp only [pick, List.getD_cons_succ, List.getD_cons_zero]
      refine wpQuiet_nil ?_
      have hn := clone_any (RdI.st _ _ _ hus1 hbd) (by show us.length * 8 ≤ _; omega)
      go_wp2_with fail
      refine hn.mono ?_
      rintro _ wf ⟨pu2, cu2, rfl, hoU, hb⟩
      have hbd2 := hbd.trans (hb.mono hbd.size)
      replace hoU := own_mono hoU (Nat.le_trans hSW hbd.size)
      replace hoP := own_below hoP hb
      have hOB2 := hOB.next hb; clear hOB; have hOB := hOB2; clear hOB2
      clear hn hb hbd
      have hbd := hbd2; clear hbd2
      go_wp2_with fail
      refine ⟨regrown_of_below hbd, HK.out _ _ ?_⟩
      clear HK K
      refine wpPlan_one fun K hK => ?_
      have HK := Lib.hid hK; clear hK
      simp only [pick, List.getD_cons_succ, List.getD_cons_zero]
      iterate 1 (go_big_quiet_step (fail))
      refine wpQuiet_nil ?_
      have q0 : wf.cell? ⟨OB, 0, none⟩ = some (.slice none 0 0) := hOB.cell 0; have f0 := hOB.frozen 0
      have q1 : wf.cell? ⟨OB, 1, none⟩ = some (.slice none 0 0) := hOB.cell 1; have f1 := hOB.frozen 1
      have q2 : wf.cell? ⟨OB, 2, none⟩ = some (.slice none 0 0) := hOB.cell 2; have f2 := hOB.frozen 2
      go_wp2_with fail
      have a3 : Below w1.heap.size w1 (((wf.setCell ⟨OB, 0, none⟩ (.slice pp2 pg.length cp2)).setCell ⟨OB, 1, none⟩ (.slice pu2 us.length cu2)).setCell ⟨OB, 2, none⟩ (.slice none 0 0)) := (((hbd.setCell (p := ⟨OB, 0, none⟩) hOBge (.slice pp2 pg.length cp2)).setCell (p := ⟨OB, 1, none⟩) hOBge (.slice pu2 us.length cu2)).setCell (p := ⟨OB, 2, none⟩) hOBge (.slice none 0 0))
      have hOB' : Blk (((wf.setCell ⟨OB, 0, none⟩ (.slice pp2 pg.length cp2)).setCell ⟨OB, 1, none⟩ (.slice pu2 us.length cu2)).setCell ⟨OB, 2, none⟩ (.slice none 0 0)) OB #[.slice pp2 pg.length cp2, .slice pu2 us.length cu2, .slice none 0 0] 26 := (((hOB.setL 0 (.slice pp2 pg.length cp2)).setL 1 (.slice pu2 us.length cu2)).setL 2 (.slice none 0 0))
      have hoP1 := hoP.kept (grown_set _ OB 0 (.slice pp2 pg.length cp2)) (own_blk hoP hOB (by decide))
      have hoP2 := hoP1.kept (grown_set _ OB 1 (.slice pu2 us.length cu2)) (own_blk hoP1 (hOB.setL 0 (.slice pp2 pg.length cp2)) (by decide))
      have hoP3 := hoP2.kept (grown_set _ OB 2 (.slice none 0 0)) (own_blk hoP2 ((hOB.setL 0 (.slice pp2 pg.length cp2)).setL 1 (.slice pu2 us.length cu2)) (by decide))
      have hoU1 := hoU.kept (grown_set _ OB 0 (.slice pp2 pg.length cp2)) (own_blk hoU hOB (by decide))
      have hoU2 := hoU1.kept (grown_set _ OB 1 (.slice pu2 us.length cu2)) (own_blk hoU1 (hOB.setL 0 (.slice pp2 pg.length cp2)) (by decide))
      have hoU3 := hoU2.kept (grown_set _ OB 2 (.slice none 0 0)) (own_blk hoU2 ((hOB.setL 0 (.slice pp2 pg.length cp2)).setL 1 (.slice pu2 us.length cu2)) (by decide))
      refine ⟨regrown_of_below a3, HK.out _ _ ?_⟩
      clear HK K q0 q1 q2 f0 f1 f2 hOB hoP hoU hoP1 hoP2 hoU1 hoU2 hbd
      generalize (((wf.setCell ⟨OB, 0, none⟩ (.slice pp2 pg.length cp2)).setCell ⟨OB, 1, none⟩ (.slice pu2 us.length cu2)).setCell ⟨OB, 2, none⟩ (.slice none 0 0)) = wz at *
      refine wpPlan_last ?_
      simp only [pick]
      refine wpQuiet_nil ?_
      refine NoPanic.normal ?_
  case' ob =>
    clear HK K
    have hge := hbd.size
    have hbd2 := hbd.alloc hbd.size (.cells #[.slice none 0 0, .slice none 0 0, .slice none 0 0] 26)
    have hOB := Blk.mk2 wd #[.slice none 0 0, .slice none 0 0, .slice none 0 0] 26
    clear hbd; have hbd := hbd2; clear hbd2
    go_wp2_with fail
    refine ⟨regrown_of_below hbd, HK'.out _ _ ?_⟩
    have hOBge : w1.heap.size ≤ wd.heap.size := hge
    generalize wd.heap.size = OB at *
    generalize wd.alloc (.cells #[.slice none 0 0, .slice none 0 0, .slice none 0 0] 26) = wg at *
    clear HK' K'
    refine wpPlan_one fun K hK => ?_
    have HK := Lib.hid hK; clear hK
    simp only [pick, List.getD_cons_succ, List.getD_cons_zero]
    refine wpQuiet_nil ?_
    have hn := cloneP_any (RdPg.st _ _ _ hpg1 hbd) (by show pg.length ≤ _; omega)
    go_wp2_with fail
    refine hn.mono ?_
    rintro _ we ⟨pp2, cp2, rfl, hoP, hb⟩
    have hbd2 := hbd.trans (hb.mono hbd.size)
    replace hoP := own_mono hoP (Nat.le_trans hSW hbd.size)
    have hOB2 := hOB.next hb; clear hOB; have hOB := hOB2; clear hOB2
    clear hn hb hbd
    have hbd := hbd2; clear hbd2
    go_wp2_with fail
    refine ⟨regrown_of_below hbd, HK.out _ _ ?_⟩
    clear HK K
    refine wpPlan_one fun K hK => ?_
    have HK := Lib.hid hK; clear hK
    simp only [pick, List.getD_cons_succ, List.getD_cons_zero]
    refine wpQuiet_nil ?_
    have hn := clone_any (RdI.st _ _ _ hus1 hbd) (by show us.length * 8 ≤ _; omega)
    go_wp2_with fail
    refine hn.mono ?_
    rintro _ wf ⟨pu2, cu2, rfl, hoU, hb⟩
    have hbd2 := hbd.trans (hb.mono hbd.size)
    replace hoU := own_mono hoU (Nat.le_trans hSW hbd.size)
    replace hoP := own_below hoP hb
    have hOB2 := hOB.next hb; clear hOB; have hOB := hOB2; clear hOB2
    clear hn hb hbd
    have hbd := hbd2; clear hbd2
    go_wp2_with fail
    refine ⟨regrown_of_below hbd, HK.out _ _ ?_⟩
    clear HK K
    refine wpPlan_one fun K hK => ?_
    have HK := Lib.hid hK; clear hK
    simp only [pick, List.getD_cons_succ, List.getD_cons_zero]
    iterate 1 (go_big_quiet_step (fail))
    refine wpQuiet_nil ?_
    have q0 : wf.cell? ⟨OB, 0, none⟩ = some (.slice none 0 0) := hOB.cell 0; have f0 := hOB.frozen 0
    have q1 : wf.cell? ⟨OB, 1, none⟩ = some (.slice none 0 0) := hOB.cell 1; have f1 := hOB.frozen 1
    have q2 : wf.cell? ⟨OB, 2, none⟩ = some (.slice none 0 0) := hOB.cell 2; have f2 := hOB.frozen 2
    go_wp2_with fail
    have a3 : Below w1.heap.size w1 (((wf.setCell ⟨OB, 0, none⟩ (.slice pp2 pg.length cp2)).setCell ⟨OB, 1, none⟩ (.slice pu2 us.length cu2)).setCell ⟨OB, 2, none⟩ (.slice none 0 0)) := (((hbd.setCell (p := ⟨OB, 0, none⟩) hOBge (.slice pp2 pg.length cp2)).setCell (p := ⟨OB, 1, none⟩) hOBge (.slice pu2 us.length cu2)).setCell (p := ⟨OB, 2, none⟩) hOBge (.slice none 0 0))
    have hOB' : Blk (((wf.setCell ⟨OB, 0, none⟩ (.slice pp2 pg.length cp2)).setCell ⟨OB, 1, none⟩ (.slice pu2 us.length cu2)).setCell ⟨OB, 2, none⟩ (.slice none 0 0)) OB #[.slice pp2 pg.length cp2, .slice pu2 us.length cu2, .slice none 0 0] 26 := (((hOB.setL 0 (.slice pp2 pg.length cp2)).setL 1 (.slice pu2 us.length cu2)).setL 2 (.slice none 0 0))
    have hoP1 := hoP.kept (grown_set _ OB 0 (.slice pp2 pg.length cp2)) (own_blk hoP hOB (by decide))
    have hoP2 := hoP1.kept (grown_set _ OB 1 (.slice pu2 us.length cu2)) (own_blk hoP1 (hOB.setL 0 (.slice pp2 pg.length cp2)) (by decide))
    have hoP3 := hoP2.kept (grown_set _ OB 2 (.slice none 0 0)) (own_blk hoP2 ((hOB.setL 0 (.slice pp2 pg.length cp2)).setL 1 (.slice pu2 us.length cu2)) (by decide))
    have hoU1 := hoU.kept (grown_set _ OB 0 (.slice pp2 pg.length cp2)) (own_blk hoU hOB (by decide))
    have hoU2 := hoU1.kept (grown_set _ OB 1 (.slice pu2 us.length cu2)) (own_blk hoU1 (hOB.setL 0 (.slice pp2 pg.length cp2)) (by decide))
    have hoU3 := hoU2.kept (grown_set _ OB 2 (.slice none 0 0)) (own_blk hoU2 ((hOB.setL 0 (.slice pp2 pg.length cp2)).setL 1 (.slice pu2 us.length cu2)) (by decide))
    refine ⟨regrown_of_below a3, HK.out _ _ ?_⟩
    clear HK K q0 q1 q2 f0 f1 f2 hOB hoP hoU hoP1 hoP2 hoU1 hoU2 hbd
    generalize (((wf.setCell ⟨OB, 0, none⟩ (.slice pp2 pg.length cp2)).setCell ⟨OB, 1, none⟩ (.slice pu2 us.length cu2)).setCell ⟨OB, 2, none⟩ (.slice none 0 0)) = wz at *
    refine wpPlan_last ?_
    simp only [pick]
    refine wpQuiet_nil ?_
    refine NoPanic.normal ?_
  all_goals
    have hrs0 := Lib.hid hrs
    clear hrs
    have hA := hA0.next a3; have hRz := hR0.next a3; have hrs2 := RdR.st _ _ _ hrs1 a3
    have hOBlt := hOB'.lt
    have hSS : S + 1 < w1.heap.size := hR0.lt
    have hOw : Ow wz S ⟨⟨pp2, cp2, pg⟩, ⟨pu2, cu2, us⟩, Sv.none⟩ := ⟨hoP3, hoU3, World.ownsRow_nil _ _ _ _, fun s hs => by cases hs⟩
    have A2 : wz.cell? ⟨S, 2, none⟩ = some (.slice pr rs.length cr) := hA.cell 2
    obtain ⟨iR, hiR, rz0, rz1, rz2⟩ := info_parts infoR
    clear hoP3 hoU3 hOBlt hge
    go_wp2_with fail
    clear A2 hrs2
    go_loopw [16] (fun t wr => ∃ (k : Nat) (vr : Sv (Sv Int)), k ≤ rs.length ∧ t = .int .i64 k ∧ Below S W wr ∧ Blk wr (S + 1) #[.slice none 0 0, .slice none 0 0, .slice none 0 0] 26 ∧ Blk wr OB #[.slice pp2 pg.length cp2, .slice pu2 us.length cu2, vr.val] 26 ∧ Ow wr S ⟨⟨pp2, cp2, pg⟩, ⟨pu2, cu2, us⟩, vr⟩ ∧ Hid (vr.l.map (·.l) = (rs.take k).map (·.l))) (fun t _ => rs.length - (intOf t).toNat)
    case atStart => exact ⟨0, Sv.none, Nat.zero_le _, rfl, hb0.trans (a3.mono hSW), hRz, hOB', hOw, by simp [Hid]⟩
    clear a3 hOB' hOw hRz hA hA0 hR0
    case round =>
      obtain ⟨k, ⟨vp, vc, vl⟩, hk, rfl, hbS, hRz, hB, hW, hm⟩ := hrel
      have hvk : vl.length = k := by have := congrArg List.length hm.out; simpa [Nat.min_eq_left hk] using this
      subst hvk
      by_cases hlt : vl.length < rs.length
      · obtain ⟨b, off, hpq, hb, hc, hrd⟩ := (RdR.st _ _ _ hrs0.out (hbn ▸ hbS)).at_ hlt
        dsimp only at hpq hc hrd
        have hx : rs[vl.length]? = some (rs.getD vl.length default) := by simp [hlt]
        have h16 := H16.out (rs.getD vl.length default) (by simp [hlt])
        generalize rs.getD vl.length default = row at *
        obtain ⟨rp, rc, rl⟩ := row
        dsimp only [Sv.val] at hc hrd h16
        subst hpq
        have HX := Lib.hid hx; clear hx
        obtain ⟨wo, rfl⟩ : ∃ wo : World, wo = wr := ⟨_, rfl⟩
        have hCw : wo.drew.cell? ⟨OB, 2, none⟩ = some (.slice vp vl.length vc) := hB.drew.cell 2
        haveI := cls_ne (C := fun w' => w'.cell? ⟨OB, 2, none⟩ = some (.slice vp vl.length vc)) hCw
        have hcl : ∀ p : Cls (fun w' => w'.cell? ⟨OB, 2, none⟩ = some (.slice vp vl.length vc)), p.w.cell? ⟨OB, 2, none⟩ = some (.slice vp vl.length vc) := fun p => p.h
        have HCL := Lib.hid hcl; clear hcl
        go_wp2_with fail
        refine wp_region_late (fun w' => ∃ p : Cls (fun w' => w'.cell? ⟨OB, 2, none⟩ = some (.slice vp vl.length vc)), w' = p.w) 7 (.free [0, 2] (.one [1] 3 (.one [] 4 (.one [] 5 (.free [6] (.late [] (.last []))))))) rfl (by kernel_rfl) (by kernel_rfl) (by kernel_rfl) (cls_mk hCw) ?_
        change wpLate _ _ _ _ _ _ _ wo.drew
        refine wpLate_free fun K hK => ?_
        have HK := Lib.hid hK; clear hK
        simp only [pick, List.getD_cons_succ, List.getD_cons_zero]
        iterate 2 (go_big_quiet_step (fail))
        refine wpQuiet_nil ?_
        refine HK.out _ ?_
        clear HK K hc
        refine wpLate_one fun K hK => ?_
        have HK := Lib.hid hK; clear hK
        simp only [pick, List.getD_cons_succ, List.getD_cons_zero]
        have hcl := HCL.out
        iterate 1 (go_big_quiet_step (fail))
        clear hcl
        refine wpQuiet_nil ?_
        have hdr := (Below.refl wo.heap.size wo).drew
        generalize wo.drew = wd at *
        have hn := clone_any (RdI.st _ _ _ hrd hdr) (by show rl.length * 8 ≤ _; omega)
        dsimp only at hn
        have HN := Lib.hid hn; clear hn
        go_wp2_with fail
        refine HN.out.mono ?_
        rintro _ w4 ⟨p4, c4, rfl, ho4, hb4⟩
        have hB4 := (hB.next hdr).next hb4; have hZ4 := (hRz.next hdr).next hb4; have hW4 := (hW.below hdr).below hb4
        have hbd := hdr.trans (hb4.mono hdr.size)
        have hge4 : wo.heap.size ≤ w4.heap.size := hbd.size
        have hap4 : Apart ⟨p4, c4, rl⟩ ⟨pu2, cu2, us⟩ := apart_new ho4 hW.us hdr.size
        have hoS := own_mono ho4 (Nat.le_trans (by have := hbS.size; omega : S ≤ wo.heap.size) hdr.size)
        clear hB hW hRz ho4 HN hb4
        go_wp2_with fail
        refine ⟨cls_mk (hB4.cell 2), HK.out _ _ ?_⟩
        clear HK K
        refine wpLate_one fun K hK => ?_
        have HK := Lib.hid hK; clear hK
        simp only [pick, List.getD_cons_succ, List.getD_cons_zero]
        refine wpQuiet_nil ?_
        have hal := (Below.refl w4.heap.size w4).alloc (Nat.le_refl _) (.cells #[.slice p4 rl.length c4] 23)
        have hL : Sl (w4.alloc (.cells #[.slice p4 rl.length c4] 23)) 1 (some ⟨w4.heap.size, 0, none⟩) 1 1 [.slice p4 rl.length c4] := ⟨new_row w4 _ _ _, rfl, Nat.le_refl _, by decide, fun h => by cases h⟩
        have hB5 := hB4.next hal; have hZ5 := hZ4.next hal; have hW5 := hW4.below hal; have hoS5 := own_below hoS hal
        have hbd5 := hbd.trans (hal.mono hge4)
        clear hB4 hZ4 hW4 hoS hbd hal
        go_wp2_with fail
        refine ⟨cls_mk (hB5.cell 2), HK.out _ _ ?_⟩
        clear HK K
        generalize w4.alloc (.cells #[.slice p4 rl.length c4] 23) = w5 at *
        generalize w4.heap.size = LB at *
        refine wpLate_one fun K hK => ?_
        have HK := Lib.hid hK; clear hK
        simp only [pick, List.getD_cons_succ, List.getD_cons_zero]
        refine wpQuiet_nil ?_
        have hrt := hW5.rt
        have hS5 : S ≤ w5.heap.size := by have h1 := hbd5.size; have h2 := hbS.size; omega
        dsimp only [Sv.val] at hrt
        go_wp2_with (refine wpList_append_own w5 rfl _ _ 24 rfl S 23 iR (.slice none 0 0) 1 24 Try.underlying24 hiR rz0 rz1 rz2 rfl (by decide) (.slice vp vl.length vc) vl.length (rwCells vl) rfl hrt ⟨LB, 0, none⟩ 1 1 [.slice p4 rl.length c4] rfl rfl (fun j u hj => by rw [add_lit']; exact hL.row.at_ hj) (by intro u hu; obtain rfl := List.mem_singleton.1 hu; rfl) (by unfold maxLen; omega) (by omega) hS5 ?_; intro v6 w6 hown hg _)
        go_frame
        obtain ⟨p6, c6, rfl, -, -⟩ := own_slice hown
        obtain ⟨vl2, hvl2, hlen2⟩ : ∃ vl2, vl2 = vl ++ [(⟨p4, c4, rl⟩ : Sv Int)] ∧ vl2.length = vl.length + 1 := ⟨_, rfl, by simp⟩
        have hcs2 : rwCells vl ++ [.slice p4 rl.length c4] = rwCells vl2 := by rw [hvl2]; simp [rwCells, rowCells]
        rw [hcs2, ← hlen2] at hown
        have hB6 : Blk w6 OB #[.slice pp2 pg.length cp2, .slice pu2 us.length cu2, .slice vp vl.length vc] 26 := (hg.block OB hB5.lt (fun e => by
          rcases own_blk hrt hB5 (by decide) with h | h
          · rw [h] at e; cases e
          · exact h e.symm)).trans hB5
        have hW6 : Ow w6 S ⟨⟨pp2, cp2, pg⟩, ⟨pu2, cu2, us⟩, ⟨p6, c6, vl2⟩⟩ := ⟨hW5.pg.kept hg (own_apart hW5.pg hrt (by decide)), hW5.us.kept hg (own_apart hW5.us hrt (by decide)), hown, fun s hs => by
          have hs : s ∈ vl2 := hs
          rw [hvl2] at hs
          rcases List.mem_append.1 hs with hs | hs
          · exact ⟨(hW5.each s hs).1.kept hg (own_apart (hW5.each s hs).1 hrt (by decide)), (hW5.each s hs).2⟩
          · obtain rfl := List.mem_singleton.1 hs
            exact ⟨hoS5.kept hg (own_apart hoS5 hrt (by decide)), hap4⟩⟩
        have hZ6 : Blk w6 (S + 1) #[.slice none 0 0, .slice none 0 0, .slice none 0 0] 26 := (hg.block (S + 1) hZ5.lt (fun e => by
          rcases own_blk hrt hZ5 (by decide) with h | h
          · rw [h] at e; cases e
          · exact h e.symm)).trans hZ5
        have hbl6 : Below S W w6 := by
          have h5 := hbS.trans (hbd5.mono (hbn ▸ hbS.size))
          exact h5.grown hg hS5 fun k hk => (hrt.lt k hk).1
        refine ⟨cls_mk (hB6.cell 2), HK.out _ _ ?_⟩
        clear HK K hB5 hZ5 hW5 hrt hg hL hoS5 hown hbS hbd5 hcs2
        refine wpLate_free fun K hK => ?_
        have HK := Lib.hid hK; clear hK
        simp only [pick, List.getD_cons_succ, List.getD_cons_zero]
        iterate 1 (go_big_quiet_step (fail))
        refine wpQuiet_nil ?_
        refine HK.out _ ?_
        clear HK K
        refine wpLate_late fun K hK => ?_
        have HK := Lib.hid hK; clear hK
        simp only [pick, List.getD_cons_succ, List.getD_cons_zero]
        refine wpQuiet_nil ?_
        have q2 : w6.cell? ⟨OB, 2, none⟩ = some (.slice vp vl.length vc) := hB6.cell 2
        have f2 := hB6.frozen 2
        go_wp2_with fail
        refine HK.out _ _ ?_
        clear HK K q2 f2
        refine wpPlan_last ?_
        simp only [pick]
        refine wpQuiet_nil ?_
        refine NoPanic.normal ?_
        have hB7 := hB6.set 2 (.slice p6 vl2.length c6)
        have hW7 := hW6.other hB6 (by decide) (by decide) (by decide) (grown_set w6 OB 2 (.slice p6 vl2.length c6))
        have hZ7 := hZ6.other (C := OB) (k := 2) (.slice p6 vl2.length c6) (by omega)
        have hb7 := hbl6.setCell (p := ⟨OB, 2, none⟩) (by show S ≤ OB; omega) (.slice p6 vl2.length c6)
        rw [hlen2] at hB7 hW7 hZ7 hb7
        clear hB6 hW6 hZ6 hbl6
        generalize w6.setCell ⟨OB, 2, none⟩ (.slice p6 (vl.length + 1) c6) = w7 at *
        have HM : Hid (vl2.map (·.l) = (rs.take (vl.length + 1)).map (·.l)) := by
          unfold Hid
          rw [hvl2, take_snoc_ HX.out, List.map_append, List.map_append, hm.out]
          rfl
        have HL2 := Lib.hid hlen2; clear hlen2 hvl2
        go_wp2_with fail
        go_roundw
        case rel =>
          refine ⟨vl.length + 1, ⟨p6, c6, vl2⟩, by omega, by go_num, hb7, hZ7, ?_, hW7, HM⟩
          show Blk w7 OB #[.slice pp2 pg.length cp2, .slice pu2 us.length cu2, .slice p6 vl2.length c6] _
          rw [HL2.out]
          exact hB7
        case measure => simp [intOf]; omega
      · have hk2 : vl.length = rs.length := by omega
        have hm2 := hm.out
        rw [hk2, List.take_length] at hm2
        have HM := Lib.hid hm2; clear hm2 hm
        have q0 : wr.cell? ⟨OB, 0, none⟩ = some (.slice pp2 pg.length cp2) := hB.cell 0
        have q1 : wr.cell? ⟨OB, 1, none⟩ = some (.slice pu2 us.length cu2) := hB.cell 1
        have q2 : wr.cell? ⟨OB, 2, none⟩ = some (.slice vp vl.length vc) := hB.cell 2
        have f0 := hRz.frozen 0; have f1 := hRz.frozen 1; have f2 := hRz.frozen 2
        have z0 : wr.cell? ⟨S + 1, 0, none⟩ = some (.slice none 0 0) := hRz.cell 0
        have z1 : wr.cell? ⟨S + 1, 1, none⟩ = some (.slice none 0 0) := hRz.cell 1
        have z2 : wr.cell? ⟨S + 1, 2, none⟩ = some (.slice none 0 0) := hRz.cell 2
        have HK2 := Lib.hid hk2; clear hk2
        go_wp2_with fail
        clear z0 z1 z2 f0 f1 f2 q0 q1 q2
        have hZ1 := hRz.set 0 (.slice pp2 pg.length cp2)
        have hZ2 := hZ1.set 1 (.slice pu2 us.length cu2)
        have hZ3 := hZ2.set 2 (.slice vp vl.length vc)
        have hW1 := hW.other hRz (by decide) (by decide) (by decide) (grown_set wr (S + 1) 0 (.slice pp2 pg.length cp2))
        have hW2 := hW1.other hZ1 (by decide) (by decide) (by decide) (grown_set _ (S + 1) 1 (.slice pu2 us.length cu2))
        have hW3 := hW2.other hZ2 (by decide) (by decide) (by decide) (grown_set _ (S + 1) 2 (.slice vp vl.length vc))
        have hb3 := ((hbS.setCell (p := ⟨S + 1, 0, none⟩) (by show S ≤ S + 1; omega) (.slice pp2 pg.length cp2)).setCell (p := ⟨S + 1, 1, none⟩) (by show S ≤ S + 1; omega) (.slice pu2 us.length cu2)).setCell (p := ⟨S + 1, 2, none⟩) (by show S ≤ S + 1; omega) (.slice vp vl.length vc)
        generalize ((wr.setCell ⟨S + 1, 0, none⟩ (.slice pp2 pg.length cp2)).setCell ⟨S + 1, 1, none⟩ (.slice pu2 us.length cu2)).setCell ⟨S + 1, 2, none⟩ (.slice vp vl.length vc) = wq at *
        have D0 : wq.cell? ⟨S + 1, 0, none⟩ = some (.slice pp2 pg.length cp2) := hZ3.cell 0
        have D1 : wq.cell? ⟨S + 1, 1, none⟩ = some (.slice pu2 us.length cu2) := hZ3.cell 1
        have D2 : wq.cell? ⟨S + 1, 2, none⟩ = some (.slice vp vl.length vc) := hZ3.cell 2
        refine bodyPost_ret (v := Ds.val ⟨⟨pp2, cp2, pg⟩, ⟨pu2, cu2, us⟩, ⟨vp, vc, vl⟩⟩) (by simp [results, Try.results15, go_sem, D0, D1, D2, Ds.val, Sv.val]) rfl ⟨_, rfl, ?_, hW3, hb3⟩
        show DsC.mk pg us (vl.map (·.l)) = DsC.mk pg us (rs.map (·.l))
        rw [HM.out]
end Go.Proofs.Ytcnppcddpcpeoaa
