/-
  page, Get, Shared.
-/
import Derived.Test.YtcnppcddpcpeoaaThere
namespace Go.Proofs.Ytcnppcddpcpeoaa
open Go.RowKit

theorem there_row {s : DsC} {root : Int} (ho : Ok s) (ht : There s root) : ∃ q : Nat, root = q ∧ q < s.roots.length ∧ (s.roots.getD q []).length = 16 ∧ rootOk s.pages.length (s.roots.getD q []) := by
  obtain ⟨h1, h2, h3⟩ := ht
  have hq : root.toNat < s.roots.length := by omega
  have hm : s.roots.getD root.toNat [] ∈ s.roots := by rw [List.getD_eq_getElem?_getD, List.getElem?_eq_getElem hq]; exact List.getElem_mem hq
  have hf := ho.form _ hm
  refine ⟨root.toNat, by omega, hq, ?_, hf⟩
  rcases hf.1 with h | h
  · exact absurd h h3
  · exact h

theorem zero_page : (.agg #[.int .i64 0, .int .i64 0, .int .i64 0, .int .i64 0] : Value) = Pg.zero.val := rfl

set_option maxHeartbeats 1000000 in
theorem page_any {W : World} {x : Ds} (hx : x.ok W) {q a : Nat} (hq : q < x.roots.l.length) (ha : a < 64) (h16 : (x.roots.l.getD q default).l.length = 16) (hro : rootOk x.pages.l.length (x.roots.l.getD q default).l) {g : Pg}
    (hg : pageOf x.c ((x.c.roots.getD q []).getD (a / 4) (-1)) = g) :
    Calls Try.prog 17 #[x.val, .int .i64 q, .int .i64 a] W fun e W' => e = .returned g.val ∧ Below W.heap.size W W' := by
  obtain ⟨⟨pp, cp, pg⟩, ⟨pu, cu, us⟩, ⟨pr, cr, rs⟩⟩ := x
  obtain ⟨hpg, hus, hrs⟩ := hx
  have hrl := hrs.le
  dsimp only at hpg hus hrs hrl hq h16 hro ⊢
  have hrow : (Ds.c ⟨⟨pp, cp, pg⟩, ⟨pu, cu, us⟩, ⟨pr, cr, rs⟩⟩).roots.getD q [] = (rs.getD q default).l := by simp [Ds.c, hq]
  rw [hrow] at hg
  clear hrow
  have hb0 := (Below.refl W.heap.size W).alloc (Nat.le_refl _) (.cells #[.slice pp pg.length cp, .slice pu us.length cu, .slice pr rs.length cr] 26)
  have hA0 := Blk.mk2 W #[.slice pp pg.length cp, .slice pu us.length cu, .slice pr rs.length cr] 26
  have hb1 := hb0.alloc hb0.size (.cells #[.int .i64 0, .int .i64 0, .int .i64 0, .int .i64 0] 38)
  have hA1 := hA0.alloc (.cells #[.int .i64 0, .int .i64 0, .int .i64 0, .int .i64 0] 38)
  have hZ1 := Blk.mk_ (W.alloc (.cells #[.slice pp pg.length cp, .slice pu us.length cu, .slice pr rs.length cr] 26)) #[.int .i64 0, .int .i64 0, .int .i64 0, .int .i64 0] 38 (by simp : _ = W.heap.size + 1)
  have hr1 := RdR.st _ _ _ hrs hb1
  have hp1 := RdPg.st _ _ _ hpg hb1
  obtain ⟨b, off, hp, hb, hc, hrd⟩ := hr1.at_ hq
  dsimp only at hp hc hrd
  generalize rs.getD q default = row at *
  obtain ⟨rp, rc, rl⟩ := row
  dsimp only [Sv.val] at hc hrd h16 hro hg
  obtain ⟨b2, o2, hp2, hb2, hc2⟩ := hrd.at_ (i := a / 4) (by show a / 4 < rl.length; omega)
  dsimp only at hp2 hc2
  have hmem : rl.getD (a / 4) 0 ∈ rl := by rw [List.getD_eq_getElem?_getD, List.getElem?_eq_getElem (by omega)]; exact List.getElem_mem _
  have hv := hro.2 _ hmem
  rw [show rl.getD (a / 4) (-1) = rl.getD (a / 4) 0 from by simp [show a / 4 < rl.length by omega]] at hg
  generalize rl.getD (a / 4) 0 = v at *
  subst hp hp2
  clear hmem hro hb0 hA0
  have H16 := Lib.hid h16; clear h16
  have hrl16 : rl.length ≤ 16 ∧ 16 ≤ rl.length := by have := H16.out; omega
  by_cases h0 : 0 ≤ v
  · obtain ⟨n, rfl⟩ : ∃ n : Nat, v = n := ⟨v.toNat, by omega⟩
    have hn : n < pg.length := by omega
    have hpl := hpg.le
    dsimp only at hpl
    obtain ⟨b3, o3, hp3, hb3, hc3⟩ := hp1.at_ (fun _ => rfl) (by omega) hn default
    dsimp only at hp3
    unfold pageOf at hg
    rw [if_pos h0, Int.toNat_natCast] at hg
    have hg2 : pg.getD n default = g := hg
    rw [hg2] at hc3
    obtain ⟨xa, xb, xc, xd⟩ := g
    have c0 := hc3 0 _ rfl; have c1 := hc3 1 _ rfl; have c2 := hc3 2 _ rfl; have c3 := hc3 3 _ rfl
    dsimp only at c0 c1 c2 c3
    rw [Nat.add_zero] at c0
    have k0 : decide ((0 : Int) ≤ n) = true := by simp
    subst hp3
    clear hc3 hg hg2 hv
    generalize hbn : W.heap.size = S at *
    have Z0 := hZ1.frozen 0; have Z1 := hZ1.frozen 1; have Z2 := hZ1.frozen 2; have Z3 := hZ1.frozen 3
    go_enter Try.func17, Try.ntmps17
    refine wp_seq_k fun K hK => ?_
    have HK := Lib.hid hK; clear hK
    go_wp2_with fail
    refine HK.out _ _ ?_
    clear HK K
    have A0 := hA1.cell 0; have A2 := hA1.cell 2
    go_wp2_with fail
    refine bodyPost_ret (v := Pg.val ⟨xa, xb, xc, xd⟩) (by simp [results, Try.results17, go_sem, hbn, Pg.val]) rfl ⟨rfl, ?_⟩
    rw [← hbn]
    exact ((Below.refl W.heap.size W).alloc (Nat.le_refl _) _).alloc (by simp) _
  · have k0 : decide ((0 : Int) ≤ v) = false := by simpa using h0
    unfold pageOf at hg
    rw [if_neg h0] at hg
    subst hg
    clear h0 hv
    generalize hbn : W.heap.size = S at *
    have Z0 := hZ1.frozen 0; have Z1 := hZ1.frozen 1; have Z2 := hZ1.frozen 2; have Z3 := hZ1.frozen 3
    go_enter Try.func17, Try.ntmps17
    refine wp_seq_k fun K hK => ?_
    have HK := Lib.hid hK; clear hK
    go_wp2_with fail
    refine HK.out _ _ ?_
    clear HK K
    have A0 := hA1.cell 0; have A2 := hA1.cell 2
    go_wp2_with fail
    refine bodyPost_ret (v := Pg.val ⟨0, 0, 0, 0⟩) (by simp [results, Try.results17, go_sem, hbn, Pg.val]) rfl ⟨rfl, ?_⟩
    rw [← hbn]
    exact ((Below.refl W.heap.size W).alloc (Nat.le_refl _) _).alloc (by simp) _

theorem getC_ {s : DsC} {root at_ : Int} (h : askedC s root at_ = 0) : ∃ q a : Nat, root = q ∧ at_ = a ∧ a < 64 ∧ q < s.roots.length ∧ (s.roots.getD q []).length = 16 ∧ rootOk s.pages.length (s.roots.getD q []) := by
  obtain ⟨h1, h2, h3, h4⟩ := askedC_zero.1 h
  obtain ⟨q, e, hq, h16, hro⟩ := there_row h1 h2
  exact ⟨q, at_.toNat, e, by omega, by omega, hq, h16, hro⟩
/-- What Get answers beside its error. -/
noncomputable def getC (s : DsC) (root at_ : Int) : Int := if askedC s root at_ = 0 then valC s root.toNat at_.toNat else 0

set_option maxHeartbeats 2000000 in
theorem get_any {W : World} {x : Ds} (hx : x.ok W) (root at_ : Int) {r v : Int} (hr : askedC x.c root at_ = r) (hv : getC x.c root at_ = v) :
    Calls Try.prog 9 #[x.val, .int .i64 root, .int .i64 at_] W fun e W' => e = .returned (.tuple #[.int .i64 v, .int .i64 r]) ∧ Below W.heap.size W W' := by
  obtain ⟨⟨pp, cp, pg⟩, ⟨pu, cu, us⟩, ⟨pr, cr, rs⟩⟩ := x
  have hb0 := (Below.refl W.heap.size W).alloc (Nat.le_refl _) (.cells #[.slice pp pg.length cp, .slice pu us.length cu, .slice pr rs.length cr] 26)
  have hA0 := Blk.mk2 W #[.slice pp pg.length cp, .slice pu us.length cu, .slice pr rs.length cr] 26
  generalize hbn : W.heap.size = S at *
  have hxx := hx
  have hr0 := hr
  generalize hs : Ds.c ⟨⟨pp, cp, pg⟩, ⟨pu, cu, us⟩, ⟨pr, cr, rs⟩⟩ = s at *
  have HS := Lib.hid hs
  have HR := Lib.hid hr; have HV := Lib.hid hv; clear hr hv
  have hcall := fun W' hb => asked_any (W := W') (Ds.ok.st _ _ _ hxx hb) root at_ (r := r) (by rw [hs]; exact hr0)
  have HC := Lib.hid hcall; clear hcall hs hr0
  go_enter Try.func9, Try.ntmps9
  refine wp_seq_k fun K hK => ?_
  have HK := Lib.hid hK; clear hK
  go_wp2_with fail
  refine HK.out _ _ ?_
  clear HK K
  generalize W.alloc (.cells #[.slice pp pg.length cp, .slice pu us.length cu, .slice pr rs.length cr] 26) = w1 at *
  have A0 : w1.cell? ⟨S, 0, none⟩ = some (.slice pp pg.length cp) := hA0.cell 0
  have A1 : w1.cell? ⟨S, 1, none⟩ = some (.slice pu us.length cu) := hA0.cell 1
  have A2 : w1.cell? ⟨S, 2, none⟩ = some (.slice pr rs.length cr) := hA0.cell 2
  have hc := HC.out w1 (hbn ▸ hb0)
  have HC1 := Lib.hid hc; clear hc HC
  go_wp2_with fail
  refine HC1.out.mono ?_
  rintro _ w2 ⟨rfl, hb⟩
  have hb2 := hb0.trans (hb.mono (hbn ▸ hb0.size))
  have hA2 := hA0.next hb
  clear A0 A1 A2 HC1
  have hv := HV.out
  unfold getC at hv
  rw [HR.out] at hv
  rcases (Classical.em (r = 0)).symm with h0 | h0
  · rw [if_neg h0] at hv
    subst hv
    have k1 : (r != 0) = true := by simpa using h0
    clear h0
    go_wp2_with fail
    go_ret2
    exact ⟨rfl, hb2⟩
  · subst h0
    rw [if_pos rfl] at hv
    obtain ⟨q, a, rfl, rfl, ha, hq, h16, hro⟩ := getC_ HR.out
    rw [Int.toNat_natCast, Int.toNat_natCast] at hv
    have A0 : w2.cell? ⟨S, 0, none⟩ = some (.slice pp pg.length cp) := hA2.cell 0
    have A1 : w2.cell? ⟨S, 1, none⟩ = some (.slice pu us.length cu) := hA2.cell 1
    have A2 : w2.cell? ⟨S, 2, none⟩ = some (.slice pr rs.length cr) := hA2.cell 2
    have hs := HS.out
    have hq2 : q < rs.length := by rw [← hs] at hq; simpa [Ds.c] using hq
    have hrow : s.roots.getD q [] = (rs.getD q default).l := by rw [← hs]; simp [Ds.c, hq2]
    have hpgl : s.pages.length = pg.length := by rw [← hs]; rfl
    have hpc := page_any (Ds.ok.st _ _ _ hxx (hbn ▸ hb2)) (q := q) (a := a) hq2 ha (by rw [← hrow]; exact h16) (by rw [← hrow, ← hpgl]; exact hro) rfl
    rw [hs] at hpc
    unfold valC at hv
    have hj : a % 4 = 0 ∨ a % 4 = 1 ∨ a % 4 = 2 ∨ a % 4 = 3 := by omega
    generalize pageOf s ((s.roots.getD q []).getD (a / 4) (-1)) = g at *
    obtain ⟨xa, xb, xc, xd⟩ := g
    have HPC := Lib.hid hpc
    clear hpc hq h16 hro hrow hpgl hs
    have i0 : ∀ w, (Instr.index 38 (.agg #[.int .i64 xa, .int .i64 xb, .int .i64 xc, .int .i64 xd]) (.int .i64 0)).run Try.prog w = .ok (.int .i64 xa) w := fun _ => by kernel_rfl
    have i1 : ∀ w, (Instr.index 38 (.agg #[.int .i64 xa, .int .i64 xb, .int .i64 xc, .int .i64 xd]) (.int .i64 1)).run Try.prog w = .ok (.int .i64 xb) w := fun _ => by kernel_rfl
    have i2 : ∀ w, (Instr.index 38 (.agg #[.int .i64 xa, .int .i64 xb, .int .i64 xc, .int .i64 xd]) (.int .i64 2)).run Try.prog w = .ok (.int .i64 xc) w := fun _ => by kernel_rfl
    have i3 : ∀ w, (Instr.index 38 (.agg #[.int .i64 xa, .int .i64 xb, .int .i64 xc, .int .i64 xd]) (.int .i64 3)).run Try.prog w = .ok (.int .i64 xd) w := fun _ => by kernel_rfl
    rcases hj with hj | hj | hj | hj
    all_goals
      rw [hj] at hv
      have hv : _ = v := hv
      dsimp only [Pg.get] at hv
      subst hv
      have hm : (a : Int) % 4 = ((a % 4 : Nat) : Int) := by omega
      rw [hj] at hm
      clear hj
      go_wp2_with (go_at_call 17; refine HPC.out.mono ?_; rintro _ w3 ⟨rfl, hb3⟩)
      go_ret2
      exact ⟨rfl, hb2.trans (hb3.mono (hbn ▸ hb2.size))⟩
end Go.Proofs.Ytcnppcddpcpeoaa
