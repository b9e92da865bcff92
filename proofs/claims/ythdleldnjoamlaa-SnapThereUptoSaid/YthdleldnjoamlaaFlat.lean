/-
  A state written.
-/
import Derived.Test.YthdleldnjoamlaaOne
namespace Go.Proofs.Ythdleldnjoamlaa
open Go.RowKit

set_option maxRecDepth 100000 in
set_option maxHeartbeats 4000000 in
theorem Flat_any {W : World} (x : St) (hok : St.ok W x) (hl : (StC.e x.c).length ≤ 40000000) :
    Calls Try.prog 7 #[x.val] W fun r W' => ∃ p c, r = .returned (.slice p (StC.e x.c).length c) ∧ OwnI W' W.heap.size p c (StC.e x.c) ∧ Below W.heap.size W W' := by
  obtain ⟨⟨p1, c1, l1⟩, ⟨p2, c2, l2⟩, ⟨p3, c3, l3⟩, ⟨p4, c4, l4⟩, ⟨p5, c5, l5⟩, ⟨p6, c6, l6⟩, asked, steps⟩ := x
  have he : StC.e (St.c ⟨⟨p1, c1, l1⟩, ⟨p2, c2, l2⟩, ⟨p3, c3, l3⟩, ⟨p4, c4, l4⟩, ⟨p5, c5, l5⟩, ⟨p6, c6, l6⟩, asked, steps⟩) = ((((((encL (fun x : Ce => CeC.e x.c) l1) ++ encL Sh.e l2) ++ encL (fun x => txE (txC x)) l3) ++ encL (fun x : Th => ThC.e x.c) l4) ++ encL En.e l5) ++ encL Vl.e l6) ++ [asked, steps] := by
    show encL CeC.e (l1.map Ce.c) ++ (encL Sh.e l2 ++ (encL txE (l3.map txC) ++ (encL ThC.e (l4.map Th.c) ++ (encL En.e l5 ++ (encL Vl.e l6 ++ [asked, steps]))))) = _
    rw [encL_map, encL_map, encL_map]
    simp only [List.append_assoc]
    rfl
  have hst : ∀ W', Below W.heap.size W W' → St.ok W' ⟨⟨p1, c1, l1⟩, ⟨p2, c2, l2⟩, ⟨p3, c3, l3⟩, ⟨p4, c4, l4⟩, ⟨p5, c5, l5⟩, ⟨p6, c6, l6⟩, asked, steps⟩ := fun W' h => St.ok.st _ _ _ hok h
  rw [he] at hl ⊢
  clear hok he
  have b1 : ([] : List Int).length + (encL (fun x : Ce => CeC.e x.c) l1).length ≤ 50000000 := by simp only [List.length_append, List.length_nil] at hl ⊢; omega
  have b2 : (encL (fun x : Ce => CeC.e x.c) l1).length + (encL Sh.e l2).length ≤ 50000000 := by simp only [List.length_append] at hl ⊢; omega
  have b3 : ((encL (fun x : Ce => CeC.e x.c) l1) ++ encL Sh.e l2).length + (encL (fun x => txE (txC x)) l3).length ≤ 50000000 := by simp only [List.length_append] at hl ⊢; omega
  have b4 : (((encL (fun x : Ce => CeC.e x.c) l1) ++ encL Sh.e l2) ++ encL (fun x => txE (txC x)) l3).length + (encL (fun x : Th => ThC.e x.c) l4).length ≤ 50000000 := by simp only [List.length_append] at hl ⊢; omega
  have b5 : ((((encL (fun x : Ce => CeC.e x.c) l1) ++ encL Sh.e l2) ++ encL (fun x => txE (txC x)) l3) ++ encL (fun x : Th => ThC.e x.c) l4).length + (encL En.e l5).length ≤ 50000000 := by simp only [List.length_append] at hl ⊢; omega
  have b6 : (((((encL (fun x : Ce => CeC.e x.c) l1) ++ encL Sh.e l2) ++ encL (fun x => txE (txC x)) l3) ++ encL (fun x : Th => ThC.e x.c) l4) ++ encL En.e l5).length + (encL Vl.e l6).length ≤ 50000000 := by simp only [List.length_append] at hl ⊢; omega
  have b7 : ((((((encL (fun x : Ce => CeC.e x.c) l1) ++ encL Sh.e l2) ++ encL (fun x => txE (txC x)) l3) ++ encL (fun x : Th => ThC.e x.c) l4) ++ encL En.e l5) ++ encL Vl.e l6).length + 2 ≤ 50000000 := by simp only [List.length_append, List.length_cons, List.length_nil] at hl ⊢; omega
  have HS := Lib.hid hst; have HB1 := Lib.hid b1; have HB2 := Lib.hid b2; have HB3 := Lib.hid b3; have HB4 := Lib.hid b4; have HB5 := Lib.hid b5; have HB6 := Lib.hid b6; have HB7 := Lib.hid b7; clear hst hl b1 b2 b3 b4 b5 b6 b7
  have hb3 := (((Below.refl W.heap.size W).alloc (Nat.le_refl _) (.cells #[.slice p1 l1.length c1, .slice p2 l2.length c2, .slice p3 l3.length c3, .slice p4 l4.length c4, .slice p5 l5.length c5, .slice p6 l6.length c6, .int .i64 asked, .int .i64 steps] 29)).alloc (by simp) (.cells #[.slice none 0 0] 48)).alloc (by simp; omega) (.cells #[.pointer (some ⟨W.heap.size + 1, 0, none⟩)] 46)
  have hB0 := ((Blk.mk2 W #[.slice p1 l1.length c1, .slice p2 l2.length c2, .slice p3 l3.length c3, .slice p4 l4.length c4, .slice p5 l5.length c5, .slice p6 l6.length c6, .int .i64 asked, .int .i64 steps] 29).alloc (.cells #[.slice none 0 0] 48)).alloc (.cells #[.pointer (some ⟨W.heap.size + 1, 0, none⟩)] 46)
  have hw0 : WrI (W.heap.size + 1) (((W.alloc (.cells #[.slice p1 l1.length c1, .slice p2 l2.length c2, .slice p3 l3.length c3, .slice p4 l4.length c4, .slice p5 l5.length c5, .slice p6 l6.length c6, .int .i64 asked, .int .i64 steps] 29)).alloc (.cells #[.slice none 0 0] 48)).alloc (.cells #[.pointer (some ⟨W.heap.size + 1, 0, none⟩)] 46)) [] := ⟨none, 0, (Blk.mk_ (W.alloc (.cells #[.slice p1 l1.length c1, .slice p2 l2.length c2, .slice p3 l3.length c3, .slice p4 l4.length c4, .slice p5 l5.length c5, .slice p6 l6.length c6, .int .i64 asked, .int .i64 steps] 29)) #[.slice none 0 0] 48 (by simp)).alloc _, World.ownsRow_nil _ _ _ _⟩
  have hC : Blk (((W.alloc (.cells #[.slice p1 l1.length c1, .slice p2 l2.length c2, .slice p3 l3.length c3, .slice p4 l4.length c4, .slice p5 l5.length c5, .slice p6 l6.length c6, .int .i64 asked, .int .i64 steps] 29)).alloc (.cells #[.slice none 0 0] 48)).alloc (.cells #[.pointer (some ⟨W.heap.size + 1, 0, none⟩)] 46)) (W.heap.size + 1 + 1) #[.pointer (some ⟨W.heap.size + 1, 0, none⟩)] 46 := Blk.mk_ _ _ _ (by simp)
  generalize hbn : W.heap.size = B at *
  go_enter Try.func7, Try.ntmps7
  go_wp2_with fail
  dsimp only [Sv.val] at *
  generalize ((W.alloc (.cells #[.slice p1 l1.length c1, .slice p2 l2.length c2, .slice p3 l3.length c3, .slice p4 l4.length c4, .slice p5 l5.length c5, .slice p6 l6.length c6, .int .i64 asked, .int .i64 steps] 29)).alloc (.cells #[.slice none 0 0] 48)).alloc (.cells #[.pointer (some ⟨B + 1, 0, none⟩)] 46) = W0 at *
  have hk0 := Kp.refl (B + 1) W0
  have hv := many_Ce (s := ⟨p1, c1, l1⟩) hw0 (fun W' h => (HS.out W' (hb3.trans ((hk0.trans h).bel.mono (Nat.le_succ _)))).cells) (cell_one (B + 1) W0) HB1.out
  dsimp only [Sv.val] at hv
  refine hv.mono ?_
  rintro _ W1 ⟨rfl, hw1, hk⟩
  have hk1 := hk0.trans hk
  replace hB0 := hk.blk _ _ _ hB0 (by decide) (by decide)
  replace hC := hk.blk _ _ _ hC (by decide) (by decide)
  clear hv hk hk0 hw0
  rw [List.nil_append] at hw1
  have hv := many_Sh (s := ⟨p2, c2, l2⟩) hw1 (fun W' h => (HS.out W' (hb3.trans ((hk1.trans h).bel.mono (Nat.le_succ _)))).shapes) (shape_one hC) HB2.out
  dsimp only [Sv.val] at hv
  have cC : W1.cell? ⟨B + 1 + 1, 0, none⟩ = some (.pointer (some ⟨B + 1, 0, none⟩)) := hC.cell 0
  have cf : W1.cell? ⟨B, 1, none⟩ = some (.slice p2 l2.length c2) := hB0.cell 1
  go_wp2_with fail
  refine hv.mono ?_
  rintro _ W2 ⟨rfl, hw2, hk⟩
  have hk2 := hk1.trans hk
  replace hB0 := hk.blk _ _ _ hB0 (by decide) (by decide)
  replace hC := hk.blk _ _ _ hC (by decide) (by decide)
  clear hv hk hk1 hw1 cC cf
  have hv := many_Tx (s := ⟨p3, c3, l3⟩) hw2 (fun W' h => (HS.out W' (hb3.trans ((hk2.trans h).bel.mono (Nat.le_succ _)))).texts) (text_one (B + 1) W2) HB3.out
  dsimp only [Sv.val] at hv
  have cC : W2.cell? ⟨B + 1 + 1, 0, none⟩ = some (.pointer (some ⟨B + 1, 0, none⟩)) := hC.cell 0
  have cf : W2.cell? ⟨B, 2, none⟩ = some (.slice p3 l3.length c3) := hB0.cell 2
  go_wp2_with fail
  refine hv.mono ?_
  rintro _ W3 ⟨rfl, hw3, hk⟩
  have hk3 := hk2.trans hk
  replace hB0 := hk.blk _ _ _ hB0 (by decide) (by decide)
  replace hC := hk.blk _ _ _ hC (by decide) (by decide)
  clear hv hk hk2 hw2 cC cf
  have hv := many_Th (s := ⟨p4, c4, l4⟩) hw3 (fun W' h => (HS.out W' (hb3.trans ((hk3.trans h).bel.mono (Nat.le_succ _)))).threads) (thread_one (B + 1) W3) HB4.out
  dsimp only [Sv.val] at hv
  have cC : W3.cell? ⟨B + 1 + 1, 0, none⟩ = some (.pointer (some ⟨B + 1, 0, none⟩)) := hC.cell 0
  have cf : W3.cell? ⟨B, 3, none⟩ = some (.slice p4 l4.length c4) := hB0.cell 3
  go_wp2_with fail
  refine hv.mono ?_
  rintro _ W4 ⟨rfl, hw4, hk⟩
  have hk4 := hk3.trans hk
  replace hB0 := hk.blk _ _ _ hB0 (by decide) (by decide)
  replace hC := hk.blk _ _ _ hC (by decide) (by decide)
  clear hv hk hk3 hw3 cC cf
  have hv := many_En (s := ⟨p5, c5, l5⟩) hw4 (fun W' h => (HS.out W' (hb3.trans ((hk4.trans h).bel.mono (Nat.le_succ _)))).ends) (end_one (B + 1) W4) HB5.out
  dsimp only [Sv.val] at hv
  have cC : W4.cell? ⟨B + 1 + 1, 0, none⟩ = some (.pointer (some ⟨B + 1, 0, none⟩)) := hC.cell 0
  have cf : W4.cell? ⟨B, 4, none⟩ = some (.slice p5 l5.length c5) := hB0.cell 4
  go_wp2_with fail
  refine hv.mono ?_
  rintro _ W5 ⟨rfl, hw5, hk⟩
  have hk5 := hk4.trans hk
  replace hB0 := hk.blk _ _ _ hB0 (by decide) (by decide)
  replace hC := hk.blk _ _ _ hC (by decide) (by decide)
  clear hv hk hk4 hw4 cC cf
  have hv := many_Vl (s := ⟨p6, c6, l6⟩) hw5 (fun W' h => (HS.out W' (hb3.trans ((hk5.trans h).bel.mono (Nat.le_succ _)))).said) (val_one (B + 1) W5) HB6.out
  dsimp only [Sv.val] at hv
  have cC : W5.cell? ⟨B + 1 + 1, 0, none⟩ = some (.pointer (some ⟨B + 1, 0, none⟩)) := hC.cell 0
  have cf : W5.cell? ⟨B, 5, none⟩ = some (.slice p6 l6.length c6) := hB0.cell 5
  go_wp2_with fail
  refine hv.mono ?_
  rintro _ W6 ⟨rfl, hw6, hk⟩
  have hk6 := hk5.trans hk
  replace hB0 := hk.blk _ _ _ hB0 (by decide) (by decide)
  replace hC := hk.blk _ _ _ hC (by decide) (by decide)
  clear hv hk hk5 hw5 cC cf
  have cC : W6.cell? ⟨B + 1 + 1, 0, none⟩ = some (.pointer (some ⟨B + 1, 0, none⟩)) := hC.cell 0
  have cf : W6.cell? ⟨B, 6, none⟩ = some (.int .i64 asked) := hB0.cell 6
  have cg : W6.cell? ⟨B, 7, none⟩ = some (.int .i64 steps) := hB0.cell 7
  have hv := put_lit [asked, steps] #[.int .i64 asked, .int .i64 steps] rfl hw6 (by simp) (by have := HB7.out; simpa using this) 2 W6.heap.size rfl rfl
  go_wp2_with fail
  refine hv.mono ?_
  rintro _ W7 ⟨rfl, hw7, hk⟩
  have hk7 := hk6.trans hk
  replace hC := hk.blk _ _ _ hC (by decide) (by decide)
  clear hv hk hk6 hw6 cC cf cg hB0
  have cC : W7.cell? ⟨B + 1 + 1, 0, none⟩ = some (.pointer (some ⟨B + 1, 0, none⟩)) := hC.cell 0
  obtain ⟨p, c, hBw, hrow⟩ := hw7
  have cw := hBw.cell 0
  change W7.cell? ⟨B + 1, 0, none⟩ = some (.slice p _ c) at cw
  obtain ⟨R, hR⟩ : ∃ R, ((((((encL (fun x : Ce => CeC.e x.c) l1) ++ encL Sh.e l2) ++ encL (fun x => txE (txC x)) l3) ++ encL (fun x : Th => ThC.e x.c) l4) ++ encL En.e l5) ++ encL Vl.e l6) ++ [asked, steps] = R := ⟨_, rfl⟩
  rw [hR] at hrow hBw cw
  have HR := Lib.hid hR; clear hR
  go_wp2_with fail
  go_ret
  rw [HR.out]
  exact ⟨p, c, rfl, own_mono (base := B + 1 + 1) (base' := B) hrow (by omega), hb3.trans (hk7.bel.mono (Nat.le_succ _))⟩
end Go.Proofs.Ythdleldnjoamlaa
