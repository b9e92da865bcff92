/-
  A state read.
-/
import Derived.Test.YthdleldnjoamlaaText
namespace Go.Proofs.Ythdleldnjoamlaa
open Go.RowKit

theorem Gb.set {A : Nat} {a b : World} (h : Below A a b) (B i : Nat) (v : Value) (hB : A ≤ B) : Below A a (b.setCell ⟨B, i, none⟩ v) := h.setCell (p := ⟨B, i, none⟩) hB v
theorem Gb.g {A rp : Nat} {a b c : World} (h : Below A a b) (k : G rp b c) (hA : A ≤ rp) (hs : A ≤ b.heap.size) : Below A a c := h.grown k hs (fun r e => by cases e; exact hA)
set_option maxRecDepth 100000 in
set_option maxHeartbeats 4000000 in
theorem Back_any {W : World} {p : Option Addr} {cap : Nat} {l : List Int} (hR : SlI W p cap l) (x : StC) (hx : l = StC.e x) (hl : l.length ≤ 40000000) :
    Calls Try.prog 8 #[.slice p l.length cap] W fun res W' => ∃ y : St, res = .returned (.tuple #[y.val, .int .i64 0]) ∧ y.c = x ∧ St.ok W' y ∧ Below W.heap.size W W' := by
  obtain ⟨k1, k2, k3, k4, k5, k6, asked, steps⟩ := x
  have hx2 : l = (encL CeC.e k1 ++ (encL Sh.e k2 ++ (encL txE k3 ++ (encL ThC.e k4 ++ (encL En.e k5 ++ (encL Vl.e k6 ++ [asked, steps])))))) := by rw [hx]; rfl
  have hpos : 0 < l.length := by rw [hx2]; simp [encL]
  have hl0 : (encL CeC.e k1 ++ (encL Sh.e k2 ++ (encL txE k3 ++ (encL ThC.e k4 ++ (encL En.e k5 ++ (encL Vl.e k6 ++ [asked, steps])))))).length ≤ 50000000 := by rw [← hx2]; omega
  have hl1 : (encL Sh.e k2 ++ (encL txE k3 ++ (encL ThC.e k4 ++ (encL En.e k5 ++ (encL Vl.e k6 ++ [asked, steps]))))).length ≤ 50000000 := by have := hl0; rw [List.length_append] at this; omega
  have hl2 : (encL txE k3 ++ (encL ThC.e k4 ++ (encL En.e k5 ++ (encL Vl.e k6 ++ [asked, steps])))).length ≤ 50000000 := by have := hl1; rw [List.length_append] at this; omega
  have hl3 : (encL ThC.e k4 ++ (encL En.e k5 ++ (encL Vl.e k6 ++ [asked, steps]))).length ≤ 50000000 := by have := hl2; rw [List.length_append] at this; omega
  have hl4 : (encL En.e k5 ++ (encL Vl.e k6 ++ [asked, steps])).length ≤ 50000000 := by have := hl3; rw [List.length_append] at this; omega
  have hl5 : (encL Vl.e k6 ++ [asked, steps]).length ≤ 50000000 := by have := hl4; rw [List.length_append] at this; omega
  have HL0 := Lib.hid hl0; have HL1 := Lib.hid hl1; have HL2 := Lib.hid hl2; have HL3 := Lib.hid hl3; have HL4 := Lib.hid hl4; have HL5 := Lib.hid hl5; clear hl0 hl1 hl2 hl3 hl4 hl5
  obtain ⟨b0, o0, hpe, hb0, -⟩ := Sl.int_at hR hpos
  have hb3 := (((Below.refl W.heap.size W).alloc (Nat.le_refl _) (.cells #[.slice none 0 0, .slice none 0 0, .slice none 0 0, .slice none 0 0, .slice none 0 0, .slice none 0 0, .int .i64 0, .int .i64 0] 29)).alloc (by simp) (.cells #[.slice p l.length cap, .bool false] 75)).alloc (by simp; omega) (.cells #[.slice none 0 0, .slice none 0 0, .slice none 0 0, .slice none 0 0, .slice none 0 0, .slice none 0 0, .int .i64 0, .int .i64 0] 29)
  have hA0 : Blk (((W.alloc (.cells #[.slice none 0 0, .slice none 0 0, .slice none 0 0, .slice none 0 0, .slice none 0 0, .slice none 0 0, .int .i64 0, .int .i64 0] 29)).alloc (.cells #[.slice p l.length cap, .bool false] 75)).alloc (.cells #[.slice none 0 0, .slice none 0 0, .slice none 0 0, .slice none 0 0, .slice none 0 0, .slice none 0 0, .int .i64 0, .int .i64 0] 29)) W.heap.size #[.slice none 0 0, .slice none 0 0, .slice none 0 0, .slice none 0 0, .slice none 0 0, .slice none 0 0, .int .i64 0, .int .i64 0] 29 := ((Blk.mk2 W #[.slice none 0 0, .slice none 0 0, .slice none 0 0, .slice none 0 0, .slice none 0 0, .slice none 0 0, .int .i64 0, .int .i64 0] 29).alloc _).alloc _
  have hB0 : Blk (((W.alloc (.cells #[.slice none 0 0, .slice none 0 0, .slice none 0 0, .slice none 0 0, .slice none 0 0, .slice none 0 0, .int .i64 0, .int .i64 0] 29)).alloc (.cells #[.slice p l.length cap, .bool false] 75)).alloc (.cells #[.slice none 0 0, .slice none 0 0, .slice none 0 0, .slice none 0 0, .slice none 0 0, .slice none 0 0, .int .i64 0, .int .i64 0] 29)) (W.heap.size + 1 + 1) #[.slice none 0 0, .slice none 0 0, .slice none 0 0, .slice none 0 0, .slice none 0 0, .slice none 0 0, .int .i64 0, .int .i64 0] 29 := Blk.mk_ _ _ _ (by simp)
  have hr0 : RdrI (W.heap.size + 1) (((W.alloc (.cells #[.slice none 0 0, .slice none 0 0, .slice none 0 0, .slice none 0 0, .slice none 0 0, .slice none 0 0, .int .i64 0, .int .i64 0] 29)).alloc (.cells #[.slice p l.length cap, .bool false] 75)).alloc (.cells #[.slice none 0 0, .slice none 0 0, .slice none 0 0, .slice none 0 0, .slice none 0 0, .slice none 0 0, .int .i64 0, .int .i64 0] 29)) (encL CeC.e k1 ++ (encL Sh.e k2 ++ (encL txE k3 ++ (encL ThC.e k4 ++ (encL En.e k5 ++ (encL Vl.e k6 ++ [asked, steps])))))) := by
    rw [← hx2]
    exact ⟨p, cap, (Blk.mk_ (W.alloc (.cells #[.slice none 0 0, .slice none 0 0, .slice none 0 0, .slice none 0 0, .slice none 0 0, .slice none 0 0, .int .i64 0, .int .i64 0] 29)) #[.slice p l.length cap, .bool false] 75 (by simp)).alloc _, hR.below hb3, fun a ha => by rw [hpe] at ha; cases ha; show b0 < _; omega⟩
  clear hx hx2 hl hpe hb0 hpos
  generalize hbn : W.heap.size = A at *
  go_enter Try.func8, Try.ntmps8
  go_wp2_with fail
  generalize (((W.alloc (.cells #[.slice none 0 0, .slice none 0 0, .slice none 0 0, .slice none 0 0, .slice none 0 0, .slice none 0 0, .int .i64 0, .int .i64 0] 29)).alloc (.cells #[.slice p l.length cap, .bool false] 75)).alloc (.cells #[.slice none 0 0, .slice none 0 0, .slice none 0 0, .slice none 0 0, .slice none 0 0, .slice none 0 0, .int .i64 0, .int .i64 0] 29)) = W0 at *
  have hg0 := Below.refl A W0
  have hs0 : A ≤ W0.heap.size := Nat.le_of_lt hA0.lt
  have hn := some_Ce hr0 (cellR_one (A + 1)) HL0.out
  refine hn.mono ?_
  rintro _ W1 ⟨⟨p1, c1, l1⟩, rfl, hs, hr1, hk0, hg⟩
  dsimp only at hs
  subst hs
  dsimp only [Sv.val] at *
  have HP1 := Lib.hid hk0; clear hk0
  have hB1 := hg.blk hB0 (by omega)
  have hA1 := hg.blk hA0 (by omega)
  have hg1 := Gb.g hg0 hg (Nat.le_succ _) (Nat.le_trans hs0 hg0.size)
  clear hn hg hB0 hA0 hg0 hr0
  have q : W1.cell? ⟨A + 1 + 1, 0, none⟩ = some (.slice none 0 0) := hB1.cell 0
  have f := hB1.frozen 0
  have hB2 : Blk (W1.setCell ⟨A + 1 + 1, 0, none⟩ (.slice p1 l1.length c1)) (A + 1 + 1) #[.slice p1 l1.length c1, .slice none 0 0, .slice none 0 0, .slice none 0 0, .slice none 0 0, .slice none 0 0, .int .i64 0, .int .i64 0] 29 := (hB1.setL 0 (.slice p1 l1.length c1))
  have hA2 := hA1.other (C := A + 1 + 1) (k := 0) (.slice p1 l1.length c1) (by omega)
  have hr2 := (hr1.setNew (B := A + 1 + 1) (by omega) (.slice p1 l1.length c1) 0)
  have hg2 := Gb.set hg1 (A + 1 + 1) 0 (.slice p1 l1.length c1) (by omega)
  have hk := HP1.out; clear HP1
  replace hk := fun V3 (h3 : KT S2 (W1.setCell ⟨A + 1 + 1, 0, none⟩ (.slice p1 l1.length c1)) V3) => hk V3 (((KT.set (KT.refl S2 W1) (hB1) (by decide) 0 (.slice p1 l1.length c1))).trans h3)
  have HP1 := Lib.hid hk; clear hk
  have hn := some_Sh hr2 (shapeR_one (A + 1) _) HL1.out
  go_wp2_with fail
  generalize (W1.setCell ⟨A + 1 + 1, 0, none⟩ (.slice p1 l1.length c1)) = W2 at *
  refine hn.mono ?_
  rintro _ W3 ⟨⟨p2, c2, l2⟩, rfl, hs, hr3, hk0, hg⟩
  rw [List.map_id] at hs
  dsimp only at hs
  subst hs
  dsimp only [Sv.val] at *
  have HP2 := Lib.hid hk0; clear hk0
  have hk := HP1.out; clear HP1
  have hkt := hr2.kt hg
  replace hk := fun V3 h3 => hk V3 ((hkt.mono (by decide)).trans h3)
  have HP1 := Lib.hid hk; clear hk hkt
  have hB3 := hg.blk hB2 (by omega)
  have hA3 := hg.blk hA2 (by omega)
  have hg3 := Gb.g hg2 hg (Nat.le_succ _) (Nat.le_trans hs0 hg2.size)
  clear hn hg hB2 hA2 hg2 hr2 q f
  have q : W3.cell? ⟨A + 1 + 1, 1, none⟩ = some (.slice none 0 0) := hB3.cell 1
  have f := hB3.frozen 1
  have hB4 : Blk (W3.setCell ⟨A + 1 + 1, 1, none⟩ (.slice p2 l2.length c2)) (A + 1 + 1) #[.slice p1 l1.length c1, .slice p2 l2.length c2, .slice none 0 0, .slice none 0 0, .slice none 0 0, .slice none 0 0, .int .i64 0, .int .i64 0] 29 := (hB3.setL 1 (.slice p2 l2.length c2))
  have hA4 := hA3.other (C := A + 1 + 1) (k := 1) (.slice p2 l2.length c2) (by omega)
  have hr4 := (hr3.setNew (B := A + 1 + 1) (by omega) (.slice p2 l2.length c2) 1)
  have hg4 := Gb.set hg3 (A + 1 + 1) 1 (.slice p2 l2.length c2) (by omega)
  have hk := HP1.out; clear HP1
  replace hk := fun V3 (h3 : KT S2 (W3.setCell ⟨A + 1 + 1, 1, none⟩ (.slice p2 l2.length c2)) V3) => hk V3 (((KT.set (KT.refl S2 W3) (hB3) (by decide) 1 (.slice p2 l2.length c2))).trans h3)
  have HP1 := Lib.hid hk; clear hk
  have hk := HP2.out; clear HP2
  replace hk := fun V3 (h3 : KT S0 (W3.setCell ⟨A + 1 + 1, 1, none⟩ (.slice p2 l2.length c2)) V3) => hk V3 (((KT.set (KT.refl S0 W3) (hB3) (by decide) 1 (.slice p2 l2.length c2))).trans h3)
  have HP2 := Lib.hid hk; clear hk
  have hn := some_Tx hr4 (textR_one (A + 1) _) HL2.out
  go_wp2_with fail
  generalize (W3.setCell ⟨A + 1 + 1, 1, none⟩ (.slice p2 l2.length c2)) = W4 at *
  refine hn.mono ?_
  rintro _ W5 ⟨⟨p3, c3, l3⟩, rfl, hs, hr5, hk0, hg⟩
  dsimp only at hs
  subst hs
  dsimp only [Sv.val] at *
  have HP3 := Lib.hid hk0; clear hk0
  have hk := HP1.out; clear HP1
  have hkt := hr4.kt hg
  replace hk := fun V3 h3 => hk V3 ((hkt.mono (by decide)).trans h3)
  have HP1 := Lib.hid hk; clear hk hkt
  have hk := HP2.out; clear HP2
  have hkt := hr4.kt hg
  replace hk := fun V3 h3 => hk V3 ((hkt.mono (by decide)).trans h3)
  have HP2 := Lib.hid hk; clear hk hkt
  have hB5 := hg.blk hB4 (by omega)
  have hA5 := hg.blk hA4 (by omega)
  have hg5 := Gb.g hg4 hg (Nat.le_succ _) (Nat.le_trans hs0 hg4.size)
  clear hn hg hB4 hA4 hg4 hr4 q f
  have q : W5.cell? ⟨A + 1 + 1, 2, none⟩ = some (.slice none 0 0) := hB5.cell 2
  have f := hB5.frozen 2
  have hB6 : Blk (W5.setCell ⟨A + 1 + 1, 2, none⟩ (.slice p3 l3.length c3)) (A + 1 + 1) #[.slice p1 l1.length c1, .slice p2 l2.length c2, .slice p3 l3.length c3, .slice none 0 0, .slice none 0 0, .slice none 0 0, .int .i64 0, .int .i64 0] 29 := (hB5.setL 2 (.slice p3 l3.length c3))
  have hA6 := hA5.other (C := A + 1 + 1) (k := 2) (.slice p3 l3.length c3) (by omega)
  have hr6 := (hr5.setNew (B := A + 1 + 1) (by omega) (.slice p3 l3.length c3) 2)
  have hg6 := Gb.set hg5 (A + 1 + 1) 2 (.slice p3 l3.length c3) (by omega)
  have hk := HP1.out; clear HP1
  replace hk := fun V3 (h3 : KT S2 (W5.setCell ⟨A + 1 + 1, 2, none⟩ (.slice p3 l3.length c3)) V3) => hk V3 (((KT.set (KT.refl S2 W5) (hB5) (by decide) 2 (.slice p3 l3.length c3))).trans h3)
  have HP1 := Lib.hid hk; clear hk
  have hk := HP2.out; clear HP2
  replace hk := fun V3 (h3 : KT S0 (W5.setCell ⟨A + 1 + 1, 2, none⟩ (.slice p3 l3.length c3)) V3) => hk V3 (((KT.set (KT.refl S0 W5) (hB5) (by decide) 2 (.slice p3 l3.length c3))).trans h3)
  have HP2 := Lib.hid hk; clear hk
  have hk := HP3.out; clear HP3
  replace hk := fun V3 (h3 : KT S0 (W5.setCell ⟨A + 1 + 1, 2, none⟩ (.slice p3 l3.length c3)) V3) => hk V3 (((KT.set (KT.refl S0 W5) (hB5) (by decide) 2 (.slice p3 l3.length c3))).trans h3)
  have HP3 := Lib.hid hk; clear hk
  have hn := some_Th hr6 (threadR_one (A + 1)) HL3.out
  go_wp2_with fail
  generalize (W5.setCell ⟨A + 1 + 1, 2, none⟩ (.slice p3 l3.length c3)) = W6 at *
  refine hn.mono ?_
  rintro _ W7 ⟨⟨p4, c4, l4⟩, rfl, hs, hr7, hk0, hg⟩
  dsimp only at hs
  subst hs
  dsimp only [Sv.val] at *
  have HP4 := Lib.hid hk0; clear hk0
  have hk := HP1.out; clear HP1
  have hkt := hr6.kt hg
  replace hk := fun V3 h3 => hk V3 ((hkt.mono (by decide)).trans h3)
  have HP1 := Lib.hid hk; clear hk hkt
  have hk := HP2.out; clear HP2
  have hkt := hr6.kt hg
  replace hk := fun V3 h3 => hk V3 ((hkt.mono (by decide)).trans h3)
  have HP2 := Lib.hid hk; clear hk hkt
  have hk := HP3.out; clear HP3
  have hkt := hr6.kt hg
  replace hk := fun V3 h3 => hk V3 ((hkt.mono (by decide)).trans h3)
  have HP3 := Lib.hid hk; clear hk hkt
  have hB7 := hg.blk hB6 (by omega)
  have hA7 := hg.blk hA6 (by omega)
  have hg7 := Gb.g hg6 hg (Nat.le_succ _) (Nat.le_trans hs0 hg6.size)
  clear hn hg hB6 hA6 hg6 hr6 q f
  have q : W7.cell? ⟨A + 1 + 1, 3, none⟩ = some (.slice none 0 0) := hB7.cell 3
  have f := hB7.frozen 3
  have hB8 : Blk (W7.setCell ⟨A + 1 + 1, 3, none⟩ (.slice p4 l4.length c4)) (A + 1 + 1) #[.slice p1 l1.length c1, .slice p2 l2.length c2, .slice p3 l3.length c3, .slice p4 l4.length c4, .slice none 0 0, .slice none 0 0, .int .i64 0, .int .i64 0] 29 := (hB7.setL 3 (.slice p4 l4.length c4))
  have hA8 := hA7.other (C := A + 1 + 1) (k := 3) (.slice p4 l4.length c4) (by omega)
  have hr8 := (hr7.setNew (B := A + 1 + 1) (by omega) (.slice p4 l4.length c4) 3)
  have hg8 := Gb.set hg7 (A + 1 + 1) 3 (.slice p4 l4.length c4) (by omega)
  have hk := HP1.out; clear HP1
  replace hk := fun V3 (h3 : KT S2 (W7.setCell ⟨A + 1 + 1, 3, none⟩ (.slice p4 l4.length c4)) V3) => hk V3 (((KT.set (KT.refl S2 W7) (hB7) (by decide) 3 (.slice p4 l4.length c4))).trans h3)
  have HP1 := Lib.hid hk; clear hk
  have hk := HP2.out; clear HP2
  replace hk := fun V3 (h3 : KT S0 (W7.setCell ⟨A + 1 + 1, 3, none⟩ (.slice p4 l4.length c4)) V3) => hk V3 (((KT.set (KT.refl S0 W7) (hB7) (by decide) 3 (.slice p4 l4.length c4))).trans h3)
  have HP2 := Lib.hid hk; clear hk
  have hk := HP3.out; clear HP3
  replace hk := fun V3 (h3 : KT S0 (W7.setCell ⟨A + 1 + 1, 3, none⟩ (.slice p4 l4.length c4)) V3) => hk V3 (((KT.set (KT.refl S0 W7) (hB7) (by decide) 3 (.slice p4 l4.length c4))).trans h3)
  have HP3 := Lib.hid hk; clear hk
  have hk := HP4.out; clear HP4
  replace hk := fun V3 (h3 : KT S2 (W7.setCell ⟨A + 1 + 1, 3, none⟩ (.slice p4 l4.length c4)) V3) => hk V3 (((KT.set (KT.refl S2 W7) (hB7) (by decide) 3 (.slice p4 l4.length c4))).trans h3)
  have HP4 := Lib.hid hk; clear hk
  have hn := some_En hr8 (endR_one (A + 1) _) HL4.out
  go_wp2_with fail
  generalize (W7.setCell ⟨A + 1 + 1, 3, none⟩ (.slice p4 l4.length c4)) = W8 at *
  refine hn.mono ?_
  rintro _ W9 ⟨⟨p5, c5, l5⟩, rfl, hs, hr9, hk0, hg⟩
  rw [List.map_id] at hs
  dsimp only at hs
  subst hs
  dsimp only [Sv.val] at *
  have HP5 := Lib.hid hk0; clear hk0
  have hk := HP1.out; clear HP1
  have hkt := hr8.kt hg
  replace hk := fun V3 h3 => hk V3 ((hkt.mono (by decide)).trans h3)
  have HP1 := Lib.hid hk; clear hk hkt
  have hk := HP2.out; clear HP2
  have hkt := hr8.kt hg
  replace hk := fun V3 h3 => hk V3 ((hkt.mono (by decide)).trans h3)
  have HP2 := Lib.hid hk; clear hk hkt
  have hk := HP3.out; clear HP3
  have hkt := hr8.kt hg
  replace hk := fun V3 h3 => hk V3 ((hkt.mono (by decide)).trans h3)
  have HP3 := Lib.hid hk; clear hk hkt
  have hk := HP4.out; clear HP4
  have hkt := hr8.kt hg
  replace hk := fun V3 h3 => hk V3 ((hkt.mono (by decide)).trans h3)
  have HP4 := Lib.hid hk; clear hk hkt
  have hB9 := hg.blk hB8 (by omega)
  have hA9 := hg.blk hA8 (by omega)
  have hg9 := Gb.g hg8 hg (Nat.le_succ _) (Nat.le_trans hs0 hg8.size)
  clear hn hg hB8 hA8 hg8 hr8 q f
  have q : W9.cell? ⟨A + 1 + 1, 4, none⟩ = some (.slice none 0 0) := hB9.cell 4
  have f := hB9.frozen 4
  have hB10 : Blk (W9.setCell ⟨A + 1 + 1, 4, none⟩ (.slice p5 l5.length c5)) (A + 1 + 1) #[.slice p1 l1.length c1, .slice p2 l2.length c2, .slice p3 l3.length c3, .slice p4 l4.length c4, .slice p5 l5.length c5, .slice none 0 0, .int .i64 0, .int .i64 0] 29 := (hB9.setL 4 (.slice p5 l5.length c5))
  have hA10 := hA9.other (C := A + 1 + 1) (k := 4) (.slice p5 l5.length c5) (by omega)
  have hr10 := (hr9.setNew (B := A + 1 + 1) (by omega) (.slice p5 l5.length c5) 4)
  have hg10 := Gb.set hg9 (A + 1 + 1) 4 (.slice p5 l5.length c5) (by omega)
  have hk := HP1.out; clear HP1
  replace hk := fun V3 (h3 : KT S2 (W9.setCell ⟨A + 1 + 1, 4, none⟩ (.slice p5 l5.length c5)) V3) => hk V3 (((KT.set (KT.refl S2 W9) (hB9) (by decide) 4 (.slice p5 l5.length c5))).trans h3)
  have HP1 := Lib.hid hk; clear hk
  have hk := HP2.out; clear HP2
  replace hk := fun V3 (h3 : KT S0 (W9.setCell ⟨A + 1 + 1, 4, none⟩ (.slice p5 l5.length c5)) V3) => hk V3 (((KT.set (KT.refl S0 W9) (hB9) (by decide) 4 (.slice p5 l5.length c5))).trans h3)
  have HP2 := Lib.hid hk; clear hk
  have hk := HP3.out; clear HP3
  replace hk := fun V3 (h3 : KT S0 (W9.setCell ⟨A + 1 + 1, 4, none⟩ (.slice p5 l5.length c5)) V3) => hk V3 (((KT.set (KT.refl S0 W9) (hB9) (by decide) 4 (.slice p5 l5.length c5))).trans h3)
  have HP3 := Lib.hid hk; clear hk
  have hk := HP4.out; clear HP4
  replace hk := fun V3 (h3 : KT S2 (W9.setCell ⟨A + 1 + 1, 4, none⟩ (.slice p5 l5.length c5)) V3) => hk V3 (((KT.set (KT.refl S2 W9) (hB9) (by decide) 4 (.slice p5 l5.length c5))).trans h3)
  have HP4 := Lib.hid hk; clear hk
  have hk := HP5.out; clear HP5
  replace hk := fun V3 (h3 : KT S0 (W9.setCell ⟨A + 1 + 1, 4, none⟩ (.slice p5 l5.length c5)) V3) => hk V3 (((KT.set (KT.refl S0 W9) (hB9) (by decide) 4 (.slice p5 l5.length c5))).trans h3)
  have HP5 := Lib.hid hk; clear hk
  have hn := some_Vl hr10 (valR_one (A + 1) _) HL5.out
  go_wp2_with fail
  generalize (W9.setCell ⟨A + 1 + 1, 4, none⟩ (.slice p5 l5.length c5)) = W10 at *
  refine hn.mono ?_
  rintro _ W11 ⟨⟨p6, c6, l6⟩, rfl, hs, hr11, hk0, hg⟩
  rw [List.map_id] at hs
  dsimp only at hs
  subst hs
  dsimp only [Sv.val] at *
  have HP6 := Lib.hid hk0; clear hk0
  have hk := HP1.out; clear HP1
  have hkt := hr10.kt hg
  replace hk := fun V3 h3 => hk V3 ((hkt.mono (by decide)).trans h3)
  have HP1 := Lib.hid hk; clear hk hkt
  have hk := HP2.out; clear HP2
  have hkt := hr10.kt hg
  replace hk := fun V3 h3 => hk V3 ((hkt.mono (by decide)).trans h3)
  have HP2 := Lib.hid hk; clear hk hkt
  have hk := HP3.out; clear HP3
  have hkt := hr10.kt hg
  replace hk := fun V3 h3 => hk V3 ((hkt.mono (by decide)).trans h3)
  have HP3 := Lib.hid hk; clear hk hkt
  have hk := HP4.out; clear HP4
  have hkt := hr10.kt hg
  replace hk := fun V3 h3 => hk V3 ((hkt.mono (by decide)).trans h3)
  have HP4 := Lib.hid hk; clear hk hkt
  have hk := HP5.out; clear HP5
  have hkt := hr10.kt hg
  replace hk := fun V3 h3 => hk V3 ((hkt.mono (by decide)).trans h3)
  have HP5 := Lib.hid hk; clear hk hkt
  have hB11 := hg.blk hB10 (by omega)
  have hA11 := hg.blk hA10 (by omega)
  have hg11 := Gb.g hg10 hg (Nat.le_succ _) (Nat.le_trans hs0 hg10.size)
  clear hn hg hB10 hA10 hg10 hr10 q f
  have q : W11.cell? ⟨A + 1 + 1, 5, none⟩ = some (.slice none 0 0) := hB11.cell 5
  have f := hB11.frozen 5
  have hB12 : Blk (W11.setCell ⟨A + 1 + 1, 5, none⟩ (.slice p6 l6.length c6)) (A + 1 + 1) #[.slice p1 l1.length c1, .slice p2 l2.length c2, .slice p3 l3.length c3, .slice p4 l4.length c4, .slice p5 l5.length c5, .slice p6 l6.length c6, .int .i64 0, .int .i64 0] 29 := (hB11.setL 5 (.slice p6 l6.length c6))
  have hA12 := hA11.other (C := A + 1 + 1) (k := 5) (.slice p6 l6.length c6) (by omega)
  have hr12 := (hr11.setNew (B := A + 1 + 1) (by omega) (.slice p6 l6.length c6) 5)
  have hg12 := Gb.set hg11 (A + 1 + 1) 5 (.slice p6 l6.length c6) (by omega)
  have hk := HP1.out; clear HP1
  replace hk := fun V3 (h3 : KT S2 (W11.setCell ⟨A + 1 + 1, 5, none⟩ (.slice p6 l6.length c6)) V3) => hk V3 (((KT.set (KT.refl S2 W11) (hB11) (by decide) 5 (.slice p6 l6.length c6))).trans h3)
  have HP1 := Lib.hid hk; clear hk
  have hk := HP2.out; clear HP2
  replace hk := fun V3 (h3 : KT S0 (W11.setCell ⟨A + 1 + 1, 5, none⟩ (.slice p6 l6.length c6)) V3) => hk V3 (((KT.set (KT.refl S0 W11) (hB11) (by decide) 5 (.slice p6 l6.length c6))).trans h3)
  have HP2 := Lib.hid hk; clear hk
  have hk := HP3.out; clear HP3
  replace hk := fun V3 (h3 : KT S0 (W11.setCell ⟨A + 1 + 1, 5, none⟩ (.slice p6 l6.length c6)) V3) => hk V3 (((KT.set (KT.refl S0 W11) (hB11) (by decide) 5 (.slice p6 l6.length c6))).trans h3)
  have HP3 := Lib.hid hk; clear hk
  have hk := HP4.out; clear HP4
  replace hk := fun V3 (h3 : KT S2 (W11.setCell ⟨A + 1 + 1, 5, none⟩ (.slice p6 l6.length c6)) V3) => hk V3 (((KT.set (KT.refl S2 W11) (hB11) (by decide) 5 (.slice p6 l6.length c6))).trans h3)
  have HP4 := Lib.hid hk; clear hk
  have hk := HP5.out; clear HP5
  replace hk := fun V3 (h3 : KT S0 (W11.setCell ⟨A + 1 + 1, 5, none⟩ (.slice p6 l6.length c6)) V3) => hk V3 (((KT.set (KT.refl S0 W11) (hB11) (by decide) 5 (.slice p6 l6.length c6))).trans h3)
  have HP5 := Lib.hid hk; clear hk
  have hk := HP6.out; clear HP6
  replace hk := fun V3 (h3 : KT S0 (W11.setCell ⟨A + 1 + 1, 5, none⟩ (.slice p6 l6.length c6)) V3) => hk V3 (((KT.set (KT.refl S0 W11) (hB11) (by decide) 5 (.slice p6 l6.length c6))).trans h3)
  have HP6 := Lib.hid hk; clear hk
  have HR := Lib.hid hr12
  have hn := num_any hr12
  go_wp2_with fail
  generalize (W11.setCell ⟨A + 1 + 1, 5, none⟩ (.slice p6 l6.length c6)) = W12 at *
  refine hn.mono ?_
  rintro _ W13 ⟨rfl, hr13, hg⟩
  have hk := HP1.out; clear HP1
  have hkt := HR.out.kt hg
  replace hk := fun V3 h3 => hk V3 ((hkt.mono (by decide)).trans h3)
  have HP1 := Lib.hid hk; clear hk hkt
  have hk := HP2.out; clear HP2
  have hkt := HR.out.kt hg
  replace hk := fun V3 h3 => hk V3 ((hkt.mono (by decide)).trans h3)
  have HP2 := Lib.hid hk; clear hk hkt
  have hk := HP3.out; clear HP3
  have hkt := HR.out.kt hg
  replace hk := fun V3 h3 => hk V3 ((hkt.mono (by decide)).trans h3)
  have HP3 := Lib.hid hk; clear hk hkt
  have hk := HP4.out; clear HP4
  have hkt := HR.out.kt hg
  replace hk := fun V3 h3 => hk V3 ((hkt.mono (by decide)).trans h3)
  have HP4 := Lib.hid hk; clear hk hkt
  have hk := HP5.out; clear HP5
  have hkt := HR.out.kt hg
  replace hk := fun V3 h3 => hk V3 ((hkt.mono (by decide)).trans h3)
  have HP5 := Lib.hid hk; clear hk hkt
  have hk := HP6.out; clear HP6
  have hkt := HR.out.kt hg
  replace hk := fun V3 h3 => hk V3 ((hkt.mono (by decide)).trans h3)
  have HP6 := Lib.hid hk; clear hk hkt
  have hB13 := hg.blk hB12 (by omega)
  have hA13 := hg.blk hA12 (by omega)
  have hg13 := Gb.g hg12 hg (Nat.le_succ _) (Nat.le_trans hs0 hg12.size)
  clear hn hg hB12 hA12 hg12 hr12 HR q f
  have HR := Lib.hid hr13
  have hn := num_any hr13
  go_wp2_with fail
  refine hn.mono ?_
  rintro _ W14 ⟨rfl, hr14, hg⟩
  have hk := HP1.out; clear HP1
  have hkt := HR.out.kt hg
  replace hk := fun V3 h3 => hk V3 ((hkt.mono (by decide)).trans h3)
  have HP1 := Lib.hid hk; clear hk hkt
  have hk := HP2.out; clear HP2
  have hkt := HR.out.kt hg
  replace hk := fun V3 h3 => hk V3 ((hkt.mono (by decide)).trans h3)
  have HP2 := Lib.hid hk; clear hk hkt
  have hk := HP3.out; clear HP3
  have hkt := HR.out.kt hg
  replace hk := fun V3 h3 => hk V3 ((hkt.mono (by decide)).trans h3)
  have HP3 := Lib.hid hk; clear hk hkt
  have hk := HP4.out; clear HP4
  have hkt := HR.out.kt hg
  replace hk := fun V3 h3 => hk V3 ((hkt.mono (by decide)).trans h3)
  have HP4 := Lib.hid hk; clear hk hkt
  have hk := HP5.out; clear HP5
  have hkt := HR.out.kt hg
  replace hk := fun V3 h3 => hk V3 ((hkt.mono (by decide)).trans h3)
  have HP5 := Lib.hid hk; clear hk hkt
  have hk := HP6.out; clear HP6
  have hkt := HR.out.kt hg
  replace hk := fun V3 h3 => hk V3 ((hkt.mono (by decide)).trans h3)
  have HP6 := Lib.hid hk; clear hk hkt
  have hB14 := hg.blk hB13 (by omega)
  have hA14 := hg.blk hA13 (by omega)
  have hg14 := Gb.g hg13 hg (Nat.le_succ _) (Nat.le_trans hs0 hg13.size)
  clear hn hg hB13 hA13 hg13 hr13 HR
  have q0 : W14.cell? ⟨A + 1 + 1, 0, none⟩ = some (.slice p1 l1.length c1) := hB14.cell 0
  have a0 : W14.cell? ⟨A, 0, none⟩ = some (.slice none 0 0) := hA14.cell 0
  have fa0 := hA14.frozen 0
  have q1 : W14.cell? ⟨A + 1 + 1, 1, none⟩ = some (.slice p2 l2.length c2) := hB14.cell 1
  have a1 : W14.cell? ⟨A, 1, none⟩ = some (.slice none 0 0) := hA14.cell 1
  have fa1 := hA14.frozen 1
  have q2 : W14.cell? ⟨A + 1 + 1, 2, none⟩ = some (.slice p3 l3.length c3) := hB14.cell 2
  have a2 : W14.cell? ⟨A, 2, none⟩ = some (.slice none 0 0) := hA14.cell 2
  have fa2 := hA14.frozen 2
  have q3 : W14.cell? ⟨A + 1 + 1, 3, none⟩ = some (.slice p4 l4.length c4) := hB14.cell 3
  have a3 : W14.cell? ⟨A, 3, none⟩ = some (.slice none 0 0) := hA14.cell 3
  have fa3 := hA14.frozen 3
  have q4 : W14.cell? ⟨A + 1 + 1, 4, none⟩ = some (.slice p5 l5.length c5) := hB14.cell 4
  have a4 : W14.cell? ⟨A, 4, none⟩ = some (.slice none 0 0) := hA14.cell 4
  have fa4 := hA14.frozen 4
  have q5 : W14.cell? ⟨A + 1 + 1, 5, none⟩ = some (.slice p6 l6.length c6) := hB14.cell 5
  have a5 : W14.cell? ⟨A, 5, none⟩ = some (.slice none 0 0) := hA14.cell 5
  have fa5 := hA14.frozen 5
  have q6 : W14.cell? ⟨A + 1 + 1, 6, none⟩ = some (.int .i64 0) := hB14.cell 6
  have a6 : W14.cell? ⟨A, 6, none⟩ = some (.int .i64 0) := hA14.cell 6
  have fa6 := hA14.frozen 6
  have q7 : W14.cell? ⟨A + 1 + 1, 7, none⟩ = some (.int .i64 0) := hB14.cell 7
  have a7 : W14.cell? ⟨A, 7, none⟩ = some (.int .i64 0) := hA14.cell 7
  have fa7 := hA14.frozen 7
  have f6 := hB14.frozen 6
  have f7 := hB14.frozen 7
  obtain ⟨pz, cz, hZ, -, -⟩ := hr14
  have z0 : W14.cell? ⟨A + 1, 0, none⟩ = some (.slice pz 0 cz) := hZ.cell 0
  have z1 : W14.cell? ⟨A + 1, 1, none⟩ = some (.bool false) := hZ.cell 1
  clear hZ
  have hk := HP1.out; clear HP1
  replace hk := fun V3 (h3 : KT S2 ((W14.setCell ⟨A + 1 + 1, 6, none⟩ (.int .i64 asked)).setCell ⟨A + 1 + 1, 7, none⟩ (.int .i64 steps)) V3) => hk V3 (((KT.set ((KT.set (KT.refl S2 W14) (hB14) (by decide) 6 (.int .i64 asked))) ((hB14.setL 6 (.int .i64 asked))) (by decide) 7 (.int .i64 steps))).trans h3)
  have HP1 := Lib.hid hk; clear hk
  have hk := HP2.out; clear HP2
  replace hk := fun V3 (h3 : KT S0 ((W14.setCell ⟨A + 1 + 1, 6, none⟩ (.int .i64 asked)).setCell ⟨A + 1 + 1, 7, none⟩ (.int .i64 steps)) V3) => hk V3 (((KT.set ((KT.set (KT.refl S0 W14) (hB14) (by decide) 6 (.int .i64 asked))) ((hB14.setL 6 (.int .i64 asked))) (by decide) 7 (.int .i64 steps))).trans h3)
  have HP2 := Lib.hid hk; clear hk
  have hk := HP3.out; clear HP3
  replace hk := fun V3 (h3 : KT S0 ((W14.setCell ⟨A + 1 + 1, 6, none⟩ (.int .i64 asked)).setCell ⟨A + 1 + 1, 7, none⟩ (.int .i64 steps)) V3) => hk V3 (((KT.set ((KT.set (KT.refl S0 W14) (hB14) (by decide) 6 (.int .i64 asked))) ((hB14.setL 6 (.int .i64 asked))) (by decide) 7 (.int .i64 steps))).trans h3)
  have HP3 := Lib.hid hk; clear hk
  have hk := HP4.out; clear HP4
  replace hk := fun V3 (h3 : KT S2 ((W14.setCell ⟨A + 1 + 1, 6, none⟩ (.int .i64 asked)).setCell ⟨A + 1 + 1, 7, none⟩ (.int .i64 steps)) V3) => hk V3 (((KT.set ((KT.set (KT.refl S2 W14) (hB14) (by decide) 6 (.int .i64 asked))) ((hB14.setL 6 (.int .i64 asked))) (by decide) 7 (.int .i64 steps))).trans h3)
  have HP4 := Lib.hid hk; clear hk
  have hk := HP5.out; clear HP5
  replace hk := fun V3 (h3 : KT S0 ((W14.setCell ⟨A + 1 + 1, 6, none⟩ (.int .i64 asked)).setCell ⟨A + 1 + 1, 7, none⟩ (.int .i64 steps)) V3) => hk V3 (((KT.set ((KT.set (KT.refl S0 W14) (hB14) (by decide) 6 (.int .i64 asked))) ((hB14.setL 6 (.int .i64 asked))) (by decide) 7 (.int .i64 steps))).trans h3)
  have HP5 := Lib.hid hk; clear hk
  have hk := HP6.out; clear HP6
  replace hk := fun V3 (h3 : KT S0 ((W14.setCell ⟨A + 1 + 1, 6, none⟩ (.int .i64 asked)).setCell ⟨A + 1 + 1, 7, none⟩ (.int .i64 steps)) V3) => hk V3 (((KT.set ((KT.set (KT.refl S0 W14) (hB14) (by decide) 6 (.int .i64 asked))) ((hB14.setL 6 (.int .i64 asked))) (by decide) 7 (.int .i64 steps))).trans h3)
  have HP6 := Lib.hid hk; clear hk
  have hB15 : Blk ((W14.setCell ⟨A + 1 + 1, 6, none⟩ (.int .i64 asked)).setCell ⟨A + 1 + 1, 7, none⟩ (.int .i64 steps)) (A + 1 + 1) #[.slice p1 l1.length c1, .slice p2 l2.length c2, .slice p3 l3.length c3, .slice p4 l4.length c4, .slice p5 l5.length c5, .slice p6 l6.length c6, .int .i64 asked, .int .i64 steps] 29 := ((hB14.setL 6 (.int .i64 asked)).setL 7 (.int .i64 steps))
  have hA15 := ((hA14.other (C := A + 1 + 1) (k := 6) (.int .i64 asked) (by omega)).other (C := A + 1 + 1) (k := 7) (.int .i64 steps) (by omega))
  have hg15 := (Gb.set (Gb.set hg14 (A + 1 + 1) 6 (.int .i64 asked) (by omega)) (A + 1 + 1) 7 (.int .i64 steps) (by omega))
  have hk := HP1.out; clear HP1
  replace hk := fun V3 (h3 : KT S2 ((((((((((W14.setCell ⟨A + 1 + 1, 6, none⟩ (.int .i64 asked)).setCell ⟨A + 1 + 1, 7, none⟩ (.int .i64 steps)).setCell ⟨A, 0, none⟩ (.slice p1 l1.length c1)).setCell ⟨A, 1, none⟩ (.slice p2 l2.length c2)).setCell ⟨A, 2, none⟩ (.slice p3 l3.length c3)).setCell ⟨A, 3, none⟩ (.slice p4 l4.length c4)).setCell ⟨A, 4, none⟩ (.slice p5 l5.length c5)).setCell ⟨A, 5, none⟩ (.slice p6 l6.length c6)).setCell ⟨A, 6, none⟩ (.int .i64 asked)).setCell ⟨A, 7, none⟩ (.int .i64 steps)) V3) => hk V3 (((KT.set ((KT.set ((KT.set ((KT.set ((KT.set ((KT.set ((KT.set ((KT.set (KT.refl S2 ((W14.setCell ⟨A + 1 + 1, 6, none⟩ (.int .i64 asked)).setCell ⟨A + 1 + 1, 7, none⟩ (.int .i64 steps))) (hA15) (by decide) 0 (.slice p1 l1.length c1))) ((hA15.setL 0 (.slice p1 l1.length c1))) (by decide) 1 (.slice p2 l2.length c2))) (((hA15.setL 0 (.slice p1 l1.length c1)).setL 1 (.slice p2 l2.length c2))) (by decide) 2 (.slice p3 l3.length c3))) ((((hA15.setL 0 (.slice p1 l1.length c1)).setL 1 (.slice p2 l2.length c2)).setL 2 (.slice p3 l3.length c3))) (by decide) 3 (.slice p4 l4.length c4))) (((((hA15.setL 0 (.slice p1 l1.length c1)).setL 1 (.slice p2 l2.length c2)).setL 2 (.slice p3 l3.length c3)).setL 3 (.slice p4 l4.length c4))) (by decide) 4 (.slice p5 l5.length c5))) ((((((hA15.setL 0 (.slice p1 l1.length c1)).setL 1 (.slice p2 l2.length c2)).setL 2 (.slice p3 l3.length c3)).setL 3 (.slice p4 l4.length c4)).setL 4 (.slice p5 l5.length c5))) (by decide) 5 (.slice p6 l6.length c6))) (((((((hA15.setL 0 (.slice p1 l1.length c1)).setL 1 (.slice p2 l2.length c2)).setL 2 (.slice p3 l3.length c3)).setL 3 (.slice p4 l4.length c4)).setL 4 (.slice p5 l5.length c5)).setL 5 (.slice p6 l6.length c6))) (by decide) 6 (.int .i64 asked))) ((((((((hA15.setL 0 (.slice p1 l1.length c1)).setL 1 (.slice p2 l2.length c2)).setL 2 (.slice p3 l3.length c3)).setL 3 (.slice p4 l4.length c4)).setL 4 (.slice p5 l5.length c5)).setL 5 (.slice p6 l6.length c6)).setL 6 (.int .i64 asked))) (by decide) 7 (.int .i64 steps))).trans h3)
  have HP1 := Lib.hid hk; clear hk
  have hk := HP2.out; clear HP2
  replace hk := fun V3 (h3 : KT S0 ((((((((((W14.setCell ⟨A + 1 + 1, 6, none⟩ (.int .i64 asked)).setCell ⟨A + 1 + 1, 7, none⟩ (.int .i64 steps)).setCell ⟨A, 0, none⟩ (.slice p1 l1.length c1)).setCell ⟨A, 1, none⟩ (.slice p2 l2.length c2)).setCell ⟨A, 2, none⟩ (.slice p3 l3.length c3)).setCell ⟨A, 3, none⟩ (.slice p4 l4.length c4)).setCell ⟨A, 4, none⟩ (.slice p5 l5.length c5)).setCell ⟨A, 5, none⟩ (.slice p6 l6.length c6)).setCell ⟨A, 6, none⟩ (.int .i64 asked)).setCell ⟨A, 7, none⟩ (.int .i64 steps)) V3) => hk V3 (((KT.set ((KT.set ((KT.set ((KT.set ((KT.set ((KT.set ((KT.set ((KT.set (KT.refl S0 ((W14.setCell ⟨A + 1 + 1, 6, none⟩ (.int .i64 asked)).setCell ⟨A + 1 + 1, 7, none⟩ (.int .i64 steps))) (hA15) (by decide) 0 (.slice p1 l1.length c1))) ((hA15.setL 0 (.slice p1 l1.length c1))) (by decide) 1 (.slice p2 l2.length c2))) (((hA15.setL 0 (.slice p1 l1.length c1)).setL 1 (.slice p2 l2.length c2))) (by decide) 2 (.slice p3 l3.length c3))) ((((hA15.setL 0 (.slice p1 l1.length c1)).setL 1 (.slice p2 l2.length c2)).setL 2 (.slice p3 l3.length c3))) (by decide) 3 (.slice p4 l4.length c4))) (((((hA15.setL 0 (.slice p1 l1.length c1)).setL 1 (.slice p2 l2.length c2)).setL 2 (.slice p3 l3.length c3)).setL 3 (.slice p4 l4.length c4))) (by decide) 4 (.slice p5 l5.length c5))) ((((((hA15.setL 0 (.slice p1 l1.length c1)).setL 1 (.slice p2 l2.length c2)).setL 2 (.slice p3 l3.length c3)).setL 3 (.slice p4 l4.length c4)).setL 4 (.slice p5 l5.length c5))) (by decide) 5 (.slice p6 l6.length c6))) (((((((hA15.setL 0 (.slice p1 l1.length c1)).setL 1 (.slice p2 l2.length c2)).setL 2 (.slice p3 l3.length c3)).setL 3 (.slice p4 l4.length c4)).setL 4 (.slice p5 l5.length c5)).setL 5 (.slice p6 l6.length c6))) (by decide) 6 (.int .i64 asked))) ((((((((hA15.setL 0 (.slice p1 l1.length c1)).setL 1 (.slice p2 l2.length c2)).setL 2 (.slice p3 l3.length c3)).setL 3 (.slice p4 l4.length c4)).setL 4 (.slice p5 l5.length c5)).setL 5 (.slice p6 l6.length c6)).setL 6 (.int .i64 asked))) (by decide) 7 (.int .i64 steps))).trans h3)
  have HP2 := Lib.hid hk; clear hk
  have hk := HP3.out; clear HP3
  replace hk := fun V3 (h3 : KT S0 ((((((((((W14.setCell ⟨A + 1 + 1, 6, none⟩ (.int .i64 asked)).setCell ⟨A + 1 + 1, 7, none⟩ (.int .i64 steps)).setCell ⟨A, 0, none⟩ (.slice p1 l1.length c1)).setCell ⟨A, 1, none⟩ (.slice p2 l2.length c2)).setCell ⟨A, 2, none⟩ (.slice p3 l3.length c3)).setCell ⟨A, 3, none⟩ (.slice p4 l4.length c4)).setCell ⟨A, 4, none⟩ (.slice p5 l5.length c5)).setCell ⟨A, 5, none⟩ (.slice p6 l6.length c6)).setCell ⟨A, 6, none⟩ (.int .i64 asked)).setCell ⟨A, 7, none⟩ (.int .i64 steps)) V3) => hk V3 (((KT.set ((KT.set ((KT.set ((KT.set ((KT.set ((KT.set ((KT.set ((KT.set (KT.refl S0 ((W14.setCell ⟨A + 1 + 1, 6, none⟩ (.int .i64 asked)).setCell ⟨A + 1 + 1, 7, none⟩ (.int .i64 steps))) (hA15) (by decide) 0 (.slice p1 l1.length c1))) ((hA15.setL 0 (.slice p1 l1.length c1))) (by decide) 1 (.slice p2 l2.length c2))) (((hA15.setL 0 (.slice p1 l1.length c1)).setL 1 (.slice p2 l2.length c2))) (by decide) 2 (.slice p3 l3.length c3))) ((((hA15.setL 0 (.slice p1 l1.length c1)).setL 1 (.slice p2 l2.length c2)).setL 2 (.slice p3 l3.length c3))) (by decide) 3 (.slice p4 l4.length c4))) (((((hA15.setL 0 (.slice p1 l1.length c1)).setL 1 (.slice p2 l2.length c2)).setL 2 (.slice p3 l3.length c3)).setL 3 (.slice p4 l4.length c4))) (by decide) 4 (.slice p5 l5.length c5))) ((((((hA15.setL 0 (.slice p1 l1.length c1)).setL 1 (.slice p2 l2.length c2)).setL 2 (.slice p3 l3.length c3)).setL 3 (.slice p4 l4.length c4)).setL 4 (.slice p5 l5.length c5))) (by decide) 5 (.slice p6 l6.length c6))) (((((((hA15.setL 0 (.slice p1 l1.length c1)).setL 1 (.slice p2 l2.length c2)).setL 2 (.slice p3 l3.length c3)).setL 3 (.slice p4 l4.length c4)).setL 4 (.slice p5 l5.length c5)).setL 5 (.slice p6 l6.length c6))) (by decide) 6 (.int .i64 asked))) ((((((((hA15.setL 0 (.slice p1 l1.length c1)).setL 1 (.slice p2 l2.length c2)).setL 2 (.slice p3 l3.length c3)).setL 3 (.slice p4 l4.length c4)).setL 4 (.slice p5 l5.length c5)).setL 5 (.slice p6 l6.length c6)).setL 6 (.int .i64 asked))) (by decide) 7 (.int .i64 steps))).trans h3)
  have HP3 := Lib.hid hk; clear hk
  have hk := HP4.out; clear HP4
  replace hk := fun V3 (h3 : KT S2 ((((((((((W14.setCell ⟨A + 1 + 1, 6, none⟩ (.int .i64 asked)).setCell ⟨A + 1 + 1, 7, none⟩ (.int .i64 steps)).setCell ⟨A, 0, none⟩ (.slice p1 l1.length c1)).setCell ⟨A, 1, none⟩ (.slice p2 l2.length c2)).setCell ⟨A, 2, none⟩ (.slice p3 l3.length c3)).setCell ⟨A, 3, none⟩ (.slice p4 l4.length c4)).setCell ⟨A, 4, none⟩ (.slice p5 l5.length c5)).setCell ⟨A, 5, none⟩ (.slice p6 l6.length c6)).setCell ⟨A, 6, none⟩ (.int .i64 asked)).setCell ⟨A, 7, none⟩ (.int .i64 steps)) V3) => hk V3 (((KT.set ((KT.set ((KT.set ((KT.set ((KT.set ((KT.set ((KT.set ((KT.set (KT.refl S2 ((W14.setCell ⟨A + 1 + 1, 6, none⟩ (.int .i64 asked)).setCell ⟨A + 1 + 1, 7, none⟩ (.int .i64 steps))) (hA15) (by decide) 0 (.slice p1 l1.length c1))) ((hA15.setL 0 (.slice p1 l1.length c1))) (by decide) 1 (.slice p2 l2.length c2))) (((hA15.setL 0 (.slice p1 l1.length c1)).setL 1 (.slice p2 l2.length c2))) (by decide) 2 (.slice p3 l3.length c3))) ((((hA15.setL 0 (.slice p1 l1.length c1)).setL 1 (.slice p2 l2.length c2)).setL 2 (.slice p3 l3.length c3))) (by decide) 3 (.slice p4 l4.length c4))) (((((hA15.setL 0 (.slice p1 l1.length c1)).setL 1 (.slice p2 l2.length c2)).setL 2 (.slice p3 l3.length c3)).setL 3 (.slice p4 l4.length c4))) (by decide) 4 (.slice p5 l5.length c5))) ((((((hA15.setL 0 (.slice p1 l1.length c1)).setL 1 (.slice p2 l2.length c2)).setL 2 (.slice p3 l3.length c3)).setL 3 (.slice p4 l4.length c4)).setL 4 (.slice p5 l5.length c5))) (by decide) 5 (.slice p6 l6.length c6))) (((((((hA15.setL 0 (.slice p1 l1.length c1)).setL 1 (.slice p2 l2.length c2)).setL 2 (.slice p3 l3.length c3)).setL 3 (.slice p4 l4.length c4)).setL 4 (.slice p5 l5.length c5)).setL 5 (.slice p6 l6.length c6))) (by decide) 6 (.int .i64 asked))) ((((((((hA15.setL 0 (.slice p1 l1.length c1)).setL 1 (.slice p2 l2.length c2)).setL 2 (.slice p3 l3.length c3)).setL 3 (.slice p4 l4.length c4)).setL 4 (.slice p5 l5.length c5)).setL 5 (.slice p6 l6.length c6)).setL 6 (.int .i64 asked))) (by decide) 7 (.int .i64 steps))).trans h3)
  have HP4 := Lib.hid hk; clear hk
  have hk := HP5.out; clear HP5
  replace hk := fun V3 (h3 : KT S0 ((((((((((W14.setCell ⟨A + 1 + 1, 6, none⟩ (.int .i64 asked)).setCell ⟨A + 1 + 1, 7, none⟩ (.int .i64 steps)).setCell ⟨A, 0, none⟩ (.slice p1 l1.length c1)).setCell ⟨A, 1, none⟩ (.slice p2 l2.length c2)).setCell ⟨A, 2, none⟩ (.slice p3 l3.length c3)).setCell ⟨A, 3, none⟩ (.slice p4 l4.length c4)).setCell ⟨A, 4, none⟩ (.slice p5 l5.length c5)).setCell ⟨A, 5, none⟩ (.slice p6 l6.length c6)).setCell ⟨A, 6, none⟩ (.int .i64 asked)).setCell ⟨A, 7, none⟩ (.int .i64 steps)) V3) => hk V3 (((KT.set ((KT.set ((KT.set ((KT.set ((KT.set ((KT.set ((KT.set ((KT.set (KT.refl S0 ((W14.setCell ⟨A + 1 + 1, 6, none⟩ (.int .i64 asked)).setCell ⟨A + 1 + 1, 7, none⟩ (.int .i64 steps))) (hA15) (by decide) 0 (.slice p1 l1.length c1))) ((hA15.setL 0 (.slice p1 l1.length c1))) (by decide) 1 (.slice p2 l2.length c2))) (((hA15.setL 0 (.slice p1 l1.length c1)).setL 1 (.slice p2 l2.length c2))) (by decide) 2 (.slice p3 l3.length c3))) ((((hA15.setL 0 (.slice p1 l1.length c1)).setL 1 (.slice p2 l2.length c2)).setL 2 (.slice p3 l3.length c3))) (by decide) 3 (.slice p4 l4.length c4))) (((((hA15.setL 0 (.slice p1 l1.length c1)).setL 1 (.slice p2 l2.length c2)).setL 2 (.slice p3 l3.length c3)).setL 3 (.slice p4 l4.length c4))) (by decide) 4 (.slice p5 l5.length c5))) ((((((hA15.setL 0 (.slice p1 l1.length c1)).setL 1 (.slice p2 l2.length c2)).setL 2 (.slice p3 l3.length c3)).setL 3 (.slice p4 l4.length c4)).setL 4 (.slice p5 l5.length c5))) (by decide) 5 (.slice p6 l6.length c6))) (((((((hA15.setL 0 (.slice p1 l1.length c1)).setL 1 (.slice p2 l2.length c2)).setL 2 (.slice p3 l3.length c3)).setL 3 (.slice p4 l4.length c4)).setL 4 (.slice p5 l5.length c5)).setL 5 (.slice p6 l6.length c6))) (by decide) 6 (.int .i64 asked))) ((((((((hA15.setL 0 (.slice p1 l1.length c1)).setL 1 (.slice p2 l2.length c2)).setL 2 (.slice p3 l3.length c3)).setL 3 (.slice p4 l4.length c4)).setL 4 (.slice p5 l5.length c5)).setL 5 (.slice p6 l6.length c6)).setL 6 (.int .i64 asked))) (by decide) 7 (.int .i64 steps))).trans h3)
  have HP5 := Lib.hid hk; clear hk
  have hk := HP6.out; clear HP6
  replace hk := fun V3 (h3 : KT S0 ((((((((((W14.setCell ⟨A + 1 + 1, 6, none⟩ (.int .i64 asked)).setCell ⟨A + 1 + 1, 7, none⟩ (.int .i64 steps)).setCell ⟨A, 0, none⟩ (.slice p1 l1.length c1)).setCell ⟨A, 1, none⟩ (.slice p2 l2.length c2)).setCell ⟨A, 2, none⟩ (.slice p3 l3.length c3)).setCell ⟨A, 3, none⟩ (.slice p4 l4.length c4)).setCell ⟨A, 4, none⟩ (.slice p5 l5.length c5)).setCell ⟨A, 5, none⟩ (.slice p6 l6.length c6)).setCell ⟨A, 6, none⟩ (.int .i64 asked)).setCell ⟨A, 7, none⟩ (.int .i64 steps)) V3) => hk V3 (((KT.set ((KT.set ((KT.set ((KT.set ((KT.set ((KT.set ((KT.set ((KT.set (KT.refl S0 ((W14.setCell ⟨A + 1 + 1, 6, none⟩ (.int .i64 asked)).setCell ⟨A + 1 + 1, 7, none⟩ (.int .i64 steps))) (hA15) (by decide) 0 (.slice p1 l1.length c1))) ((hA15.setL 0 (.slice p1 l1.length c1))) (by decide) 1 (.slice p2 l2.length c2))) (((hA15.setL 0 (.slice p1 l1.length c1)).setL 1 (.slice p2 l2.length c2))) (by decide) 2 (.slice p3 l3.length c3))) ((((hA15.setL 0 (.slice p1 l1.length c1)).setL 1 (.slice p2 l2.length c2)).setL 2 (.slice p3 l3.length c3))) (by decide) 3 (.slice p4 l4.length c4))) (((((hA15.setL 0 (.slice p1 l1.length c1)).setL 1 (.slice p2 l2.length c2)).setL 2 (.slice p3 l3.length c3)).setL 3 (.slice p4 l4.length c4))) (by decide) 4 (.slice p5 l5.length c5))) ((((((hA15.setL 0 (.slice p1 l1.length c1)).setL 1 (.slice p2 l2.length c2)).setL 2 (.slice p3 l3.length c3)).setL 3 (.slice p4 l4.length c4)).setL 4 (.slice p5 l5.length c5))) (by decide) 5 (.slice p6 l6.length c6))) (((((((hA15.setL 0 (.slice p1 l1.length c1)).setL 1 (.slice p2 l2.length c2)).setL 2 (.slice p3 l3.length c3)).setL 3 (.slice p4 l4.length c4)).setL 4 (.slice p5 l5.length c5)).setL 5 (.slice p6 l6.length c6))) (by decide) 6 (.int .i64 asked))) ((((((((hA15.setL 0 (.slice p1 l1.length c1)).setL 1 (.slice p2 l2.length c2)).setL 2 (.slice p3 l3.length c3)).setL 3 (.slice p4 l4.length c4)).setL 4 (.slice p5 l5.length c5)).setL 5 (.slice p6 l6.length c6)).setL 6 (.int .i64 asked))) (by decide) 7 (.int .i64 steps))).trans h3)
  have HP6 := Lib.hid hk; clear hk
  have hA16 : Blk ((((((((((W14.setCell ⟨A + 1 + 1, 6, none⟩ (.int .i64 asked)).setCell ⟨A + 1 + 1, 7, none⟩ (.int .i64 steps)).setCell ⟨A, 0, none⟩ (.slice p1 l1.length c1)).setCell ⟨A, 1, none⟩ (.slice p2 l2.length c2)).setCell ⟨A, 2, none⟩ (.slice p3 l3.length c3)).setCell ⟨A, 3, none⟩ (.slice p4 l4.length c4)).setCell ⟨A, 4, none⟩ (.slice p5 l5.length c5)).setCell ⟨A, 5, none⟩ (.slice p6 l6.length c6)).setCell ⟨A, 6, none⟩ (.int .i64 asked)).setCell ⟨A, 7, none⟩ (.int .i64 steps)) A #[.slice p1 l1.length c1, .slice p2 l2.length c2, .slice p3 l3.length c3, .slice p4 l4.length c4, .slice p5 l5.length c5, .slice p6 l6.length c6, .int .i64 asked, .int .i64 steps] 29 := ((((((((hA15.setL 0 (.slice p1 l1.length c1)).setL 1 (.slice p2 l2.length c2)).setL 2 (.slice p3 l3.length c3)).setL 3 (.slice p4 l4.length c4)).setL 4 (.slice p5 l5.length c5)).setL 5 (.slice p6 l6.length c6)).setL 6 (.int .i64 asked)).setL 7 (.int .i64 steps))
  have hg16 := (Gb.set (Gb.set (Gb.set (Gb.set (Gb.set (Gb.set (Gb.set (Gb.set hg15 A 0 (.slice p1 l1.length c1) (by omega)) A 1 (.slice p2 l2.length c2) (by omega)) A 2 (.slice p3 l3.length c3) (by omega)) A 3 (.slice p4 l4.length c4) (by omega)) A 4 (.slice p5 l5.length c5) (by omega)) A 5 (.slice p6 l6.length c6) (by omega)) A 6 (.int .i64 asked) (by omega)) A 7 (.int .i64 steps) (by omega))
  clear hA14 hA15 hB14 hB15 hg14 hg15
  go_wp2_with fail
  have e0 : ((((((((((W14.setCell ⟨A + 1 + 1, 6, none⟩ (.int .i64 asked)).setCell ⟨A + 1 + 1, 7, none⟩ (.int .i64 steps)).setCell ⟨A, 0, none⟩ (.slice p1 l1.length c1)).setCell ⟨A, 1, none⟩ (.slice p2 l2.length c2)).setCell ⟨A, 2, none⟩ (.slice p3 l3.length c3)).setCell ⟨A, 3, none⟩ (.slice p4 l4.length c4)).setCell ⟨A, 4, none⟩ (.slice p5 l5.length c5)).setCell ⟨A, 5, none⟩ (.slice p6 l6.length c6)).setCell ⟨A, 6, none⟩ (.int .i64 asked)).setCell ⟨A, 7, none⟩ (.int .i64 steps)).cell? ⟨A, 0, none⟩ = some (.slice p1 l1.length c1) := hA16.cell 0
  have e1 : ((((((((((W14.setCell ⟨A + 1 + 1, 6, none⟩ (.int .i64 asked)).setCell ⟨A + 1 + 1, 7, none⟩ (.int .i64 steps)).setCell ⟨A, 0, none⟩ (.slice p1 l1.length c1)).setCell ⟨A, 1, none⟩ (.slice p2 l2.length c2)).setCell ⟨A, 2, none⟩ (.slice p3 l3.length c3)).setCell ⟨A, 3, none⟩ (.slice p4 l4.length c4)).setCell ⟨A, 4, none⟩ (.slice p5 l5.length c5)).setCell ⟨A, 5, none⟩ (.slice p6 l6.length c6)).setCell ⟨A, 6, none⟩ (.int .i64 asked)).setCell ⟨A, 7, none⟩ (.int .i64 steps)).cell? ⟨A, 1, none⟩ = some (.slice p2 l2.length c2) := hA16.cell 1
  have e2 : ((((((((((W14.setCell ⟨A + 1 + 1, 6, none⟩ (.int .i64 asked)).setCell ⟨A + 1 + 1, 7, none⟩ (.int .i64 steps)).setCell ⟨A, 0, none⟩ (.slice p1 l1.length c1)).setCell ⟨A, 1, none⟩ (.slice p2 l2.length c2)).setCell ⟨A, 2, none⟩ (.slice p3 l3.length c3)).setCell ⟨A, 3, none⟩ (.slice p4 l4.length c4)).setCell ⟨A, 4, none⟩ (.slice p5 l5.length c5)).setCell ⟨A, 5, none⟩ (.slice p6 l6.length c6)).setCell ⟨A, 6, none⟩ (.int .i64 asked)).setCell ⟨A, 7, none⟩ (.int .i64 steps)).cell? ⟨A, 2, none⟩ = some (.slice p3 l3.length c3) := hA16.cell 2
  have e3 : ((((((((((W14.setCell ⟨A + 1 + 1, 6, none⟩ (.int .i64 asked)).setCell ⟨A + 1 + 1, 7, none⟩ (.int .i64 steps)).setCell ⟨A, 0, none⟩ (.slice p1 l1.length c1)).setCell ⟨A, 1, none⟩ (.slice p2 l2.length c2)).setCell ⟨A, 2, none⟩ (.slice p3 l3.length c3)).setCell ⟨A, 3, none⟩ (.slice p4 l4.length c4)).setCell ⟨A, 4, none⟩ (.slice p5 l5.length c5)).setCell ⟨A, 5, none⟩ (.slice p6 l6.length c6)).setCell ⟨A, 6, none⟩ (.int .i64 asked)).setCell ⟨A, 7, none⟩ (.int .i64 steps)).cell? ⟨A, 3, none⟩ = some (.slice p4 l4.length c4) := hA16.cell 3
  have e4 : ((((((((((W14.setCell ⟨A + 1 + 1, 6, none⟩ (.int .i64 asked)).setCell ⟨A + 1 + 1, 7, none⟩ (.int .i64 steps)).setCell ⟨A, 0, none⟩ (.slice p1 l1.length c1)).setCell ⟨A, 1, none⟩ (.slice p2 l2.length c2)).setCell ⟨A, 2, none⟩ (.slice p3 l3.length c3)).setCell ⟨A, 3, none⟩ (.slice p4 l4.length c4)).setCell ⟨A, 4, none⟩ (.slice p5 l5.length c5)).setCell ⟨A, 5, none⟩ (.slice p6 l6.length c6)).setCell ⟨A, 6, none⟩ (.int .i64 asked)).setCell ⟨A, 7, none⟩ (.int .i64 steps)).cell? ⟨A, 4, none⟩ = some (.slice p5 l5.length c5) := hA16.cell 4
  have e5 : ((((((((((W14.setCell ⟨A + 1 + 1, 6, none⟩ (.int .i64 asked)).setCell ⟨A + 1 + 1, 7, none⟩ (.int .i64 steps)).setCell ⟨A, 0, none⟩ (.slice p1 l1.length c1)).setCell ⟨A, 1, none⟩ (.slice p2 l2.length c2)).setCell ⟨A, 2, none⟩ (.slice p3 l3.length c3)).setCell ⟨A, 3, none⟩ (.slice p4 l4.length c4)).setCell ⟨A, 4, none⟩ (.slice p5 l5.length c5)).setCell ⟨A, 5, none⟩ (.slice p6 l6.length c6)).setCell ⟨A, 6, none⟩ (.int .i64 asked)).setCell ⟨A, 7, none⟩ (.int .i64 steps)).cell? ⟨A, 5, none⟩ = some (.slice p6 l6.length c6) := hA16.cell 5
  have e6 : ((((((((((W14.setCell ⟨A + 1 + 1, 6, none⟩ (.int .i64 asked)).setCell ⟨A + 1 + 1, 7, none⟩ (.int .i64 steps)).setCell ⟨A, 0, none⟩ (.slice p1 l1.length c1)).setCell ⟨A, 1, none⟩ (.slice p2 l2.length c2)).setCell ⟨A, 2, none⟩ (.slice p3 l3.length c3)).setCell ⟨A, 3, none⟩ (.slice p4 l4.length c4)).setCell ⟨A, 4, none⟩ (.slice p5 l5.length c5)).setCell ⟨A, 5, none⟩ (.slice p6 l6.length c6)).setCell ⟨A, 6, none⟩ (.int .i64 asked)).setCell ⟨A, 7, none⟩ (.int .i64 steps)).cell? ⟨A, 6, none⟩ = some (.int .i64 asked) := hA16.cell 6
  have e7 : ((((((((((W14.setCell ⟨A + 1 + 1, 6, none⟩ (.int .i64 asked)).setCell ⟨A + 1 + 1, 7, none⟩ (.int .i64 steps)).setCell ⟨A, 0, none⟩ (.slice p1 l1.length c1)).setCell ⟨A, 1, none⟩ (.slice p2 l2.length c2)).setCell ⟨A, 2, none⟩ (.slice p3 l3.length c3)).setCell ⟨A, 3, none⟩ (.slice p4 l4.length c4)).setCell ⟨A, 4, none⟩ (.slice p5 l5.length c5)).setCell ⟨A, 5, none⟩ (.slice p6 l6.length c6)).setCell ⟨A, 6, none⟩ (.int .i64 asked)).setCell ⟨A, 7, none⟩ (.int .i64 steps)).cell? ⟨A, 7, none⟩ = some (.int .i64 steps) := hA16.cell 7
  refine bodyPost_ret (v := .tuple #[.agg #[.slice p1 l1.length c1, .slice p2 l2.length c2, .slice p3 l3.length c3, .slice p4 l4.length c4, .slice p5 l5.length c5, .slice p6 l6.length c6, .int .i64 asked, .int .i64 steps], .int .i64 0]) (by simp [results, Try.f8, go_sem, e0, e1, e2, e3, e4, e5, e6, e7]) rfl ?_
  exact ⟨⟨⟨p1, c1, l1⟩, ⟨p2, c2, l2⟩, ⟨p3, c3, l3⟩, ⟨p4, c4, l4⟩, ⟨p5, c5, l5⟩, ⟨p6, c6, l6⟩, asked, steps⟩, rfl, rfl, ⟨HP1.out _ (KT.refl _ _), HP2.out _ (KT.refl _ _), HP3.out _ (KT.refl _ _), HP4.out _ (KT.refl _ _), HP5.out _ (KT.refl _ _), HP6.out _ (KT.refl _ _)⟩, hb3.trans hg16⟩
end Go.Proofs.Ythdleldnjoamlaa
