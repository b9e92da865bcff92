/-
  One thing read.
-/
import Derived.Test.YthdleldnjoamlaaSome
import Derived.Test.YthdleldnjoamlaaOne
namespace Go.Proofs.Ythdleldnjoamlaa
open Go.RowKit

theorem RdrI.setNew {rp : Nat} {W : World} {l : List Int} (h : RdrI rp W l) {B : Nat} (hB : rp < B) (v : Value) (i : Nat) : RdrI rp (W.setCell ⟨B, i, none⟩ v) l :=
  h.keep (B := B) ((Below.refl B W).setCell (p := ⟨B, i, none⟩) (Nat.le_refl _) v) hB
theorem Blk.setL {W : World} {B : Nat} {l : List Value} {t : TypeId} (h : Blk W B l.toArray t) (k : Nat) (v : Value) : Blk (W.setCell ⟨B, k, none⟩ v) B (l.set k v).toArray t := by
  have := h.set k v
  rwa [List.setIfInBounds_toArray] at this
theorem KT.set {S : List TypeId} {W W' : World} {B : Nat} {cs : Array Value} {t : TypeId} (h : KT S W W') (hB : Blk W' B cs t) (ht : t ∈ S) (i : Nat) (v : Value) : KT S W (W'.setCell ⟨B, i, none⟩ v) := fun B' cs' t' hb hn => by
  have hb' := h B' cs' t' hb hn
  refine hb'.other v fun e => ?_
  subst e
  unfold Blk at hB hb'
  rw [hB] at hb'
  cases hb'
  exact hn ht
set_option maxRecDepth 100000 in
set_option maxHeartbeats 1000000 in
theorem valR_any {rp : Nat} {W : World} (x : Vl) {r : List Int} (h : RdrI rp W (Vl.e x ++ r)) :
    Calls Try.prog 37 #[.pointer (some ⟨rp, 0, none⟩)] W fun res W' => res = .returned x.val ∧ RdrI rp W' r ∧ G rp W W' := by
  obtain ⟨xk, xn⟩ := x
  have hrp := h.lt
  have h0 := h.alloc (.cells #[.int .i64 0, .int .i64 0] 63)
  have hB := Blk.mk2 W #[.int .i64 0, .int .i64 0] 63
  have hg := (G.refl rp W).alloc (.cells #[.int .i64 0, .int .i64 0] 63)
  have hn := num_any (show RdrI rp _ (xk :: xn :: r) from h0)
  clear h h0
  generalize hbn : W.heap.size = B at *
  go_enter Try.func37, Try.ntmps37
  go_wp2_with fail
  refine hn.mono ?_
  rintro _ W1 ⟨rfl, hr1, hg1⟩
  have hB1 := hg1.blk hB (by omega)
  replace hg1 := G.trans hg hg1
  have hn := num_any hr1
  go_wp2_with fail
  refine hn.mono ?_
  rintro _ W2 ⟨rfl, hr2, hg2⟩
  have hB2 := hg2.blk hB1 (by omega)
  replace hg2 := G.trans hg1 hg2
  have c0 : W2.cell? ⟨B, 0, none⟩ = some (.int .i64 0) := hB2.cell 0
  have c1 : W2.cell? ⟨B, 1, none⟩ = some (.int .i64 0) := hB2.cell 1
  have f0 := hB2.frozen 0
  have f1 := hB2.frozen 1
  clear hn hB1 hB hg hg1 hr1
  go_wp2_with fail
  have hB3 := ((hB2.setL 0 (.int .i64 xk)).setL 1 (.int .i64 xn))
  have e0 : ((W2.setCell ⟨B, 0, none⟩ (.int .i64 xk)).setCell ⟨B, 1, none⟩ (.int .i64 xn)).cell? ⟨B, 0, none⟩ = some (.int .i64 xk) := hB3.cell 0
  have e1 : ((W2.setCell ⟨B, 0, none⟩ (.int .i64 xk)).setCell ⟨B, 1, none⟩ (.int .i64 xn)).cell? ⟨B, 1, none⟩ = some (.int .i64 xn) := hB3.cell 1
  refine bodyPost_ret (v := .agg #[.int .i64 xk, .int .i64 xn]) (by simp [results, Try.f37, go_sem, e0, e1]) rfl ?_
  exact ⟨rfl, ((hr2.setNew hrp _ _).setNew hrp _ _), ((hg2.setNew (by omega) _ _).setNew (by omega) _ _)⟩
theorem valR_one (rp : Nat) (S : List TypeId) : OneR rp 37 Vl.val okT id Vl.e S :=
  ⟨enters_own Try.func37 (by kernel_rfl) rfl, fun _ x _ hr _ => (valR_any x hr).mono fun _ _ ⟨h1, h2, h3⟩ => ⟨x, h1, rfl, h2, fun _ _ => trivial, h3⟩⟩
set_option maxRecDepth 100000 in
set_option maxHeartbeats 1000000 in
theorem tryR_any {rp : Nat} {W : World} (x : Ty) {r : List Int} (h : RdrI rp W (Ty.e x ++ r)) :
    Calls Try.prog 52 #[.pointer (some ⟨rp, 0, none⟩)] W fun res W' => res = .returned x.val ∧ RdrI rp W' r ∧ G rp W W' := by
  obtain ⟨xk, xn⟩ := x
  have hrp := h.lt
  have h0 := h.alloc (.cells #[.int .i64 0, .int .i64 0] 104)
  have hB := Blk.mk2 W #[.int .i64 0, .int .i64 0] 104
  have hg := (G.refl rp W).alloc (.cells #[.int .i64 0, .int .i64 0] 104)
  have hn := num_any (show RdrI rp _ (xk :: xn :: r) from h0)
  clear h h0
  generalize hbn : W.heap.size = B at *
  go_enter Try.func52, Try.ntmps52
  go_wp2_with fail
  refine hn.mono ?_
  rintro _ W1 ⟨rfl, hr1, hg1⟩
  have hB1 := hg1.blk hB (by omega)
  replace hg1 := G.trans hg hg1
  have hn := num_any hr1
  go_wp2_with fail
  refine hn.mono ?_
  rintro _ W2 ⟨rfl, hr2, hg2⟩
  have hB2 := hg2.blk hB1 (by omega)
  replace hg2 := G.trans hg1 hg2
  have c0 : W2.cell? ⟨B, 0, none⟩ = some (.int .i64 0) := hB2.cell 0
  have c1 : W2.cell? ⟨B, 1, none⟩ = some (.int .i64 0) := hB2.cell 1
  have f0 := hB2.frozen 0
  have f1 := hB2.frozen 1
  clear hn hB1 hB hg hg1 hr1
  go_wp2_with fail
  have hB3 := ((hB2.setL 0 (.int .i64 xk)).setL 1 (.int .i64 xn))
  have e0 : ((W2.setCell ⟨B, 0, none⟩ (.int .i64 xk)).setCell ⟨B, 1, none⟩ (.int .i64 xn)).cell? ⟨B, 0, none⟩ = some (.int .i64 xk) := hB3.cell 0
  have e1 : ((W2.setCell ⟨B, 0, none⟩ (.int .i64 xk)).setCell ⟨B, 1, none⟩ (.int .i64 xn)).cell? ⟨B, 1, none⟩ = some (.int .i64 xn) := hB3.cell 1
  refine bodyPost_ret (v := .agg #[.int .i64 xk, .int .i64 xn]) (by simp [results, Try.f52, go_sem, e0, e1]) rfl ?_
  exact ⟨rfl, ((hr2.setNew hrp _ _).setNew hrp _ _), ((hg2.setNew (by omega) _ _).setNew (by omega) _ _)⟩
theorem tryR_one (rp : Nat) (S : List TypeId) : OneR rp 52 Ty.val okT id Ty.e S :=
  ⟨enters_own Try.func52 (by kernel_rfl) rfl, fun _ x _ hr _ => (tryR_any x hr).mono fun _ _ ⟨h1, h2, h3⟩ => ⟨x, h1, rfl, h2, fun _ _ => trivial, h3⟩⟩
set_option maxRecDepth 100000 in
set_option maxHeartbeats 1000000 in
theorem shapeR_any {rp : Nat} {W : World} (x : Sh) {r : List Int} (h : RdrI rp W (Sh.e x ++ r)) :
    Calls Try.prog 29 #[.pointer (some ⟨rp, 0, none⟩)] W fun res W' => res = .returned x.val ∧ RdrI rp W' r ∧ G rp W W' := by
  obtain ⟨xk, xn⟩ := x
  have hrp := h.lt
  have h0 := h.alloc (.cells #[.int .i64 0, .int .i64 0] 56)
  have hB := Blk.mk2 W #[.int .i64 0, .int .i64 0] 56
  have hg := (G.refl rp W).alloc (.cells #[.int .i64 0, .int .i64 0] 56)
  have hn := num_any (show RdrI rp _ (xk :: xn :: r) from h0)
  clear h h0
  generalize hbn : W.heap.size = B at *
  go_enter Try.func29, Try.ntmps29
  go_wp2_with fail
  refine hn.mono ?_
  rintro _ W1 ⟨rfl, hr1, hg1⟩
  have hB1 := hg1.blk hB (by omega)
  replace hg1 := G.trans hg hg1
  have hn := num_any hr1
  go_wp2_with fail
  refine hn.mono ?_
  rintro _ W2 ⟨rfl, hr2, hg2⟩
  have hB2 := hg2.blk hB1 (by omega)
  replace hg2 := G.trans hg1 hg2
  have c0 : W2.cell? ⟨B, 0, none⟩ = some (.int .i64 0) := hB2.cell 0
  have c1 : W2.cell? ⟨B, 1, none⟩ = some (.int .i64 0) := hB2.cell 1
  have f0 := hB2.frozen 0
  have f1 := hB2.frozen 1
  clear hn hB1 hB hg hg1 hr1
  go_wp2_with fail
  have hB3 := ((hB2.setL 0 (.int .i64 xk)).setL 1 (.int .i64 xn))
  have e0 : ((W2.setCell ⟨B, 0, none⟩ (.int .i64 xk)).setCell ⟨B, 1, none⟩ (.int .i64 xn)).cell? ⟨B, 0, none⟩ = some (.int .i64 xk) := hB3.cell 0
  have e1 : ((W2.setCell ⟨B, 0, none⟩ (.int .i64 xk)).setCell ⟨B, 1, none⟩ (.int .i64 xn)).cell? ⟨B, 1, none⟩ = some (.int .i64 xn) := hB3.cell 1
  refine bodyPost_ret (v := .agg #[.int .i64 xk, .int .i64 xn]) (by simp [results, Try.f29, go_sem, e0, e1]) rfl ?_
  exact ⟨rfl, ((hr2.setNew hrp _ _).setNew hrp _ _), ((hg2.setNew (by omega) _ _).setNew (by omega) _ _)⟩
theorem shapeR_one (rp : Nat) (S : List TypeId) : OneR rp 29 Sh.val okT id Sh.e S :=
  ⟨enters_own Try.func29 (by kernel_rfl) rfl, fun _ x _ hr _ => (shapeR_any x hr).mono fun _ _ ⟨h1, h2, h3⟩ => ⟨x, h1, rfl, h2, fun _ _ => trivial, h3⟩⟩
set_option maxRecDepth 100000 in
set_option maxHeartbeats 1000000 in
theorem endR_any {rp : Nat} {W : World} (x : En) {r : List Int} (h : RdrI rp W (En.e x ++ r)) :
    Calls Try.prog 35 #[.pointer (some ⟨rp, 0, none⟩)] W fun res W' => res = .returned x.val ∧ RdrI rp W' r ∧ G rp W W' := by
  obtain ⟨xc, xk, xn⟩ := x
  have hrp := h.lt
  have hr0 := h.alloc (.cells #[.int .i64 0, .int .i64 0, .int .i64 0] 69)
  have hB0 := Blk.mk2 W #[.int .i64 0, .int .i64 0, .int .i64 0] 69
  have hg0 := (G.refl rp W).alloc (.cells #[.int .i64 0, .int .i64 0, .int .i64 0] 69)
  have hn := num_any (show RdrI rp _ (xc :: ([xk, xn] ++ r)) from hr0)
  clear h
  generalize hbn : W.heap.size = B at *
  go_enter Try.func35, Try.ntmps35
  go_wp2_with fail
  refine hn.mono ?_
  rintro _ W1 ⟨rfl, hr1, hg⟩
  have hB1 := hg.blk hB0 (by omega)
  have hg1 := G.trans hg0 hg
  clear hn hg hB0 hg0 hr0
  have q0 : W1.cell? ⟨B, 0, none⟩ = some (.int .i64 0) := hB1.cell 0
  have f0 := hB1.frozen 0
  have hB2 : Blk (W1.setCell ⟨B, 0, none⟩ (.int .i64 xc)) B #[.int .i64 xc, .int .i64 0, .int .i64 0] 69 := (hB1.setL 0 (.int .i64 xc))
  have hr2 := (hr1.setNew hrp (.int .i64 xc) 0)
  have hg2 := (hg1.setNew (B := B) (by omega) (.int .i64 xc) 0)
  have hn := valR_any ⟨xk, xn⟩ hr2
  go_wp2_with fail
  generalize (W1.setCell ⟨B, 0, none⟩ (.int .i64 xc)) = W2 at *
  refine hn.mono ?_
  rintro _ W3 ⟨rfl, hr3, hg⟩
  have hB3 := hg.blk hB2 (by omega)
  have hg3 := G.trans hg2 hg
  clear hn hg hB2 hg2 hr2
  clear q0 f0
  have q0 : W3.cell? ⟨B, 0, none⟩ = some (.int .i64 xc) := hB3.cell 0
  have f0 := hB3.frozen 0
  have q1 : W3.cell? ⟨B, 1, none⟩ = some (.int .i64 0) := hB3.cell 1
  have f1 := hB3.frozen 1
  have q2 : W3.cell? ⟨B, 2, none⟩ = some (.int .i64 0) := hB3.cell 2
  have f2 := hB3.frozen 2
  have hB4 : Blk (((((W3.setCell ⟨B, 1, none⟩ (.int .i64 xk)).setCell ⟨B, 2, none⟩ (.int .i64 xn)).setCell ⟨B, 0, none⟩ (.int .i64 xc)).setCell ⟨B, 1, none⟩ (.int .i64 xk)).setCell ⟨B, 2, none⟩ (.int .i64 xn)) B #[.int .i64 xc, .int .i64 xk, .int .i64 xn] 69 := (((((hB3.setL 1 (.int .i64 xk)).setL 2 (.int .i64 xn)).setL 0 (.int .i64 xc)).setL 1 (.int .i64 xk)).setL 2 (.int .i64 xn))
  have hr4 := (((((hr3.setNew hrp (.int .i64 xk) 1).setNew hrp (.int .i64 xn) 2).setNew hrp (.int .i64 xc) 0).setNew hrp (.int .i64 xk) 1).setNew hrp (.int .i64 xn) 2)
  have hg4 := (((((hg3.setNew (B := B) (by omega) (.int .i64 xk) 1).setNew (B := B) (by omega) (.int .i64 xn) 2).setNew (B := B) (by omega) (.int .i64 xc) 0).setNew (B := B) (by omega) (.int .i64 xk) 1).setNew (B := B) (by omega) (.int .i64 xn) 2)
  go_wp2_with fail
  have e0 : (((((W3.setCell ⟨B, 1, none⟩ (.int .i64 xk)).setCell ⟨B, 2, none⟩ (.int .i64 xn)).setCell ⟨B, 0, none⟩ (.int .i64 xc)).setCell ⟨B, 1, none⟩ (.int .i64 xk)).setCell ⟨B, 2, none⟩ (.int .i64 xn)).cell? ⟨B, 0, none⟩ = some (.int .i64 xc) := hB4.cell 0
  have e1 : (((((W3.setCell ⟨B, 1, none⟩ (.int .i64 xk)).setCell ⟨B, 2, none⟩ (.int .i64 xn)).setCell ⟨B, 0, none⟩ (.int .i64 xc)).setCell ⟨B, 1, none⟩ (.int .i64 xk)).setCell ⟨B, 2, none⟩ (.int .i64 xn)).cell? ⟨B, 1, none⟩ = some (.int .i64 xk) := hB4.cell 1
  have e2 : (((((W3.setCell ⟨B, 1, none⟩ (.int .i64 xk)).setCell ⟨B, 2, none⟩ (.int .i64 xn)).setCell ⟨B, 0, none⟩ (.int .i64 xc)).setCell ⟨B, 1, none⟩ (.int .i64 xk)).setCell ⟨B, 2, none⟩ (.int .i64 xn)).cell? ⟨B, 2, none⟩ = some (.int .i64 xn) := hB4.cell 2
  refine bodyPost_ret (v := .agg #[.int .i64 xc, .int .i64 xk, .int .i64 xn]) (by simp [results, Try.f35, go_sem, e0, e1, e2]) rfl ?_
  exact ⟨rfl, hr4, hg4⟩
theorem endR_one (rp : Nat) (S : List TypeId) : OneR rp 35 En.val okT id En.e S :=
  ⟨enters_own Try.func35 (by kernel_rfl) rfl, fun _ x _ hr _ => (endR_any x hr).mono fun _ _ ⟨h1, h2, h3⟩ => ⟨x, h1, rfl, h2, fun _ _ => trivial, h3⟩⟩
set_option maxRecDepth 100000 in
set_option maxHeartbeats 2000000 in
theorem frameR_any {rp : Nat} {W : World} (x : FrC) {r : List Int} (h : RdrI rp W (FrC.e x ++ r)) (hl : (FrC.e x ++ r).length ≤ 50000000) :
    Calls Try.prog 46 #[.pointer (some ⟨rp, 0, none⟩)] W fun res W' => ∃ y : Fr, res = .returned y.val ∧ y.c = x ∧ RdrI rp W' r ∧ (∀ W3, KT S0 W' W3 → Fr.ok W3 y) ∧ G rp W W' := by
  obtain ⟨a1, a2, a3, a4, sk, sn, rl, tl⟩ := x
  have he : FrC.e ⟨a1, a2, a3, a4, sk, sn, rl, tl⟩ ++ r = a1 :: a2 :: a3 :: a4 :: (Vl.e ⟨sk, sn⟩ ++ (encL Vl.e rl ++ (encL Ty.e tl ++ r))) := by simp [FrC.e, Vl.e]
  rw [he] at h hl
  have hl1 : (encL Vl.e rl ++ (encL Ty.e tl ++ r)).length ≤ 50000000 := by simp only [List.length_cons, List.length_append] at hl ⊢; omega
  have hl2 : (encL Ty.e tl ++ r).length ≤ 50000000 := by simp only [List.length_append] at hl1 ⊢; omega
  have HL1 := Lib.hid hl1; have HL2 := Lib.hid hl2; clear hl hl1 hl2 he
  have hrp := h.lt
  have hr0 := h.alloc (.cells #[.int .i64 0, .int .i64 0, .int .i64 0, .int .i64 0, .int .i64 0, .int .i64 0, .slice none 0 0, .slice none 0 0] 94)
  have hB0 := Blk.mk2 W #[.int .i64 0, .int .i64 0, .int .i64 0, .int .i64 0, .int .i64 0, .int .i64 0, .slice none 0 0, .slice none 0 0] 94
  have hg0 := (G.refl rp W).alloc (.cells #[.int .i64 0, .int .i64 0, .int .i64 0, .int .i64 0, .int .i64 0, .int .i64 0, .slice none 0 0, .slice none 0 0] 94)
  have hn := num_any hr0
  clear h
  generalize hbn : W.heap.size = B at *
  go_enter Try.func46, Try.ntmps46
  go_wp2_with fail
  refine hn.mono ?_
  rintro _ W1 ⟨rfl, hr1, hg⟩
  have hB1 := hg.blk hB0 (by omega)
  have hg1 := G.trans hg0 hg
  clear hn hg hB0 hg0 hr0
  have hn := num_any hr1
  go_wp2_with fail
  refine hn.mono ?_
  rintro _ W2 ⟨rfl, hr2, hg⟩
  have hB2 := hg.blk hB1 (by omega)
  have hg2 := G.trans hg1 hg
  clear hn hg hB1 hg1 hr1
  have hn := num_any hr2
  go_wp2_with fail
  refine hn.mono ?_
  rintro _ W3 ⟨rfl, hr3, hg⟩
  have hB3 := hg.blk hB2 (by omega)
  have hg3 := G.trans hg2 hg
  clear hn hg hB2 hg2 hr2
  have hn := num_any hr3
  go_wp2_with fail
  refine hn.mono ?_
  rintro _ W4 ⟨rfl, hr4, hg⟩
  have hB4 := hg.blk hB3 (by omega)
  have hg4 := G.trans hg3 hg
  clear hn hg hB3 hg3 hr3
  have q0 : W4.cell? ⟨B, 0, none⟩ = some (.int .i64 0) := hB4.cell 0
  have f0 := hB4.frozen 0
  have q1 : W4.cell? ⟨B, 1, none⟩ = some (.int .i64 0) := hB4.cell 1
  have f1 := hB4.frozen 1
  have q2 : W4.cell? ⟨B, 2, none⟩ = some (.int .i64 0) := hB4.cell 2
  have f2 := hB4.frozen 2
  have q3 : W4.cell? ⟨B, 3, none⟩ = some (.int .i64 0) := hB4.cell 3
  have f3 := hB4.frozen 3
  have hB5 : Blk ((((W4.setCell ⟨B, 0, none⟩ (.int .i64 a1)).setCell ⟨B, 1, none⟩ (.int .i64 a2)).setCell ⟨B, 2, none⟩ (.int .i64 a3)).setCell ⟨B, 3, none⟩ (.int .i64 a4)) B #[.int .i64 a1, .int .i64 a2, .int .i64 a3, .int .i64 a4, .int .i64 0, .int .i64 0, .slice none 0 0, .slice none 0 0] 94 := ((((hB4.setL 0 (.int .i64 a1)).setL 1 (.int .i64 a2)).setL 2 (.int .i64 a3)).setL 3 (.int .i64 a4))
  have hr5 := ((((hr4.setNew hrp (.int .i64 a1) 0).setNew hrp (.int .i64 a2) 1).setNew hrp (.int .i64 a3) 2).setNew hrp (.int .i64 a4) 3)
  have hg5 := ((((hg4.setNew (B := B) (by omega) (.int .i64 a1) 0).setNew (B := B) (by omega) (.int .i64 a2) 1).setNew (B := B) (by omega) (.int .i64 a3) 2).setNew (B := B) (by omega) (.int .i64 a4) 3)
  have hn := valR_any ⟨sk, sn⟩ hr5
  go_wp2_with fail
  generalize ((((W4.setCell ⟨B, 0, none⟩ (.int .i64 a1)).setCell ⟨B, 1, none⟩ (.int .i64 a2)).setCell ⟨B, 2, none⟩ (.int .i64 a3)).setCell ⟨B, 3, none⟩ (.int .i64 a4)) = W5 at *
  refine hn.mono ?_
  rintro _ W6 ⟨rfl, hr6, hg⟩
  have hB6 := hg.blk hB5 (by omega)
  have hg6 := G.trans hg5 hg
  clear hn hg hB5 hg5 hr5
  clear q0 q1 q2 q3 f0 f1 f2 f3
  have q4 : W6.cell? ⟨B, 4, none⟩ = some (.int .i64 0) := hB6.cell 4
  have f4 := hB6.frozen 4
  have q5 : W6.cell? ⟨B, 5, none⟩ = some (.int .i64 0) := hB6.cell 5
  have f5 := hB6.frozen 5
  have hB7 : Blk ((W6.setCell ⟨B, 4, none⟩ (.int .i64 sk)).setCell ⟨B, 5, none⟩ (.int .i64 sn)) B #[.int .i64 a1, .int .i64 a2, .int .i64 a3, .int .i64 a4, .int .i64 sk, .int .i64 sn, .slice none 0 0, .slice none 0 0] 94 := ((hB6.setL 4 (.int .i64 sk)).setL 5 (.int .i64 sn))
  have hr7 := ((hr6.setNew hrp (.int .i64 sk) 4).setNew hrp (.int .i64 sn) 5)
  have hg7 := ((hg6.setNew (B := B) (by omega) (.int .i64 sk) 4).setNew (B := B) (by omega) (.int .i64 sn) 5)
  have hn := some_Vl hr7 (valR_one rp _) HL1.out
  go_wp2_with fail
  generalize ((W6.setCell ⟨B, 4, none⟩ (.int .i64 sk)).setCell ⟨B, 5, none⟩ (.int .i64 sn)) = W7 at *
  refine hn.mono ?_
  rintro _ W8 ⟨⟨p1, c1, l1⟩, rfl, hs1, hr8, hk1, hg⟩
  have hB8 := hg.blk hB7 (by omega)
  have hg8 := G.trans hg7 hg
  rw [List.map_id] at hs1
  dsimp only at hs1
  subst hs1
  have HK1 := Lib.hid hk1; clear hk1
  clear hn hg hB7 hg7 hr7
  clear q4 q5 f4 f5
  have q6 : W8.cell? ⟨B, 6, none⟩ = some (.slice none 0 0) := hB8.cell 6
  have f6 := hB8.frozen 6
  have hB9 : Blk (W8.setCell ⟨B, 6, none⟩ (.slice p1 l1.length c1)) B #[.int .i64 a1, .int .i64 a2, .int .i64 a3, .int .i64 a4, .int .i64 sk, .int .i64 sn, .slice p1 l1.length c1, .slice none 0 0] 94 := (hB8.setL 6 (.slice p1 l1.length c1))
  have hr9 := (hr8.setNew hrp (.slice p1 l1.length c1) 6)
  have hg9 := (hg8.setNew (B := B) (by omega) (.slice p1 l1.length c1) 6)
  have hk1 := HK1.out; clear HK1
  replace hk1 := fun W3 (h3 : KT S0 (W8.setCell ⟨B, 6, none⟩ (.slice p1 l1.length c1)) W3) => hk1 W3 (((KT.set (KT.refl S0 W8) (hB8) (by decide) 6 (.slice p1 l1.length c1))).trans h3)
  have HK1 := Lib.hid hk1; clear hk1
  have hn := some_Ty hr9 (tryR_one rp _) HL2.out
  have HR := Lib.hid hr9
  go_wp2_with fail
  generalize (W8.setCell ⟨B, 6, none⟩ (.slice p1 l1.length c1)) = W9 at *
  refine hn.mono ?_
  rintro _ W10 ⟨⟨p2, c2, l2⟩, rfl, hs2, hr10, hk2, hg⟩
  have hB10 := hg.blk hB9 (by omega)
  have hg10 := G.trans hg9 hg
  rw [List.map_id] at hs2
  dsimp only at hs2
  subst hs2
  have hk1 := HK1.out; clear HK1
  have hkt := HR.out.kt hg
  replace hk1 := fun W3 h3 => hk1 W3 ((hkt.mono (by decide)).trans h3)
  clear hn hg hB9 hg9 hr9
  clear q6 f6 HR hkt
  have HK1 := Lib.hid hk1; have HK2 := Lib.hid hk2; clear hk1 hk2
  have q0 : W10.cell? ⟨B, 0, none⟩ = some (.int .i64 a1) := hB10.cell 0
  have f0 := hB10.frozen 0
  have q1 : W10.cell? ⟨B, 1, none⟩ = some (.int .i64 a2) := hB10.cell 1
  have f1 := hB10.frozen 1
  have q2 : W10.cell? ⟨B, 2, none⟩ = some (.int .i64 a3) := hB10.cell 2
  have f2 := hB10.frozen 2
  have q3 : W10.cell? ⟨B, 3, none⟩ = some (.int .i64 a4) := hB10.cell 3
  have f3 := hB10.frozen 3
  have q4 : W10.cell? ⟨B, 4, none⟩ = some (.int .i64 sk) := hB10.cell 4
  have f4 := hB10.frozen 4
  have q5 : W10.cell? ⟨B, 5, none⟩ = some (.int .i64 sn) := hB10.cell 5
  have f5 := hB10.frozen 5
  have q6 : W10.cell? ⟨B, 6, none⟩ = some (.slice p1 l1.length c1) := hB10.cell 6
  have f6 := hB10.frozen 6
  have q7 : W10.cell? ⟨B, 7, none⟩ = some (.slice none 0 0) := hB10.cell 7
  have f7 := hB10.frozen 7
  have hB11 : Blk (((((((((W10.setCell ⟨B, 7, none⟩ (.slice p2 l2.length c2)).setCell ⟨B, 0, none⟩ (.int .i64 a1)).setCell ⟨B, 1, none⟩ (.int .i64 a2)).setCell ⟨B, 2, none⟩ (.int .i64 a3)).setCell ⟨B, 3, none⟩ (.int .i64 a4)).setCell ⟨B, 4, none⟩ (.int .i64 sk)).setCell ⟨B, 5, none⟩ (.int .i64 sn)).setCell ⟨B, 6, none⟩ (.slice p1 l1.length c1)).setCell ⟨B, 7, none⟩ (.slice p2 l2.length c2)) B #[.int .i64 a1, .int .i64 a2, .int .i64 a3, .int .i64 a4, .int .i64 sk, .int .i64 sn, .slice p1 l1.length c1, .slice p2 l2.length c2] 94 := (((((((((hB10.setL 7 (.slice p2 l2.length c2)).setL 0 (.int .i64 a1)).setL 1 (.int .i64 a2)).setL 2 (.int .i64 a3)).setL 3 (.int .i64 a4)).setL 4 (.int .i64 sk)).setL 5 (.int .i64 sn)).setL 6 (.slice p1 l1.length c1)).setL 7 (.slice p2 l2.length c2))
  have hr11 := (((((((((hr10.setNew hrp (.slice p2 l2.length c2) 7).setNew hrp (.int .i64 a1) 0).setNew hrp (.int .i64 a2) 1).setNew hrp (.int .i64 a3) 2).setNew hrp (.int .i64 a4) 3).setNew hrp (.int .i64 sk) 4).setNew hrp (.int .i64 sn) 5).setNew hrp (.slice p1 l1.length c1) 6).setNew hrp (.slice p2 l2.length c2) 7)
  have hg11 := (((((((((hg10.setNew (B := B) (by omega) (.slice p2 l2.length c2) 7).setNew (B := B) (by omega) (.int .i64 a1) 0).setNew (B := B) (by omega) (.int .i64 a2) 1).setNew (B := B) (by omega) (.int .i64 a3) 2).setNew (B := B) (by omega) (.int .i64 a4) 3).setNew (B := B) (by omega) (.int .i64 sk) 4).setNew (B := B) (by omega) (.int .i64 sn) 5).setNew (B := B) (by omega) (.slice p1 l1.length c1) 6).setNew (B := B) (by omega) (.slice p2 l2.length c2) 7)
  have hk1 := HK1.out; have hk2 := HK2.out; clear HK1 HK2
  replace hk1 := fun W3 (h3 : KT S0 (((((((((W10.setCell ⟨B, 7, none⟩ (.slice p2 l2.length c2)).setCell ⟨B, 0, none⟩ (.int .i64 a1)).setCell ⟨B, 1, none⟩ (.int .i64 a2)).setCell ⟨B, 2, none⟩ (.int .i64 a3)).setCell ⟨B, 3, none⟩ (.int .i64 a4)).setCell ⟨B, 4, none⟩ (.int .i64 sk)).setCell ⟨B, 5, none⟩ (.int .i64 sn)).setCell ⟨B, 6, none⟩ (.slice p1 l1.length c1)).setCell ⟨B, 7, none⟩ (.slice p2 l2.length c2)) W3) => hk1 W3 (((KT.set ((KT.set ((KT.set ((KT.set ((KT.set ((KT.set ((KT.set ((KT.set ((KT.set (KT.refl S0 W10) (hB10) (by decide) 7 (.slice p2 l2.length c2))) ((hB10.setL 7 (.slice p2 l2.length c2))) (by decide) 0 (.int .i64 a1))) (((hB10.setL 7 (.slice p2 l2.length c2)).setL 0 (.int .i64 a1))) (by decide) 1 (.int .i64 a2))) ((((hB10.setL 7 (.slice p2 l2.length c2)).setL 0 (.int .i64 a1)).setL 1 (.int .i64 a2))) (by decide) 2 (.int .i64 a3))) (((((hB10.setL 7 (.slice p2 l2.length c2)).setL 0 (.int .i64 a1)).setL 1 (.int .i64 a2)).setL 2 (.int .i64 a3))) (by decide) 3 (.int .i64 a4))) ((((((hB10.setL 7 (.slice p2 l2.length c2)).setL 0 (.int .i64 a1)).setL 1 (.int .i64 a2)).setL 2 (.int .i64 a3)).setL 3 (.int .i64 a4))) (by decide) 4 (.int .i64 sk))) (((((((hB10.setL 7 (.slice p2 l2.length c2)).setL 0 (.int .i64 a1)).setL 1 (.int .i64 a2)).setL 2 (.int .i64 a3)).setL 3 (.int .i64 a4)).setL 4 (.int .i64 sk))) (by decide) 5 (.int .i64 sn))) ((((((((hB10.setL 7 (.slice p2 l2.length c2)).setL 0 (.int .i64 a1)).setL 1 (.int .i64 a2)).setL 2 (.int .i64 a3)).setL 3 (.int .i64 a4)).setL 4 (.int .i64 sk)).setL 5 (.int .i64 sn))) (by decide) 6 (.slice p1 l1.length c1))) (((((((((hB10.setL 7 (.slice p2 l2.length c2)).setL 0 (.int .i64 a1)).setL 1 (.int .i64 a2)).setL 2 (.int .i64 a3)).setL 3 (.int .i64 a4)).setL 4 (.int .i64 sk)).setL 5 (.int .i64 sn)).setL 6 (.slice p1 l1.length c1))) (by decide) 7 (.slice p2 l2.length c2))).trans h3)
  replace hk2 := fun W3 (h3 : KT S0 (((((((((W10.setCell ⟨B, 7, none⟩ (.slice p2 l2.length c2)).setCell ⟨B, 0, none⟩ (.int .i64 a1)).setCell ⟨B, 1, none⟩ (.int .i64 a2)).setCell ⟨B, 2, none⟩ (.int .i64 a3)).setCell ⟨B, 3, none⟩ (.int .i64 a4)).setCell ⟨B, 4, none⟩ (.int .i64 sk)).setCell ⟨B, 5, none⟩ (.int .i64 sn)).setCell ⟨B, 6, none⟩ (.slice p1 l1.length c1)).setCell ⟨B, 7, none⟩ (.slice p2 l2.length c2)) W3) => hk2 W3 (((KT.set ((KT.set ((KT.set ((KT.set ((KT.set ((KT.set ((KT.set ((KT.set ((KT.set (KT.refl S0 W10) (hB10) (by decide) 7 (.slice p2 l2.length c2))) ((hB10.setL 7 (.slice p2 l2.length c2))) (by decide) 0 (.int .i64 a1))) (((hB10.setL 7 (.slice p2 l2.length c2)).setL 0 (.int .i64 a1))) (by decide) 1 (.int .i64 a2))) ((((hB10.setL 7 (.slice p2 l2.length c2)).setL 0 (.int .i64 a1)).setL 1 (.int .i64 a2))) (by decide) 2 (.int .i64 a3))) (((((hB10.setL 7 (.slice p2 l2.length c2)).setL 0 (.int .i64 a1)).setL 1 (.int .i64 a2)).setL 2 (.int .i64 a3))) (by decide) 3 (.int .i64 a4))) ((((((hB10.setL 7 (.slice p2 l2.length c2)).setL 0 (.int .i64 a1)).setL 1 (.int .i64 a2)).setL 2 (.int .i64 a3)).setL 3 (.int .i64 a4))) (by decide) 4 (.int .i64 sk))) (((((((hB10.setL 7 (.slice p2 l2.length c2)).setL 0 (.int .i64 a1)).setL 1 (.int .i64 a2)).setL 2 (.int .i64 a3)).setL 3 (.int .i64 a4)).setL 4 (.int .i64 sk))) (by decide) 5 (.int .i64 sn))) ((((((((hB10.setL 7 (.slice p2 l2.length c2)).setL 0 (.int .i64 a1)).setL 1 (.int .i64 a2)).setL 2 (.int .i64 a3)).setL 3 (.int .i64 a4)).setL 4 (.int .i64 sk)).setL 5 (.int .i64 sn))) (by decide) 6 (.slice p1 l1.length c1))) (((((((((hB10.setL 7 (.slice p2 l2.length c2)).setL 0 (.int .i64 a1)).setL 1 (.int .i64 a2)).setL 2 (.int .i64 a3)).setL 3 (.int .i64 a4)).setL 4 (.int .i64 sk)).setL 5 (.int .i64 sn)).setL 6 (.slice p1 l1.length c1))) (by decide) 7 (.slice p2 l2.length c2))).trans h3)
  have HK1 := Lib.hid hk1; have HK2 := Lib.hid hk2; clear hk1 hk2
  go_wp2_with fail
  have e0 : (((((((((W10.setCell ⟨B, 7, none⟩ (.slice p2 l2.length c2)).setCell ⟨B, 0, none⟩ (.int .i64 a1)).setCell ⟨B, 1, none⟩ (.int .i64 a2)).setCell ⟨B, 2, none⟩ (.int .i64 a3)).setCell ⟨B, 3, none⟩ (.int .i64 a4)).setCell ⟨B, 4, none⟩ (.int .i64 sk)).setCell ⟨B, 5, none⟩ (.int .i64 sn)).setCell ⟨B, 6, none⟩ (.slice p1 l1.length c1)).setCell ⟨B, 7, none⟩ (.slice p2 l2.length c2)).cell? ⟨B, 0, none⟩ = some (.int .i64 a1) := hB11.cell 0
  have e1 : (((((((((W10.setCell ⟨B, 7, none⟩ (.slice p2 l2.length c2)).setCell ⟨B, 0, none⟩ (.int .i64 a1)).setCell ⟨B, 1, none⟩ (.int .i64 a2)).setCell ⟨B, 2, none⟩ (.int .i64 a3)).setCell ⟨B, 3, none⟩ (.int .i64 a4)).setCell ⟨B, 4, none⟩ (.int .i64 sk)).setCell ⟨B, 5, none⟩ (.int .i64 sn)).setCell ⟨B, 6, none⟩ (.slice p1 l1.length c1)).setCell ⟨B, 7, none⟩ (.slice p2 l2.length c2)).cell? ⟨B, 1, none⟩ = some (.int .i64 a2) := hB11.cell 1
  have e2 : (((((((((W10.setCell ⟨B, 7, none⟩ (.slice p2 l2.length c2)).setCell ⟨B, 0, none⟩ (.int .i64 a1)).setCell ⟨B, 1, none⟩ (.int .i64 a2)).setCell ⟨B, 2, none⟩ (.int .i64 a3)).setCell ⟨B, 3, none⟩ (.int .i64 a4)).setCell ⟨B, 4, none⟩ (.int .i64 sk)).setCell ⟨B, 5, none⟩ (.int .i64 sn)).setCell ⟨B, 6, none⟩ (.slice p1 l1.length c1)).setCell ⟨B, 7, none⟩ (.slice p2 l2.length c2)).cell? ⟨B, 2, none⟩ = some (.int .i64 a3) := hB11.cell 2
  have e3 : (((((((((W10.setCell ⟨B, 7, none⟩ (.slice p2 l2.length c2)).setCell ⟨B, 0, none⟩ (.int .i64 a1)).setCell ⟨B, 1, none⟩ (.int .i64 a2)).setCell ⟨B, 2, none⟩ (.int .i64 a3)).setCell ⟨B, 3, none⟩ (.int .i64 a4)).setCell ⟨B, 4, none⟩ (.int .i64 sk)).setCell ⟨B, 5, none⟩ (.int .i64 sn)).setCell ⟨B, 6, none⟩ (.slice p1 l1.length c1)).setCell ⟨B, 7, none⟩ (.slice p2 l2.length c2)).cell? ⟨B, 3, none⟩ = some (.int .i64 a4) := hB11.cell 3
  have e4 : (((((((((W10.setCell ⟨B, 7, none⟩ (.slice p2 l2.length c2)).setCell ⟨B, 0, none⟩ (.int .i64 a1)).setCell ⟨B, 1, none⟩ (.int .i64 a2)).setCell ⟨B, 2, none⟩ (.int .i64 a3)).setCell ⟨B, 3, none⟩ (.int .i64 a4)).setCell ⟨B, 4, none⟩ (.int .i64 sk)).setCell ⟨B, 5, none⟩ (.int .i64 sn)).setCell ⟨B, 6, none⟩ (.slice p1 l1.length c1)).setCell ⟨B, 7, none⟩ (.slice p2 l2.length c2)).cell? ⟨B, 4, none⟩ = some (.int .i64 sk) := hB11.cell 4
  have e5 : (((((((((W10.setCell ⟨B, 7, none⟩ (.slice p2 l2.length c2)).setCell ⟨B, 0, none⟩ (.int .i64 a1)).setCell ⟨B, 1, none⟩ (.int .i64 a2)).setCell ⟨B, 2, none⟩ (.int .i64 a3)).setCell ⟨B, 3, none⟩ (.int .i64 a4)).setCell ⟨B, 4, none⟩ (.int .i64 sk)).setCell ⟨B, 5, none⟩ (.int .i64 sn)).setCell ⟨B, 6, none⟩ (.slice p1 l1.length c1)).setCell ⟨B, 7, none⟩ (.slice p2 l2.length c2)).cell? ⟨B, 5, none⟩ = some (.int .i64 sn) := hB11.cell 5
  have e6 : (((((((((W10.setCell ⟨B, 7, none⟩ (.slice p2 l2.length c2)).setCell ⟨B, 0, none⟩ (.int .i64 a1)).setCell ⟨B, 1, none⟩ (.int .i64 a2)).setCell ⟨B, 2, none⟩ (.int .i64 a3)).setCell ⟨B, 3, none⟩ (.int .i64 a4)).setCell ⟨B, 4, none⟩ (.int .i64 sk)).setCell ⟨B, 5, none⟩ (.int .i64 sn)).setCell ⟨B, 6, none⟩ (.slice p1 l1.length c1)).setCell ⟨B, 7, none⟩ (.slice p2 l2.length c2)).cell? ⟨B, 6, none⟩ = some (.slice p1 l1.length c1) := hB11.cell 6
  have e7 : (((((((((W10.setCell ⟨B, 7, none⟩ (.slice p2 l2.length c2)).setCell ⟨B, 0, none⟩ (.int .i64 a1)).setCell ⟨B, 1, none⟩ (.int .i64 a2)).setCell ⟨B, 2, none⟩ (.int .i64 a3)).setCell ⟨B, 3, none⟩ (.int .i64 a4)).setCell ⟨B, 4, none⟩ (.int .i64 sk)).setCell ⟨B, 5, none⟩ (.int .i64 sn)).setCell ⟨B, 6, none⟩ (.slice p1 l1.length c1)).setCell ⟨B, 7, none⟩ (.slice p2 l2.length c2)).cell? ⟨B, 7, none⟩ = some (.slice p2 l2.length c2) := hB11.cell 7
  refine bodyPost_ret (v := .agg #[.int .i64 a1, .int .i64 a2, .int .i64 a3, .int .i64 a4, .int .i64 sk, .int .i64 sn, .slice p1 l1.length c1, .slice p2 l2.length c2]) (by simp [results, Try.f46, go_sem, e0, e1, e2, e3, e4, e5, e6, e7]) rfl ?_
  exact ⟨⟨a1, a2, a3, a4, sk, sn, ⟨p1, c1, l1⟩, ⟨p2, c2, l2⟩⟩, rfl, rfl, hr11, fun W3 h3 => ⟨HK1.out W3 h3, HK2.out W3 h3⟩, hg11⟩
theorem frameR_one (rp : Nat) : OneR rp 46 Fr.val Fr.ok Fr.c FrC.e S0 :=
  ⟨enters_own Try.func46 (by kernel_rfl) rfl, fun _ x _ hr hl => frameR_any x hr hl⟩
set_option maxRecDepth 100000 in
set_option maxHeartbeats 2000000 in
theorem cellR_any {rp : Nat} {W : World} (x : CeC) {r : List Int} (h : RdrI rp W (CeC.e x ++ r)) (hl : (CeC.e x ++ r).length ≤ 50000000) :
    Calls Try.prog 27 #[.pointer (some ⟨rp, 0, none⟩)] W fun res W' => ∃ y : Ce, res = .returned y.val ∧ y.c = x ∧ RdrI rp W' r ∧ (∀ W3, KT S1 W' W3 → Ce.ok W3 y) ∧ G rp W W' := by
  obtain ⟨a1, a2, rl, fl⟩ := x
  have he : CeC.e ⟨a1, a2, rl, fl⟩ ++ r = a1 :: a2 :: (encL Vl.e rl ++ (encL FrC.e fl ++ r)) := by simp [CeC.e]
  rw [he] at h hl
  have hl1 : (encL Vl.e rl ++ (encL FrC.e fl ++ r)).length ≤ 50000000 := by simp only [List.length_cons] at hl ⊢; omega
  have hl2 : (encL FrC.e fl ++ r).length ≤ 50000000 := by simp only [List.length_append] at hl1 ⊢; omega
  have HL1 := Lib.hid hl1; have HL2 := Lib.hid hl2; clear hl hl1 hl2 he
  have hrp := h.lt
  have hr0 := h.alloc (.cells #[.int .i64 0, .int .i64 0, .slice none 0 0, .slice none 0 0] 52)
  have hB0 := Blk.mk2 W #[.int .i64 0, .int .i64 0, .slice none 0 0, .slice none 0 0] 52
  have hg0 := (G.refl rp W).alloc (.cells #[.int .i64 0, .int .i64 0, .slice none 0 0, .slice none 0 0] 52)
  have hn := num_any hr0
  clear h
  generalize hbn : W.heap.size = B at *
  go_enter Try.func27, Try.ntmps27
  go_wp2_with fail
  refine hn.mono ?_
  rintro _ W1 ⟨rfl, hr1, hg⟩
  have hB1 := hg.blk hB0 (by omega)
  have hg1 := G.trans hg0 hg
  clear hn hg hB0 hg0 hr0
  have hn := num_any hr1
  go_wp2_with fail
  refine hn.mono ?_
  rintro _ W2 ⟨rfl, hr2, hg⟩
  have hB2 := hg.blk hB1 (by omega)
  have hg2 := G.trans hg1 hg
  clear hn hg hB1 hg1 hr1
  have q0 : W2.cell? ⟨B, 0, none⟩ = some (.int .i64 0) := hB2.cell 0
  have f0 := hB2.frozen 0
  have q1 : W2.cell? ⟨B, 1, none⟩ = some (.int .i64 0) := hB2.cell 1
  have f1 := hB2.frozen 1
  have hB3 : Blk ((W2.setCell ⟨B, 0, none⟩ (.int .i64 a1)).setCell ⟨B, 1, none⟩ (.int .i64 a2)) B #[.int .i64 a1, .int .i64 a2, .slice none 0 0, .slice none 0 0] 52 := ((hB2.setL 0 (.int .i64 a1)).setL 1 (.int .i64 a2))
  have hr3 := ((hr2.setNew hrp (.int .i64 a1) 0).setNew hrp (.int .i64 a2) 1)
  have hg3 := ((hg2.setNew (B := B) (by omega) (.int .i64 a1) 0).setNew (B := B) (by omega) (.int .i64 a2) 1)
  have hn := some_Vl hr3 (valR_one rp _) HL1.out
  go_wp2_with fail
  generalize ((W2.setCell ⟨B, 0, none⟩ (.int .i64 a1)).setCell ⟨B, 1, none⟩ (.int .i64 a2)) = W3 at *
  refine hn.mono ?_
  rintro _ W4 ⟨⟨p1, c1, l1⟩, rfl, hs1, hr4, hk1, hg⟩
  have hB4 := hg.blk hB3 (by omega)
  have hg4 := G.trans hg3 hg
  rw [List.map_id] at hs1
  dsimp only at hs1
  subst hs1
  have HK1 := Lib.hid hk1; clear hk1
  clear hn hg hB3 hg3 hr3
  clear q0 q1 f0 f1
  have q2 : W4.cell? ⟨B, 2, none⟩ = some (.slice none 0 0) := hB4.cell 2
  have f2 := hB4.frozen 2
  have hB5 : Blk (W4.setCell ⟨B, 2, none⟩ (.slice p1 l1.length c1)) B #[.int .i64 a1, .int .i64 a2, .slice p1 l1.length c1, .slice none 0 0] 52 := (hB4.setL 2 (.slice p1 l1.length c1))
  have hr5 := (hr4.setNew hrp (.slice p1 l1.length c1) 2)
  have hg5 := (hg4.setNew (B := B) (by omega) (.slice p1 l1.length c1) 2)
  have hk1 := HK1.out; clear HK1
  replace hk1 := fun W3 (h3 : KT S0 (W4.setCell ⟨B, 2, none⟩ (.slice p1 l1.length c1)) W3) => hk1 W3 (((KT.set (KT.refl S0 W4) (hB4) (by decide) 2 (.slice p1 l1.length c1))).trans h3)
  have HK1 := Lib.hid hk1; clear hk1
  have hn := some_Fr hr5 (frameR_one rp) HL2.out
  have HR := Lib.hid hr5
  go_wp2_with fail
  generalize (W4.setCell ⟨B, 2, none⟩ (.slice p1 l1.length c1)) = W5 at *
  refine hn.mono ?_
  rintro _ W6 ⟨⟨p2, c2, l2⟩, rfl, hs2, hr6, hk2, hg⟩
  have hB6 := hg.blk hB5 (by omega)
  have hg6 := G.trans hg5 hg
  dsimp only at hs2
  subst hs2
  have hk1 := HK1.out; clear HK1
  have hkt := HR.out.kt hg
  replace hk1 := fun W3 h3 => hk1 W3 ((hkt.mono (by decide)).trans h3)
  clear hn hg hB5 hg5 hr5
  clear q2 f2 HR hkt
  have HK1 := Lib.hid hk1; have HK2 := Lib.hid hk2; clear hk1 hk2
  have q0 : W6.cell? ⟨B, 0, none⟩ = some (.int .i64 a1) := hB6.cell 0
  have f0 := hB6.frozen 0
  have q1 : W6.cell? ⟨B, 1, none⟩ = some (.int .i64 a2) := hB6.cell 1
  have f1 := hB6.frozen 1
  have q2 : W6.cell? ⟨B, 2, none⟩ = some (.slice p1 l1.length c1) := hB6.cell 2
  have f2 := hB6.frozen 2
  have q3 : W6.cell? ⟨B, 3, none⟩ = some (.slice none 0 0) := hB6.cell 3
  have f3 := hB6.frozen 3
  have hB7 : Blk (((((W6.setCell ⟨B, 3, none⟩ (.slice p2 l2.length c2)).setCell ⟨B, 0, none⟩ (.int .i64 a1)).setCell ⟨B, 1, none⟩ (.int .i64 a2)).setCell ⟨B, 2, none⟩ (.slice p1 l1.length c1)).setCell ⟨B, 3, none⟩ (.slice p2 l2.length c2)) B #[.int .i64 a1, .int .i64 a2, .slice p1 l1.length c1, .slice p2 l2.length c2] 52 := (((((hB6.setL 3 (.slice p2 l2.length c2)).setL 0 (.int .i64 a1)).setL 1 (.int .i64 a2)).setL 2 (.slice p1 l1.length c1)).setL 3 (.slice p2 l2.length c2))
  have hr7 := (((((hr6.setNew hrp (.slice p2 l2.length c2) 3).setNew hrp (.int .i64 a1) 0).setNew hrp (.int .i64 a2) 1).setNew hrp (.slice p1 l1.length c1) 2).setNew hrp (.slice p2 l2.length c2) 3)
  have hg7 := (((((hg6.setNew (B := B) (by omega) (.slice p2 l2.length c2) 3).setNew (B := B) (by omega) (.int .i64 a1) 0).setNew (B := B) (by omega) (.int .i64 a2) 1).setNew (B := B) (by omega) (.slice p1 l1.length c1) 2).setNew (B := B) (by omega) (.slice p2 l2.length c2) 3)
  have hk1 := HK1.out; have hk2 := HK2.out; clear HK1 HK2
  replace hk1 := fun W3 (h3 : KT S0 (((((W6.setCell ⟨B, 3, none⟩ (.slice p2 l2.length c2)).setCell ⟨B, 0, none⟩ (.int .i64 a1)).setCell ⟨B, 1, none⟩ (.int .i64 a2)).setCell ⟨B, 2, none⟩ (.slice p1 l1.length c1)).setCell ⟨B, 3, none⟩ (.slice p2 l2.length c2)) W3) => hk1 W3 (((KT.set ((KT.set ((KT.set ((KT.set ((KT.set (KT.refl S0 W6) (hB6) (by decide) 3 (.slice p2 l2.length c2))) ((hB6.setL 3 (.slice p2 l2.length c2))) (by decide) 0 (.int .i64 a1))) (((hB6.setL 3 (.slice p2 l2.length c2)).setL 0 (.int .i64 a1))) (by decide) 1 (.int .i64 a2))) ((((hB6.setL 3 (.slice p2 l2.length c2)).setL 0 (.int .i64 a1)).setL 1 (.int .i64 a2))) (by decide) 2 (.slice p1 l1.length c1))) (((((hB6.setL 3 (.slice p2 l2.length c2)).setL 0 (.int .i64 a1)).setL 1 (.int .i64 a2)).setL 2 (.slice p1 l1.length c1))) (by decide) 3 (.slice p2 l2.length c2))).trans h3)
  replace hk2 := fun W3 (h3 : KT S1 (((((W6.setCell ⟨B, 3, none⟩ (.slice p2 l2.length c2)).setCell ⟨B, 0, none⟩ (.int .i64 a1)).setCell ⟨B, 1, none⟩ (.int .i64 a2)).setCell ⟨B, 2, none⟩ (.slice p1 l1.length c1)).setCell ⟨B, 3, none⟩ (.slice p2 l2.length c2)) W3) => hk2 W3 (((KT.set ((KT.set ((KT.set ((KT.set ((KT.set (KT.refl S1 W6) (hB6) (by decide) 3 (.slice p2 l2.length c2))) ((hB6.setL 3 (.slice p2 l2.length c2))) (by decide) 0 (.int .i64 a1))) (((hB6.setL 3 (.slice p2 l2.length c2)).setL 0 (.int .i64 a1))) (by decide) 1 (.int .i64 a2))) ((((hB6.setL 3 (.slice p2 l2.length c2)).setL 0 (.int .i64 a1)).setL 1 (.int .i64 a2))) (by decide) 2 (.slice p1 l1.length c1))) (((((hB6.setL 3 (.slice p2 l2.length c2)).setL 0 (.int .i64 a1)).setL 1 (.int .i64 a2)).setL 2 (.slice p1 l1.length c1))) (by decide) 3 (.slice p2 l2.length c2))).trans h3)
  have HK1 := Lib.hid hk1; have HK2 := Lib.hid hk2; clear hk1 hk2
  go_wp2_with fail
  have e0 : (((((W6.setCell ⟨B, 3, none⟩ (.slice p2 l2.length c2)).setCell ⟨B, 0, none⟩ (.int .i64 a1)).setCell ⟨B, 1, none⟩ (.int .i64 a2)).setCell ⟨B, 2, none⟩ (.slice p1 l1.length c1)).setCell ⟨B, 3, none⟩ (.slice p2 l2.length c2)).cell? ⟨B, 0, none⟩ = some (.int .i64 a1) := hB7.cell 0
  have e1 : (((((W6.setCell ⟨B, 3, none⟩ (.slice p2 l2.length c2)).setCell ⟨B, 0, none⟩ (.int .i64 a1)).setCell ⟨B, 1, none⟩ (.int .i64 a2)).setCell ⟨B, 2, none⟩ (.slice p1 l1.length c1)).setCell ⟨B, 3, none⟩ (.slice p2 l2.length c2)).cell? ⟨B, 1, none⟩ = some (.int .i64 a2) := hB7.cell 1
  have e2 : (((((W6.setCell ⟨B, 3, none⟩ (.slice p2 l2.length c2)).setCell ⟨B, 0, none⟩ (.int .i64 a1)).setCell ⟨B, 1, none⟩ (.int .i64 a2)).setCell ⟨B, 2, none⟩ (.slice p1 l1.length c1)).setCell ⟨B, 3, none⟩ (.slice p2 l2.length c2)).cell? ⟨B, 2, none⟩ = some (.slice p1 l1.length c1) := hB7.cell 2
  have e3 : (((((W6.setCell ⟨B, 3, none⟩ (.slice p2 l2.length c2)).setCell ⟨B, 0, none⟩ (.int .i64 a1)).setCell ⟨B, 1, none⟩ (.int .i64 a2)).setCell ⟨B, 2, none⟩ (.slice p1 l1.length c1)).setCell ⟨B, 3, none⟩ (.slice p2 l2.length c2)).cell? ⟨B, 3, none⟩ = some (.slice p2 l2.length c2) := hB7.cell 3
  refine bodyPost_ret (v := .agg #[.int .i64 a1, .int .i64 a2, .slice p1 l1.length c1, .slice p2 l2.length c2]) (by simp [results, Try.f27, go_sem, e0, e1, e2, e3]) rfl ?_
  exact ⟨⟨a1, a2, ⟨p1, c1, l1⟩, ⟨p2, c2, l2⟩⟩, rfl, rfl, hr7, fun W3 h3 => ⟨HK1.out W3 (h3.mono (by decide)), HK2.out W3 h3⟩, hg7⟩
theorem cellR_one (rp : Nat) : OneR rp 27 Ce.val Ce.ok Ce.c CeC.e S1 :=
  ⟨enters_own Try.func27 (by kernel_rfl) rfl, fun _ x _ hr hl => cellR_any x hr hl⟩
set_option maxRecDepth 100000 in
set_option maxHeartbeats 2000000 in
theorem threadR_any {rp : Nat} {W : World} (x : ThC) {r : List Int} (h : RdrI rp W (ThC.e x ++ r)) (hl : (ThC.e x ++ r).length ≤ 50000000) :
    Calls Try.prog 33 #[.pointer (some ⟨rp, 0, none⟩)] W fun res W' => ∃ y : Th, res = .returned y.val ∧ y.c = x ∧ RdrI rp W' r ∧ (∀ W3, KT S1 W' W3 → Th.ok W3 y) ∧ G rp W W' := by
  obtain ⟨fl, a1, a2, vk, vn⟩ := x
  have he : ThC.e ⟨fl, a1, a2, vk, vn⟩ ++ r = encL FrC.e fl ++ (a1 :: a2 :: (Vl.e ⟨vk, vn⟩ ++ r)) := by simp [ThC.e, Vl.e]
  rw [he] at h hl
  have HL1 := Lib.hid hl; clear hl he
  have hrp := h.lt
  have hr0 := h.alloc (.cells #[.slice none 0 0, .int .i64 0, .int .i64 0, .int .i64 0, .int .i64 0] 65)
  have hB0 := Blk.mk2 W #[.slice none 0 0, .int .i64 0, .int .i64 0, .int .i64 0, .int .i64 0] 65
  have hg0 := (G.refl rp W).alloc (.cells #[.slice none 0 0, .int .i64 0, .int .i64 0, .int .i64 0, .int .i64 0] 65)
  have hn := some_Fr hr0 (frameR_one rp) HL1.out
  clear h
  generalize hbn : W.heap.size = B at *
  go_enter Try.func33, Try.ntmps33
  go_wp2_with fail
  refine hn.mono ?_
  rintro _ W1 ⟨⟨p1, c1, l1⟩, rfl, hs1, hr1, hk1, hg⟩
  have hB1 := hg.blk hB0 (by omega)
  have hg1 := G.trans hg0 hg
  dsimp only at hs1
  subst hs1
  have HK1 := Lib.hid hk1; clear hk1
  clear hn hg hB0 hg0 hr0
  have q0 : W1.cell? ⟨B, 0, none⟩ = some (.slice none 0 0) := hB1.cell 0
  have f0 := hB1.frozen 0
  have hB2 : Blk (W1.setCell ⟨B, 0, none⟩ (.slice p1 l1.length c1)) B #[.slice p1 l1.length c1, .int .i64 0, .int .i64 0, .int .i64 0, .int .i64 0] 65 := (hB1.setL 0 (.slice p1 l1.length c1))
  have hr2 := (hr1.setNew hrp (.slice p1 l1.length c1) 0)
  have hg2 := (hg1.setNew (B := B) (by omega) (.slice p1 l1.length c1) 0)
  have hk1 := HK1.out; clear HK1
  replace hk1 := fun W3 (h3 : KT S1 (W1.setCell ⟨B, 0, none⟩ (.slice p1 l1.length c1)) W3) => hk1 W3 (((KT.set (KT.refl S1 W1) (hB1) (by decide) 0 (.slice p1 l1.length c1))).trans h3)
  have HK1 := Lib.hid hk1; have HR1 := Lib.hid hr2; clear hk1
  have hn := num_any hr2
  go_wp2_with fail
  generalize (W1.setCell ⟨B, 0, none⟩ (.slice p1 l1.length c1)) = W2 at *
  refine hn.mono ?_
  rintro _ W3 ⟨rfl, hr3, hg⟩
  have hB3 := hg.blk hB2 (by omega)
  have hg3 := G.trans hg2 hg
  have hk1 := HK1.out; clear HK1
  have hkt := HR1.out.kt hg
  replace hk1 := fun W3 h3 => hk1 W3 ((hkt.mono (by decide)).trans h3)
  have HK1 := Lib.hid hk1; clear hk1 hkt HR1
  clear hn hg hB2 hg2 hr2
  clear q0 f0
  have HR1 := Lib.hid hr3
  have hn := num_any hr3
  go_wp2_with fail
  refine hn.mono ?_
  rintro _ W4 ⟨rfl, hr4, hg⟩
  have hB4 := hg.blk hB3 (by omega)
  have hg4 := G.trans hg3 hg
  have hk1 := HK1.out; clear HK1
  have hkt := HR1.out.kt hg
  replace hk1 := fun W3 h3 => hk1 W3 ((hkt.mono (by decide)).trans h3)
  have HK1 := Lib.hid hk1; clear hk1 hkt HR1
  clear hn hg hB3 hg3 hr3
  have q1 : W4.cell? ⟨B, 1, none⟩ = some (.int .i64 0) := hB4.cell 1
  have f1 := hB4.frozen 1
  have q2 : W4.cell? ⟨B, 2, none⟩ = some (.int .i64 0) := hB4.cell 2
  have f2 := hB4.frozen 2
  have hB5 : Blk ((W4.setCell ⟨B, 1, none⟩ (.int .i64 a1)).setCell ⟨B, 2, none⟩ (.int .i64 a2)) B #[.slice p1 l1.length c1, .int .i64 a1, .int .i64 a2, .int .i64 0, .int .i64 0] 65 := ((hB4.setL 1 (.int .i64 a1)).setL 2 (.int .i64 a2))
  have hr5 := ((hr4.setNew hrp (.int .i64 a1) 1).setNew hrp (.int .i64 a2) 2)
  have hg5 := ((hg4.setNew (B := B) (by omega) (.int .i64 a1) 1).setNew (B := B) (by omega) (.int .i64 a2) 2)
  have hk1 := HK1.out; clear HK1
  replace hk1 := fun W3 (h3 : KT S1 ((W4.setCell ⟨B, 1, none⟩ (.int .i64 a1)).setCell ⟨B, 2, none⟩ (.int .i64 a2)) W3) => hk1 W3 (((KT.set ((KT.set (KT.refl S1 W4) (hB4) (by decide) 1 (.int .i64 a1))) ((hB4.setL 1 (.int .i64 a1))) (by decide) 2 (.int .i64 a2))).trans h3)
  have HK1 := Lib.hid hk1; have HR1 := Lib.hid hr5; clear hk1
  have hn := valR_any ⟨vk, vn⟩ hr5
  go_wp2_with fail
  generalize ((W4.setCell ⟨B, 1, none⟩ (.int .i64 a1)).setCell ⟨B, 2, none⟩ (.int .i64 a2)) = W5 at *
  refine hn.mono ?_
  rintro _ W6 ⟨rfl, hr6, hg⟩
  have hB6 := hg.blk hB5 (by omega)
  have hg6 := G.trans hg5 hg
  have hk1 := HK1.out; clear HK1
  have hkt := HR1.out.kt hg
  replace hk1 := fun W3 h3 => hk1 W3 ((hkt.mono (by decide)).trans h3)
  have HK1 := Lib.hid hk1; clear hk1 hkt HR1
  clear hn hg hB5 hg5 hr5
  clear q1 q2 f1 f2
  have q0 : W6.cell? ⟨B, 0, none⟩ = some (.slice p1 l1.length c1) := hB6.cell 0
  have f0 := hB6.frozen 0
  have q1 : W6.cell? ⟨B, 1, none⟩ = some (.int .i64 a1) := hB6.cell 1
  have f1 := hB6.frozen 1
  have q2 : W6.cell? ⟨B, 2, none⟩ = some (.int .i64 a2) := hB6.cell 2
  have f2 := hB6.frozen 2
  have q3 : W6.cell? ⟨B, 3, none⟩ = some (.int .i64 0) := hB6.cell 3
  have f3 := hB6.frozen 3
  have q4 : W6.cell? ⟨B, 4, none⟩ = some (.int .i64 0) := hB6.cell 4
  have f4 := hB6.frozen 4
  have hB7 : Blk (((((((W6.setCell ⟨B, 3, none⟩ (.int .i64 vk)).setCell ⟨B, 4, none⟩ (.int .i64 vn)).setCell ⟨B, 0, none⟩ (.slice p1 l1.length c1)).setCell ⟨B, 1, none⟩ (.int .i64 a1)).setCell ⟨B, 2, none⟩ (.int .i64 a2)).setCell ⟨B, 3, none⟩ (.int .i64 vk)).setCell ⟨B, 4, none⟩ (.int .i64 vn)) B #[.slice p1 l1.length c1, .int .i64 a1, .int .i64 a2, .int .i64 vk, .int .i64 vn] 65 := (((((((hB6.setL 3 (.int .i64 vk)).setL 4 (.int .i64 vn)).setL 0 (.slice p1 l1.length c1)).setL 1 (.int .i64 a1)).setL 2 (.int .i64 a2)).setL 3 (.int .i64 vk)).setL 4 (.int .i64 vn))
  have hr7 := (((((((hr6.setNew hrp (.int .i64 vk) 3).setNew hrp (.int .i64 vn) 4).setNew hrp (.slice p1 l1.length c1) 0).setNew hrp (.int .i64 a1) 1).setNew hrp (.int .i64 a2) 2).setNew hrp (.int .i64 vk) 3).setNew hrp (.int .i64 vn) 4)
  have hg7 := (((((((hg6.setNew (B := B) (by omega) (.int .i64 vk) 3).setNew (B := B) (by omega) (.int .i64 vn) 4).setNew (B := B) (by omega) (.slice p1 l1.length c1) 0).setNew (B := B) (by omega) (.int .i64 a1) 1).setNew (B := B) (by omega) (.int .i64 a2) 2).setNew (B := B) (by omega) (.int .i64 vk) 3).setNew (B := B) (by omega) (.int .i64 vn) 4)
  have hk1 := HK1.out; clear HK1
  replace hk1 := fun W3 (h3 : KT S1 (((((((W6.setCell ⟨B, 3, none⟩ (.int .i64 vk)).setCell ⟨B, 4, none⟩ (.int .i64 vn)).setCell ⟨B, 0, none⟩ (.slice p1 l1.length c1)).setCell ⟨B, 1, none⟩ (.int .i64 a1)).setCell ⟨B, 2, none⟩ (.int .i64 a2)).setCell ⟨B, 3, none⟩ (.int .i64 vk)).setCell ⟨B, 4, none⟩ (.int .i64 vn)) W3) => hk1 W3 (((KT.set ((KT.set ((KT.set ((KT.set ((KT.set ((KT.set ((KT.set (KT.refl S1 W6) (hB6) (by decide) 3 (.int .i64 vk))) ((hB6.setL 3 (.int .i64 vk))) (by decide) 4 (.int .i64 vn))) (((hB6.setL 3 (.int .i64 vk)).setL 4 (.int .i64 vn))) (by decide) 0 (.slice p1 l1.length c1))) ((((hB6.setL 3 (.int .i64 vk)).setL 4 (.int .i64 vn)).setL 0 (.slice p1 l1.length c1))) (by decide) 1 (.int .i64 a1))) (((((hB6.setL 3 (.int .i64 vk)).setL 4 (.int .i64 vn)).setL 0 (.slice p1 l1.length c1)).setL 1 (.int .i64 a1))) (by decide) 2 (.int .i64 a2))) ((((((hB6.setL 3 (.int .i64 vk)).setL 4 (.int .i64 vn)).setL 0 (.slice p1 l1.length c1)).setL 1 (.int .i64 a1)).setL 2 (.int .i64 a2))) (by decide) 3 (.int .i64 vk))) (((((((hB6.setL 3 (.int .i64 vk)).setL 4 (.int .i64 vn)).setL 0 (.slice p1 l1.length c1)).setL 1 (.int .i64 a1)).setL 2 (.int .i64 a2)).setL 3 (.int .i64 vk))) (by decide) 4 (.int .i64 vn))).trans h3)
  have HK1 := Lib.hid hk1; clear hk1
  go_wp2_with fail
  have e0 : (((((((W6.setCell ⟨B, 3, none⟩ (.int .i64 vk)).setCell ⟨B, 4, none⟩ (.int .i64 vn)).setCell ⟨B, 0, none⟩ (.slice p1 l1.length c1)).setCell ⟨B, 1, none⟩ (.int .i64 a1)).setCell ⟨B, 2, none⟩ (.int .i64 a2)).setCell ⟨B, 3, none⟩ (.int .i64 vk)).setCell ⟨B, 4, none⟩ (.int .i64 vn)).cell? ⟨B, 0, none⟩ = some (.slice p1 l1.length c1) := hB7.cell 0
  have e1 : (((((((W6.setCell ⟨B, 3, none⟩ (.int .i64 vk)).setCell ⟨B, 4, none⟩ (.int .i64 vn)).setCell ⟨B, 0, none⟩ (.slice p1 l1.length c1)).setCell ⟨B, 1, none⟩ (.int .i64 a1)).setCell ⟨B, 2, none⟩ (.int .i64 a2)).setCell ⟨B, 3, none⟩ (.int .i64 vk)).setCell ⟨B, 4, none⟩ (.int .i64 vn)).cell? ⟨B, 1, none⟩ = some (.int .i64 a1) := hB7.cell 1
  have e2 : (((((((W6.setCell ⟨B, 3, none⟩ (.int .i64 vk)).setCell ⟨B, 4, none⟩ (.int .i64 vn)).setCell ⟨B, 0, none⟩ (.slice p1 l1.length c1)).setCell ⟨B, 1, none⟩ (.int .i64 a1)).setCell ⟨B, 2, none⟩ (.int .i64 a2)).setCell ⟨B, 3, none⟩ (.int .i64 vk)).setCell ⟨B, 4, none⟩ (.int .i64 vn)).cell? ⟨B, 2, none⟩ = some (.int .i64 a2) := hB7.cell 2
  have e3 : (((((((W6.setCell ⟨B, 3, none⟩ (.int .i64 vk)).setCell ⟨B, 4, none⟩ (.int .i64 vn)).setCell ⟨B, 0, none⟩ (.slice p1 l1.length c1)).setCell ⟨B, 1, none⟩ (.int .i64 a1)).setCell ⟨B, 2, none⟩ (.int .i64 a2)).setCell ⟨B, 3, none⟩ (.int .i64 vk)).setCell ⟨B, 4, none⟩ (.int .i64 vn)).cell? ⟨B, 3, none⟩ = some (.int .i64 vk) := hB7.cell 3
  have e4 : (((((((W6.setCell ⟨B, 3, none⟩ (.int .i64 vk)).setCell ⟨B, 4, none⟩ (.int .i64 vn)).setCell ⟨B, 0, none⟩ (.slice p1 l1.length c1)).setCell ⟨B, 1, none⟩ (.int .i64 a1)).setCell ⟨B, 2, none⟩ (.int .i64 a2)).setCell ⟨B, 3, none⟩ (.int .i64 vk)).setCell ⟨B, 4, none⟩ (.int .i64 vn)).cell? ⟨B, 4, none⟩ = some (.int .i64 vn) := hB7.cell 4
  refine bodyPost_ret (v := .agg #[.slice p1 l1.length c1, .int .i64 a1, .int .i64 a2, .int .i64 vk, .int .i64 vn]) (by simp [results, Try.f33, go_sem, e0, e1, e2, e3, e4]) rfl ?_
  exact ⟨⟨⟨p1, c1, l1⟩, a1, a2, vk, vn⟩, rfl, rfl, hr7, fun W3 h3 => HK1.out W3 h3, hg7⟩
theorem threadR_one (rp : Nat) : OneR rp 33 Th.val Th.ok Th.c ThC.e S1 :=
  ⟨enters_own Try.func33 (by kernel_rfl) rfl, fun _ x _ hr hl => threadR_any x hr hl⟩
end Go.Proofs.Ythdleldnjoamlaa
