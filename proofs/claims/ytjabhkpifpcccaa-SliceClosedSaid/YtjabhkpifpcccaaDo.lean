/-
  The walk of do.
-/
import Derived.Test.YtjabhkpifpcccaaRight
import Derived.Test.YtjabhkpifpcccaaMap
import Derived.Deep.QuietTactic
import Derived.BigQuiet
namespace Go.Proofs.Ytjabhkpifpcccaa
open Go.RowKit
open Go.Maps (Keyed)

theorem keyedI : Keyed Try.prog 3 := Go.Maps.int_keyed Try.underlying3
theorem keyI {x : Int} (h : (Lit.int .i64 x).wf = true) : ∃ kl, keyOf Try.prog 3 (.int .i64 x) = some kl := ⟨_, Go.Maps.keyOf_int_mk Try.underlying3 h⟩
/-- A map from numbers to numbers that a call has made, as a function: what is not there is 0. -/
def EnvIs (w : World) (b n : Nat) (E : Int → Int) : Prop := ∃ G, MapIs Try.prog w 3 b n G ∧ ∀ x, (G (.int .i64 x)).getD (.int .i64 0) = .int .i64 (E x)
theorem EnvIs.below {w w' : World} {b n : Nat} {E : Int → Int} (h : EnvIs w b n E) {B : Nat} (hw : Below B w w') (hb : b < B) : EnvIs w' b n E := by
  obtain ⟨G, h1, h2⟩ := h
  exact ⟨G, h1.below hw hb, h2⟩
theorem EnvIs.lt {w : World} {b n : Nat} {E : Int → Int} (h : EnvIs w b n E) : b < w.heap.size := by obtain ⟨G, h1, h2⟩ := h; exact h1.lt
def opv (E : Int → Int) (x : Ln) : Int := if x.o = 0 then wrap64 (E x.a + E x.b) else if x.o = 1 then wrap64 (E x.a - E x.b) else if x.o = 2 then wrap64 (E x.a * E x.b) else x.a
def stepE (E : Int → Int) (x : Ln) : Int → Int := fun y => if y = x.t then opv E x else E y
theorem EnvIs.put {w : World} {b n : Nat} {E : Int → Int} {G : Value → Option Value} (h2 : ∀ x, (G (.int .i64 x)).getD (.int .i64 0) = .int .i64 (E x)) {x : Ln} (v : Int) (hv : v = opv E x) (h : MapIs Try.prog w 3 b n (putG G (.int .i64 x.t) (.int .i64 v))) : EnvIs w b n (stepE E x) := by
  refine ⟨_, h, fun y => ?_⟩
  unfold stepE
  by_cases hy : y = x.t
  · subst hy; rw [putG_same, if_pos rfl, ← hv]; rfl
  · rw [putG_other _ _ (fun e => hy (by simpa using e)), if_neg hy, h2]

set_option maxRecDepth 100000 in
set_option maxHeartbeats 2000000 in
theorem do_any {w : World} {b n : Nat} {E : Int → Int} (hE : EnvIs w b n E) (hn : n < 1000000) (x : Ln) (hx : x.Wf) :
    Calls Try.prog 15 #[.map (some b), x.val] w fun e w' => (∃ v, e = .returned v) ∧ EnvIs w' b (n + 1) (stepE E x) ∧ Below b w w' := by
  obtain ⟨G, hM, hG⟩ := hE
  obtain ⟨ka, hka⟩ := keyI hx.a
  obtain ⟨kb, hkb⟩ := keyI hx.b
  obtain ⟨kt, hkt⟩ := keyI hx.t
  have hput := fun (w' : World) (v : Int) (hv : v = opv E x) (h : MapIs Try.prog w' 3 b (n + 1) (putG G (.int .i64 x.t) (.int .i64 v))) => EnvIs.put hG v hv h
  have ga := hG x.a
  have gb := hG x.b
  have hz0 := fun (W : World) => Try.zeroValue3 W
  have hop : opv E x = if x.o = 0 then wrap64 (E x.a + E x.b) else if x.o = 1 then wrap64 (E x.a - E x.b) else if x.o = 2 then wrap64 (E x.a * E x.b) else x.a := rfl
  have Hop := Lib.hid hop; clear hop hG
  obtain ⟨xt, xo, xa, xb⟩ := x
  dsimp only [Ln.val] at *
  have hla := fun (W : World) (h : MapIs Try.prog W 3 b n G) => h.look false keyedI Try.underlying45 (hz0 W) hka
  have hlb := fun (W : World) (h : MapIs Try.prog W 3 b n G) => h.look false keyedI Try.underlying45 (hz0 W) hkb
  rw [ga] at hla
  rw [gb] at hlb
  generalize E xa = va at *
  generalize E xb = vb at *
  go_enter Try.func15, Try.ntmps15
  go_wp2_with fail
  have hM0 := hM.alloc (.cells #[.int .i64 xt, .int .i64 xo, .int .i64 xa, .int .i64 xb] 41)
  have hX := Blk.mk_ w #[.int .i64 xt, .int .i64 xo, .int .i64 xa, .int .i64 xb] 41 rfl
  have hb0 := ((Below.refl b w).alloc (Nat.le_of_lt hM.lt) (.cells #[.int .i64 xt, .int .i64 xo, .int .i64 xa, .int .i64 xb] 41))
  generalize w.heap.size = B at *
  generalize w.alloc (.cells #[.int .i64 xt, .int .i64 xo, .int .i64 xa, .int .i64 xb] 41) = w1 at *
  have la := fun m => hla (w1.drewN m) (hM0.of_heap rfl)
  have lb := fun m => hlb (w1.drewN m) (hM0.of_heap rfl)
  simp only [Bool.false_eq_true, if_false] at la lb
  have x0 := hX.cell 0
  have x1 := hX.cell 1
  have x2 := hX.cell 2
  have x3 := hX.cell 3
  change w1.cell? ⟨B, 0, none⟩ = some (.int .i64 xt) at x0
  change w1.cell? ⟨B, 1, none⟩ = some (.int .i64 xo) at x1
  change w1.cell? ⟨B, 2, none⟩ = some (.int .i64 xa) at x2
  change w1.cell? ⟨B, 3, none⟩ = some (.int .i64 xb) at x3
  have Hput := Lib.hid hput
  clear hput hla hlb hM hz0 ga gb
  go_quiet (fail)
  have hMq : MapIs Try.prog (w1.drewN nq) 3 b n G := hM0.of_heap rfl
  have hbq : Below b w (w1.drewN nq) := hb0.trans ⟨rfl, rfl, rfl, Nat.le_refl _, fun _ _ => rfl⟩
  have y0 : (w1.drewN nq).cell? ⟨B, 0, none⟩ = some (.int .i64 xt) := x0
  have y1 : (w1.drewN nq).cell? ⟨B, 1, none⟩ = some (.int .i64 xo) := x1
  have y2 : (w1.drewN nq).cell? ⟨B, 2, none⟩ = some (.int .i64 xa) := x2
  have hfin : ∀ w2, (w1.drewN nq).grownBy w2 (some b) → Below b w w2 := fun w2 h => hbq.grown h (Nat.le_of_lt hMq.lt) (fun r e => by cases e; exact Nat.le_refl _)
  have Hfin := Lib.hid hfin; clear hfin
  clear x0 x1 x2 x3 la lb hM0 hb0 hbq hX
  generalize w1.drewN nq = wq at *
  have hMl := hMq.lt
  by_cases o0 : xo = 0
  · subst o0
    have hv : wrap64 (va + vb) = opv E ⟨xt, 0, xa, xb⟩ := by rw [Hop.out]; simp
    have Hv := Lib.hid hv; clear hv
    go_wp2_with (at_mapUpdate; refine wpList_mapUpdate_is rfl _ _ _ 45 rfl 3 keyedI Try.underlying45 rfl hMq (by unfold maxLen; omega) (.int .i64 xt) _ kt rfl rfl hkt ?_; intro w2 hmap2 hg2)
    go_end0
    exact ⟨⟨_, rfl⟩, Hput.out _ _ Hv.out hmap2, Hfin.out _ hg2⟩
  · by_cases o1 : xo = 1
    · subst o1
      have hv : wrap64 (va - vb) = opv E ⟨xt, 1, xa, xb⟩ := by rw [Hop.out]; simp
      have Hv := Lib.hid hv; clear hv
      go_wp2_with (at_mapUpdate; refine wpList_mapUpdate_is rfl _ _ _ 45 rfl 3 keyedI Try.underlying45 rfl hMq (by unfold maxLen; omega) (.int .i64 xt) _ kt rfl rfl hkt ?_; intro w2 hmap2 hg2)
      go_end0
      exact ⟨⟨_, rfl⟩, Hput.out _ _ Hv.out hmap2, Hfin.out _ hg2⟩
    · by_cases o2 : xo = 2
      · subst o2
        have hv : wrap64 (va * vb) = opv E ⟨xt, 2, xa, xb⟩ := by rw [Hop.out]; simp
        have Hv := Lib.hid hv; clear hv
        go_wp2_with (at_mapUpdate; refine wpList_mapUpdate_is rfl _ _ _ 45 rfl 3 keyedI Try.underlying45 rfl hMq (by unfold maxLen; omega) (.int .i64 xt) _ kt rfl rfl hkt ?_; intro w2 hmap2 hg2)
        go_end0
        exact ⟨⟨_, rfl⟩, Hput.out _ _ Hv.out hmap2, Hfin.out _ hg2⟩
      · have hv : xa = opv E ⟨xt, xo, xa, xb⟩ := by rw [Hop.out]; simp [o0, o1, o2]
        have q0 : (xo == 0) = false := by simpa using o0
        have q1 : (xo == 1) = false := by simpa using o1
        have q2 : (xo == 2) = false := by simpa using o2
        have Hv := Lib.hid hv; clear hv
        go_wp2_with (at_mapUpdate; refine wpList_mapUpdate_is rfl _ _ _ 45 rfl 3 keyedI Try.underlying45 rfl hMq (by unfold maxLen; omega) (.int .i64 xt) _ kt rfl rfl hkt ?_; intro w2 hmap2 hg2)
        go_end0
        exact ⟨⟨_, rfl⟩, Hput.out _ _ Hv.out hmap2, Hfin.out _ hg2⟩
end Go.Proofs.Ytjabhkpifpcccaa
