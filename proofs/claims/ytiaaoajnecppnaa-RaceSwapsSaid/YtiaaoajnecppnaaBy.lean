/-
  cmp.Compare, cmp.Or of ints; how pairs are sorted: by the second, then by the first.
-/
import Derived.Test.YtiaaoajnecppnaaDp
import Derived.Test.YtiaaoajnecppnaaPlan
import Derived.Test.YtiaaoajnecppnaaFast
import Derived.Test.YtiaaoajnecppnaaInts
import Derived.Test.YtiaaoajnecppnaaBlk
import Derived.Shelf.SlSortCmp.InsertionK
import Derived.Deep.LoopGhost
namespace Go.Proofs.Ytiaaoajnecppnaa
open Go.RowKit Go.Sort

instance : Inhabited Dp := ⟨.z⟩
def cmpI (a b : Int) : Int := if a < b then -1 else if b < a then 1 else 0
def cfP (x y : Dp) : Int := if cmpI x.j y.j ≠ 0 then cmpI x.j y.j else cmpI x.i y.i
theorem cmpI_lt (a b : Int) : cmpI a b < 0 ↔ a < b := by
  unfold cmpI
  split
  · next h => simp [h]
  · next h => split <;> simp [h]
theorem cmpI_zero (a b : Int) : cmpI a b = 0 ↔ a = b := by
  unfold cmpI
  split
  · next h => constructor
              · intro e; cases e
              · omega
  · next h =>
    split
    · next h2 => constructor
                 · intro e; cases e
                 · omega
    · next h2 => constructor
                 · omega
                 · intro _; rfl
theorem cfP_lt (x y : Dp) : cfP x y < 0 ↔ (x.j < y.j ∨ x.j = y.j ∧ x.i < y.i) := by
  unfold cfP
  by_cases h : cmpI x.j y.j = 0
  · rw [if_neg (by simpa using h), cmpI_lt]
    have := (cmpI_zero _ _).1 h
    constructor
    · intro h2; exact .inr ⟨this, h2⟩
    · rintro (h2 | ⟨-, h2⟩)
      · omega
      · exact h2
  · rw [if_pos h, cmpI_lt]
    have : x.j ≠ y.j := fun e => h ((cmpI_zero _ _).2 e)
    constructor
    · intro h2; exact .inl h2
    · rintro (h2 | ⟨h2, -⟩)
      · exact h2
      · exact absurd h2 this
theorem ltOf_cfP : ltOf cfP = fun x y : Dp => decide (x.j < y.j ∨ x.j = y.j ∧ x.i < y.i) := by
  funext x y
  exact decide_eq_decide.2 (cfP_lt x y)
theorem swo_cfP : SWO (ltOf cfP) := by
  rw [ltOf_cfP]
  exact ⟨fun x => by simp, fun x y z h1 h2 => by simp at *; omega, fun x y z h1 h2 => by simp at *; omega⟩
theorem tot_cfP (x y : Dp) (h1 : ltOf cfP x y = false) (h2 : ltOf cfP y x = false) : x = y := by
  rw [ltOf_cfP] at h1 h2
  simp at h1 h2
  obtain ⟨a, b⟩ := x
  obtain ⟨c, d⟩ := y
  simp at *
  omega

theorem nan_any (a : Int) (w : World) : Calls Try.prog 53 #[.int .i64 a] w fun e w' => e = .returned (.bool false) ∧ w' = w := by
  go_enter Try.func53, Try.ntmps53
  go_wp2
  go_ret
  exact ⟨ret_bool (by simp), rfl⟩

theorem compare_any (a b : Int) (w : World) : Calls Try.prog 40 #[.int .i64 a, .int .i64 b] w fun e w' => e = .returned (.int .i64 (cmpI a b)) ∧ w' = w := by
  unfold cmpI
  go_enter Try.func40, Try.ntmps40
  by_cases h : a < b
  · rw [if_pos h]
    go_wp2_with (go_at_call 53; refine (nan_any _ _).mono ?_; rintro e w1 ⟨rfl, rfl⟩)
    go_ret
    exact ⟨rfl, rfl⟩
  · rw [if_neg h]
    by_cases h2 : b < a
    · rw [if_pos h2]
      go_wp2_with (go_at_call 53; refine (nan_any _ _).mono ?_; rintro e w1 ⟨rfl, rfl⟩)
      go_ret
      exact ⟨rfl, rfl⟩
    · rw [if_neg h2]
      go_wp2_with (go_at_call 53; refine (nan_any _ _).mono ?_; rintro e w1 ⟨rfl, rfl⟩)
      go_ret
      exact ⟨rfl, rfl⟩

theorem or_any {w : World} {b : Nat} (x y : Int) (h0 : w.cell? ⟨b, 0, none⟩ = some (.int .i64 x)) (h1 : w.cell? ⟨b, 1, none⟩ = some (.int .i64 y)) :
    Calls Try.prog 39 #[.slice (some ⟨b, 0, none⟩) 2 2] w fun e w' => e = .returned (.int .i64 (if x ≠ 0 then x else y)) ∧ w' = w := by
  obtain ⟨R, hR⟩ : ∃ R, R = if x ≠ 0 then x else y := ⟨_, rfl⟩
  rw [← hR]
  go_enter Try.func39, Try.ntmps39
  go_wp2_with fail
  refine wp_loop_rounds 3 ?_
  rw [rounds_succ]
  by_cases hx : x = 0
  · rw [if_neg (by simpa using hx)] at hR
    subst hx
    subst hR
    go_wp2_with fail
    rw [rounds_succ]
    by_cases hy : R = 0
    · subst hy
      go_wp2_with fail
      rw [rounds_succ]
      go_wp2_with fail
      go_ret
      exact ⟨rfl, rfl⟩
    · have hyb : (R == 0) = false := by simpa using hy
      go_wp2_with fail
      go_ret
      exact ⟨rfl, rfl⟩
  · have hxb : (x == 0) = false := by simpa using hx
    rw [if_pos hx] at hR
    subst hR
    go_wp2_with fail
    go_ret
    exact ⟨rfl, rfl⟩

set_option maxHeartbeats 4000000 in
theorem byPair_any (x y : Dp) (W : World) : Calls Try.prog 38 #[x.val, y.val] W fun e w' => e = .returned (.int .i64 (cfP x y)) ∧ ∃ q os', w' = grow (W.drewN q) os' := by
  obtain ⟨a, b⟩ := x
  obtain ⟨a', b'⟩ := y
  unfold cfP
  have HC1 := Lib.hid (fun W' => compare_any b b' W')
  have HC2 := Lib.hid (fun W' => compare_any a a' W')
  dsimp only
  generalize cmpI b b' = r at *
  generalize cmpI a a' = r2 at *
  obtain ⟨rr, hrr⟩ : ∃ rr, rr = if r ≠ 0 then r else r2 := ⟨_, rfl⟩
  rw [← hrr]
  have HRR := Lib.hid hrr
  clear hrr
  dsimp only [Dp.val]
  have b1 := Blk.mk_ W #[.int .i64 a, .int .i64 b] 35 rfl
  have b2 := Blk.mk_ (W.alloc (.cells #[.int .i64 a, .int .i64 b] 35)) #[.int .i64 a', .int .i64 b'] 35 rfl
  have b1' := b1.next ((Below.refl _ (W.alloc (.cells #[.int .i64 a, .int .i64 b] 35))).alloc (Nat.le_refl _) (.cells #[.int .i64 a', .int .i64 b'] 35))
  rw [World.size_alloc] at b2
  have HX : Hid (((W.alloc (.cells #[.int .i64 a, .int .i64 b] 35)).alloc (.cells #[.int .i64 a', .int .i64 b'] 35)) = grow W #[.cells #[.int .i64 a, .int .i64 b] 35, .cells #[.int .i64 a', .int .i64 b'] 35]) := by
    show _ = _
    rw [alloc_eq_grow, alloc_eq_grow, grow_grow]; rfl
  go_enter Try.func38, Try.ntmps38
  go_wp2_with fail
  generalize ((W.alloc (.cells #[.int .i64 a, .int .i64 b] 35)).alloc (.cells #[.int .i64 a', .int .i64 b'] 35)) = X at *
  have c0 : X.cell? ⟨W.heap.size, 0, none⟩ = some (.int .i64 a) := b1'.cell 0
  have c1 : X.cell? ⟨W.heap.size, 1, none⟩ = some (.int .i64 b) := b1'.cell 1
  have c2 : X.cell? ⟨W.heap.size + 1, 0, none⟩ = some (.int .i64 a') := b2.cell 0
  have c3 : X.cell? ⟨W.heap.size + 1, 1, none⟩ = some (.int .i64 b') := b2.cell 1
  have r0 := cell_regrown c0
  have r1 := cell_regrown c1
  have r2' := cell_regrown c2
  have r3 := cell_regrown c3
  clear b1 b2 b1' c0 c1 c2 c3
  refine wp_region_plan (fun w' => ∃ p : Regrown, w' = grow (redrawn X p.d) p.os) (.one [0, 1, 2, 3, 5, 6, 7, 8] 4 (.one [] 9 (.one [] 10 (.one [] 11 (.last [12]))))) rfl (by kernel_rfl) (by kernel_rfl) (by kernel_rfl) (regrown_of_below (Below.refl _ _).drew) ?_
  change wpPlan _ _ _ _ _ _ X.drew
  refine wpPlan_one fun K hK => ?_
  have HK := Lib.hid hK; clear hK
  simp only [pick, List.getD_cons_succ, List.getD_cons_zero]
  iterate 8 (go_big_quiet_step (fail))
  refine wpQuiet_nil ?_
  go_wp2_with fail
  refine (HC1.out _).mono ?_
  rintro _ wa ⟨rfl, hwa⟩
  subst hwa
  go_wp2_with fail
  refine ⟨regrown_of_below (Below.refl _ _).drew, HK.out _ _ ?_⟩
  clear HK K
  refine wpPlan_one fun K hK => ?_
  have HK := Lib.hid hK; clear hK
  simp only [pick, List.getD_cons_succ, List.getD_cons_zero]
  refine wpQuiet_nil ?_
  go_wp2_with fail
  refine (HC2.out _).mono ?_
  rintro _ wa ⟨rfl, hwa⟩
  subst hwa
  go_wp2_with fail
  refine ⟨regrown_of_below (Below.refl _ _).drew, HK.out _ _ ?_⟩
  clear HK K
  refine wpPlan_one fun K hK => ?_
  have HK := Lib.hid hK; clear hK
  simp only [pick, List.getD_cons_succ, List.getD_cons_zero]
  refine wpQuiet_nil ?_
  go_wp2_with fail
  refine ⟨regrown_of_below (((Below.refl _ X).alloc (Nat.le_refl _) (.cells #[.int .i64 r, .int .i64 r2] 3)).drew), HK.out _ _ ?_⟩
  clear HK K
  refine wpPlan_one fun K hK => ?_
  have HK := Lib.hid hK; clear hK
  simp only [pick, List.getD_cons_succ, List.getD_cons_zero]
  refine wpQuiet_nil ?_
  have bL := Blk.mk_ X #[.int .i64 r, .int .i64 r2] 3 rfl
  have ho := (or_any (w := (X.alloc (.cells #[.int .i64 r, .int .i64 r2] 3)).drew) (b := X.heap.size) r r2 (bL.cell 0) (bL.cell 1))
  rw [← HRR.out] at ho
  have HO := Lib.hid ho
  clear ho bL
  go_wp2_with fail
  refine HO.out.mono ?_
  rintro _ wa ⟨rfl, hwa⟩
  subst hwa
  go_wp2_with fail
  refine ⟨regrown_of_below (((Below.refl _ X).alloc (Nat.le_refl _) (.cells #[.int .i64 r, .int .i64 r2] 3)).drew), HK.out _ _ ?_⟩
  clear HK K
  refine wpPlan_last ?_
  simp only [pick, List.getD_cons_succ, List.getD_cons_zero]
  go_big_quiet_step (fail)
  refine wpQuiet_nil ?_
  refine NoPanic.normal ?_
  go_wp2_with fail
  go_ret
  refine ⟨rfl, 1, #[.cells #[.int .i64 a, .int .i64 b] 35, .cells #[.int .i64 a', .int .i64 b'] 35] ++ #[.cells #[.int .i64 r, .int .i64 r2] 3], ?_⟩
  rw [HX.out, alloc_eq_grow, grow_grow]
  rfl
theorem cmpLays (blk off size : Nat) (w : World) : CmpLays Try.prog 38 #[] Dp.cells 2 cfP blk off size w := fun _ _ _ _ x y => byPair_any x y _
end Go.Proofs.Ytiaaoajnecppnaa
