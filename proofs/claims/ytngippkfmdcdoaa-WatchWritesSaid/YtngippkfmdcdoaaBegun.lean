import Derived.Test.YtngippkfmdcdoaaValue
import Derived.Test.YtngippkfmdcdoaaWhole
import Derived.Test.YtngippkfmdcdoaaWrites
namespace Go.Proofs.Ytngippkfmdcdoaa
open Go.RowKit
def watchedL : List Ev := [⟨1, 0, 0, 0, 0, 0, 0, 0, 0, 0, 0, 0⟩, ⟨4, 0, 0, 0, 0, 0, 2, 1, 2, 5, 2, 4⟩, ⟨3, 0, 0, 0, 0, 0, 2, 1, 2, 5, 0, 0⟩]
set_option maxRecDepth 100000 in
set_option maxHeartbeats 2000000 in
theorem watched_any (w : World) : Calls Try.prog 12 #[] w fun e w' => ∃ p' c', e = .returned (.slice p' watchedL.length c') ∧ w'.ownsRow w.heap.size 33 12 (.slice p' watchedL.length c') watchedL.length (evs watchedL) ∧ Below w.heap.size w w' := by
  go_enter Try.func12, Try.ntmps12
  go_wp2
  go_ret
  exact ⟨_, _, rfl, World.ownsRow_lit w _ 3 (Nat.le_refl _) (by decide) rfl, (Below.refl _ _).alloc (Nat.le_refl _) _⟩

theorem info33 : (Try.prog.info? 33).map (fun i => (i.zero, i.size, i.bytes)) = some (some Ev.z.val, 12, 96) := by kernel_rfl
def watchedL2 : List Ev := watchedL ++ [⟨3, 0, 0, 0, 0, 0, 2, 1, 0, 0, 0, 0⟩]
theorem value3 : valueM watchedL 2 1 3 = ((2, 5), true, 0) := by decide
theorem value0 : valueM watchedL 2 1 0 = ((2, 4), true, 0) := by decide
theorem last3 : lastM watchedL 2 1 3 = (1, true, 0) := by decide
theorem whole2 : wholeM watchedL2 = (3, true, 0) := by decide

set_option maxRecDepth 100000 in
set_option maxHeartbeats 2000000 in
theorem begun_any (w : World) : Calls Try.prog 6 #[] w fun e w' => e = .returned (.bool true) ∧ Below w.heap.size w w' := by
  obtain ⟨i0, hi, iz0, iz1, iz2⟩ := info_parts info33
  go_enter Try.func6, Try.ntmps6
  go_wp2_with fail
  refine (watched_any w).mono ?_
  rintro _ w1 ⟨p1, c1, rfl, ho1, hb1⟩
  go_wp2_with fail
  refine (value_any p1 c1 watchedL 2 1 3 w1 (Sl.of_own ho1)).mono ?_
  rintro _ w2 ⟨rfl, hb2⟩
  rw [value3]
  replace hb2 := hb1.trans (hb2.mono hb1.size)
  clear ho1 hb1
  unfold vbi
  dsimp only
  go_wp2_with fail
  have bA := Blk.mk_ w2 #[.int .i64 2, .int .i64 5] 28 rfl
  replace hb2 := hb2.alloc hb2.size (.cells #[.int .i64 2, .int .i64 5] 28)
  generalize hBA : w2.heap.size = BA at *
  generalize w2.alloc (.cells #[.int .i64 2, .int .i64 5] 28) = w3 at *
  clear hBA
  refine (watched_any w3).mono ?_
  rintro _ w4 ⟨p4, c4, rfl, ho4, hb4⟩
  have bA4 := bA.next hb4
  go_wp2_with fail
  refine (value_any p4 c4 watchedL 2 1 0 w4 (Sl.of_own ho4)).mono ?_
  rintro _ w5 ⟨rfl, hb5⟩
  rw [value0]
  have bA5 := bA4.next hb5
  replace hb5 := hb2.trans ((hb4.trans (hb5.mono hb4.size)).mono hb2.size)
  clear ho4 hb4 hb2 bA bA4
  unfold vbi
  dsimp only
  go_wp2_with fail
  have bB := Blk.mk_ w5 #[.int .i64 2, .int .i64 4] 28 rfl
  have bA6 := bA5.alloc (.cells #[.int .i64 2, .int .i64 4] 28)
  replace hb5 := hb5.alloc hb5.size (.cells #[.int .i64 2, .int .i64 4] 28)
  generalize hBB : w5.heap.size = BB at *
  generalize w5.alloc (.cells #[.int .i64 2, .int .i64 4] 28) = w6 at *
  clear hBB bA5
  refine (watched_any w6).mono ?_
  rintro _ w7 ⟨p7, c7, rfl, ho7, hb7⟩
  go_wp2_with fail
  refine (last_any p7 c7 watchedL 2 1 3 w7 (Sl.of_own ho7)).mono ?_
  rintro _ w8 ⟨rfl, hb8⟩
  rw [last3]
  replace bA6 := (bA6.next hb7).next hb8
  replace bB := (bB.next hb7).next hb8
  replace hb8 := hb5.trans ((hb7.trans (hb8.mono hb7.size)).mono hb5.size)
  clear ho7 hb7 hb5
  have hla := bA6.lt
  have hz8 := hb8.size
  have hlb := bB.lt
  unfold ibi
  dsimp only
  go_wp2_with fail
  refine (watched_any w8).mono ?_
  rintro _ w9 ⟨p9, c9, rfl, ho9, hb9⟩
  replace bA6 := bA6.next hb9
  replace bB := bB.next hb9
  replace hb8 := hb8.trans (hb9.mono hb8.size)
  have hz89 := hb9.size
  clear hb9
  have hz9 := hb8.size
  have hba := (Below.refl _ w9).alloc (Nat.le_refl _) (.cells (evs [⟨3, 0, 0, 0, 0, 0, 2, 1, 0, 0, 0, 0⟩]).toArray 33)
  have hownA := own_below ho9 hba
  have hslA : Sl (w9.alloc (.cells (evs [⟨3, 0, 0, 0, 0, 0, 2, 1, 0, 0, 0, 0⟩]).toArray 33)) 12 (some ⟨w9.heap.size, 0, none⟩) 1 1 (evs [⟨3, 0, 0, 0, 0, 0, 2, 1, 0, 0, 0, 0⟩]) := ⟨new_row w9 _ 33 (0, 0), rfl, Nat.le_refl _, by omega, fun h => by cases h⟩
  go_wp2_with (at_builtin; go_loud (refine wpList_append_sl _ rfl _ _ 22 rfl w8.heap.size 33 i0 Ev.z.val 12 96 Try.underlying22 hi iz0 iz1 iz2 rfl (by decide) _ watchedL.length _ rfl hownA _ 1 1 _ rfl hslA evs_one (by decide) (by decide) (Nat.le_trans hz89 hba.size) ?_; intro p2 c2 w10 hown3 hbel2))
  have bA9 : Blk w10 BA #[.int .i64 2, .int .i64 5] 28 := (bA6.alloc _).below hbel2 hla
  have bB9 : Blk w10 BB #[.int .i64 2, .int .i64 4] 28 := (bB.alloc _).below hbel2 hlb
  rw [← evs_append] at hown3
  replace hb8 := (hb8.alloc hz9 _).trans (hbel2.mono hz8)
  clear hownA hslA hba ho9 bA6 bB hbel2
  refine (whole_any p2 c2 watchedL2 w10 (Sl.of_own hown3) (by unfold EvsWf; decide)).mono ?_
  rintro _ w11 ⟨rfl, hb11⟩
  rw [whole2]
  have cA : w11.cell? ⟨BA, 1, none⟩ = some (.int .i64 5) := (bA9.next hb11).cell 1
  have cB : w11.cell? ⟨BB, 1, none⟩ = some (.int .i64 4) := (bB9.next hb11).cell 1
  replace hb8 := hb8.trans (hb11.mono hb8.size)
  clear hown3 bA9 bB9 hb11
  unfold ibi'
  dsimp only
  go_wp2
  go_ret
  exact ⟨rfl, hb8⟩
end Go.Proofs.Ytngippkfmdcdoaa
