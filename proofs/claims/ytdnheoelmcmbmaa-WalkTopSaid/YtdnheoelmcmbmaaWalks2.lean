/-
  The walks of the package walk, 2: Top; and the closed calls of walkBegun.
-/
import Derived.Test.YtdnheoelmcmbmaaWalks
namespace Go.Proofs.Ytdnheoelmcmbmaa
open Go.RowKit

set_option maxHeartbeats 400000 in
theorem top_at (p : Option Addr) (b off cap : Nat) (l : List Mk) (i : Int) (w : World) (hp : 0 < l.length → p = some ⟨b, off, none⟩ ∧ b < w.heap.size) (hn : l.length ≤ 9223372036854775807) (hM : MkAt w b off l) :
    Calls Try.prog 9 #[.slice p l.length cap, .int .i64 i] w
      fun e w' => e = .returned (ii (topM l i)) ∧ Below w.heap.size w w' := by
  go_enter Try.func9, Try.ntmps9
  go_wp2_with fail
  refine (check_any _ _ _ _ _ _ hn).mono ?_
  rintro e w' ⟨rfl, rfl⟩
  by_cases hc : chk l.length i 1 = 0
  · have hc' : (chk l.length i 1 != 0) = false := by simpa using hc
    obtain ⟨h0, h1, h2, -, -⟩ := chk_zero hc
    have Hc := Lib.hid hc; clear hc
    obtain ⟨n, rfl⟩ := Int.eq_ofNat_of_zero_le h0
    obtain ⟨rfl, hb⟩ := hp (by omega)
    have HM := Lib.hid hM; clear hM
    go_wp2_with fail
    go_loopw [7, 8] (fun t s wr => ∃ k top : Nat, k ≤ n ∧ top ≤ n ∧ t = .int .i64 top ∧ s = .int .i64 (k - 1) ∧ Below w.heap.size w wr ∧ Hid (topLoop l n k top = topLoop l n n n))
      (fun _ s _ => (intOf s + 1).toNat)
    case atStart => exact ⟨n, n, by omega, by omega, rfl, by go_num, Below.refl _ _, rfl⟩
    case round =>
      obtain ⟨k', top, hk2, htop, rfl, rfl, hbl, hnone⟩ := hrel
      by_cases hlt : 0 < k'
      · obtain ⟨k, rfl⟩ : ∃ k, k' = k + 1 := ⟨k' - 1, by omega⟩
        rw [show (((k + 1 : Nat) : Int) - 1) = (k : Int) from by omega]
        obtain ⟨xt, xd, xl, hx, c0, c1, c2⟩ := HM.out.cells hb hbl (i := n) (by omega)
        obtain ⟨yt, yd, yl, hy, d0, d1, d2⟩ := HM.out.cells hb hbl (i := k) (by omega)
        have HX := Lib.hid hx
        have HY := Lib.hid hy; clear hx hy
        have hkl : k < l.length := by omega
        go_wp2_with fail
        go_quiet (fail)
        go_wp2_with fail
        · have ht : (yt != xt) = true := by assumption
          go_roundw
          case rel =>
            refine ⟨k, top, by omega, htop, rfl, by go_num, by first | exact below_drewN (below_drewN hbl _) _ | exact below_drewN hbl _, ?_⟩
            rw [← hnone.out]
            exact (topLoop_succ_other (by rw [HX.out, HY.out]; simpa using ht)).symm
          case measure => simp [intOf]
        · have ht : (yt != xt) = false := by assumption
          have ht' : yt = xt := by simpa using ht
          have HT := Lib.hid ht'; clear ht ht'
          go_quiet (fail)
          go_wp2_with fail
          · have hd : yd < xd := by assumption
            go_ret2
            exact ⟨ret_ii (by rw [topM_ok Hc.out, ← hnone.out, topLoop_succ_stop (by rw [HX.out, HY.out]; exact HT.out) (by rw [HX.out, HY.out]; exact hd)]), by first | exact below_drewN (below_drewN hbl _) _ | exact below_drewN hbl _⟩
          · have hd : ¬ yd < xd := by omega
            go_roundw
            case rel =>
              refine ⟨k, k, by omega, by omega, rfl, by go_num, by first | exact below_drewN (below_drewN hbl _) _ | exact below_drewN hbl _, ?_⟩
              rw [← hnone.out]
              exact (topLoop_succ_on (by rw [HX.out, HY.out]; exact HT.out) (by rw [HX.out, HY.out]; exact hd)).symm
            case measure => simp [intOf]
      · obtain rfl : k' = 0 := by omega
        go_wp2_with fail
        go_ret2
        exact ⟨ret_ii (by rw [topM_ok Hc.out, ← hnone.out]; rfl), hbl⟩
  · have hc' : (chk l.length i 1 != 0) = true := by simpa using hc
    have Hc := Lib.hid hc; clear hc
    go_wp2_with fail
    go_ret2
    exact ⟨ret_ii (topM_bad Hc.out), Below.refl _ _⟩

theorem MkAt.below {w wr : World} {b off B : Nat} {l : List Mk} (h : MkAt w b off l) (hb : b < B) (hw : Below B w wr) : MkAt wr b off l := fun i hi => by
  obtain ⟨h0, h1, h2⟩ := h i hi
  exact ⟨by rw [hw.cell hb]; exact h0, by rw [hw.cell hb]; exact h1, by rw [hw.cell hb]; exact h2⟩

/-- The slice of marks l, as it lies in w. -/
structure Marks (w : World) (p : Option Addr) (l : List Mk) : Prop where
  at_ : ∃ b off, (0 < l.length → p = some ⟨b, off, none⟩ ∧ b < w.heap.size) ∧ MkAt w b off l
  len : l.length ≤ 9223372036854775807

theorem Marks.below {w w' : World} {p : Option Addr} {l : List Mk} (h : Marks w p l) (hw : Below w.heap.size w w') : Marks w' p l := by
  obtain ⟨⟨b, off, h1, h2⟩, h4⟩ := h
  exact ⟨⟨b, off, fun h => ⟨(h1 h).1, Nat.lt_of_lt_of_le (h1 h).2 hw.size⟩, fun i hi => h2.below (h1 (by omega)).2 hw i hi⟩, h4⟩

theorem next_is {w : World} {p : Option Addr} {l : List Mk} (h : Marks w p l) (cap : Nat) {i how a e : Int} {b : Bool} (hx : nextM l i how = (a, b, e)) :
    Calls Try.prog 8 #[.slice p l.length cap, .int .i64 i, .int .i64 how] w
      fun r w' => r = .returned (.tuple #[.int .i64 a, .bool b, .int .i64 e]) ∧ Below w.heap.size w w' := by
  obtain ⟨⟨bl, off, h1, h2⟩, h4⟩ := h
  exact (next_at p bl off cap l i how w h1 h4 h2).mono fun r w' ⟨hr, hw⟩ => ⟨by rw [hr, hx]; rfl, hw⟩

theorem last_is {w : World} {p : Option Addr} {l : List Mk} (h : Marks w p l) (cap : Nat) {i how a e : Int} {b : Bool} (hx : lastM l i how = (a, b, e)) :
    Calls Try.prog 7 #[.slice p l.length cap, .int .i64 i, .int .i64 how] w
      fun r w' => r = .returned (.tuple #[.int .i64 a, .bool b, .int .i64 e]) ∧ Below w.heap.size w w' := by
  obtain ⟨⟨bl, off, h1, h2⟩, h4⟩ := h
  exact (last_at p bl off cap l i how w h1 h4 h2).mono fun r w' ⟨hr, hw⟩ => ⟨by rw [hr, hx]; rfl, hw⟩

theorem top_is {w : World} {p : Option Addr} {l : List Mk} (h : Marks w p l) (cap : Nat) {i a e : Int} (hx : topM l i = (a, e)) :
    Calls Try.prog 9 #[.slice p l.length cap, .int .i64 i] w
      fun r w' => r = .returned (.tuple #[.int .i64 a, .int .i64 e]) ∧ Below w.heap.size w w' := by
  obtain ⟨⟨bl, off, h1, h2⟩, h4⟩ := h
  exact (top_at p bl off cap l i w h1 h4 h2).mono fun r w' ⟨hr, hw⟩ => ⟨by rw [hr, hx]; rfl, hw⟩

theorem new_cell (w : World) (cs : Array Value) (t : TypeId) (fr : Nat × Nat) (k : Nat) : (w.alloc (.cells cs t fr)).cell? ⟨w.heap.size, k, none⟩ = cs[k]? := by
  have h : (w.alloc (.cells cs t fr)).heap[w.heap.size]? = some (.cells cs t fr) := by
    show (w.heap.push _)[w.heap.size]? = _
    simp
  unfold World.cell?
  dsimp only
  rw [h]
  rfl

def L0 : List Mk := [⟨0, 1, 1⟩, ⟨0, 2, 5⟩, ⟨1, 1, 9⟩, ⟨0, 2, 6⟩, ⟨0, 1, 1⟩, ⟨0, 1, 2⟩]

theorem L0_at (w : World) (b : Nat) (t : TypeId) (hb : b = w.heap.size) : Marks (w.alloc (.cells #[.int .i64 0, .int .i64 1, .int .i64 1, .int .i64 0, .int .i64 2, .int .i64 5, .int .i64 1, .int .i64 1, .int .i64 9, .int .i64 0, .int .i64 2, .int .i64 6, .int .i64 0, .int .i64 1, .int .i64 1, .int .i64 0, .int .i64 1, .int .i64 2] t)) (some ⟨b, 0, none⟩) L0 := by
  subst hb
  refine ⟨⟨w.heap.size, 0, fun _ => ⟨rfl, by simp⟩, fun i hi => ?_⟩, by decide⟩
  rw [new_cell, new_cell, new_cell]
  match i, hi with
  | 0, _ => exact ⟨rfl, rfl, rfl⟩
  | 1, _ => exact ⟨rfl, rfl, rfl⟩
  | 2, _ => exact ⟨rfl, rfl, rfl⟩
  | 3, _ => exact ⟨rfl, rfl, rfl⟩
  | 4, _ => exact ⟨rfl, rfl, rfl⟩
  | 5, _ => exact ⟨rfl, rfl, rfl⟩
  | _ + 6, h => exact absurd h (by simp [L0])

set_option maxHeartbeats 400000 in
theorem begun_any (w : World) : Calls Try.prog 6 #[] w fun e w' => e = .returned (.bool true) ∧ Below w.heap.size w w' := by
  go_enter Try.func6, Try.ntmps6
  go_wp2_with fail
  have hM := L0_at w _ 29 rfl
  have hB := (Below.refl w.heap.size w).alloc (Nat.le_refl _) (.cells #[.int .i64 0, .int .i64 1, .int .i64 1, .int .i64 0, .int .i64 2, .int .i64 5, .int .i64 1, .int .i64 1, .int .i64 9, .int .i64 0, .int .i64 2, .int .i64 6, .int .i64 0, .int .i64 1, .int .i64 1, .int .i64 0, .int .i64 1, .int .i64 2] 29)
  refine (next_is hM 6 (i := 0) (how := 2) (a := 4) (b := true) (e := 0) (by decide)).mono ?_
  rintro e w1 ⟨rfl, h1⟩
  replace hM := hM.below h1
  replace hB := hB.trans (h1.mono hB.size)
  clear h1
  go_wp2_with fail
  refine (next_is hM 6 (i := 0) (how := 4) (a := 5) (b := true) (e := 0) (by decide)).mono ?_
  rintro e w2 ⟨rfl, h1⟩
  replace hM := hM.below h1
  replace hB := hB.trans (h1.mono hB.size)
  clear h1
  go_wp2_with fail
  refine (next_is hM 6 (i := 1) (how := 3) (a := 4) (b := true) (e := 0) (by decide)).mono ?_
  rintro e w3 ⟨rfl, h1⟩
  replace hM := hM.below h1
  replace hB := hB.trans (h1.mono hB.size)
  clear h1
  go_wp2_with fail
  refine (last_is hM 6 (i := 5) (how := 4) (a := 4) (b := true) (e := 0) (by decide)).mono ?_
  rintro e w4 ⟨rfl, h1⟩
  replace hM := hM.below h1
  replace hB := hB.trans (h1.mono hB.size)
  clear h1
  go_wp2_with fail
  refine (top_is hM 6 (i := 3) (a := 1) (e := 0) (by decide)).mono ?_
  rintro e w5 ⟨rfl, h1⟩
  replace hM := hM.below h1
  replace hB := hB.trans (h1.mono hB.size)
  clear h1
  go_wp2_with fail
  go_ret
  exact ⟨rfl, hB⟩

end Go.Proofs.Ytdnheoelmcmbmaa
