/-
  The walks of the package walk: what each call of reached, check, Next, Last and Top hands back.
-/
import Derived.Test.YtdnheoelmcmbmaaProg
import Derived.Test.YtdnheoelmcmbmaaParts
import Derived.WalkKit
import Derived.WalkSpells
import Derived.WalkLawsBesides
import Derived.Deep.QuietTactic
import Derived.BigQuiet
import Derived.Lib.Hide
import Derived.StillTailTactics
namespace Go.Proofs.Ytdnheoelmcmbmaa
open Go.RowKit

theorem ret_int {k : IntKind} {a b : Int} (h : a = b) : Ending.returned (.int k a) = .returned (.int k b) := by rw [h]
theorem ret_bool {a b : Bool} (h : a = b) : Ending.returned (.bool a) = .returned (.bool b) := by rw [h]
def ibi (x : Int × Bool × Int) : Value := .tuple #[.int .i64 x.1, .bool x.2.1, .int .i64 x.2.2]
theorem ret_ibi {a e : Int} {b : Bool} {x : Int × Bool × Int} (h : x = (a, b, e)) : Ending.returned (.tuple #[.int .i64 a, .bool b, .int .i64 e]) = .returned (ibi x) := by rw [h]; rfl
def ii (x : Int × Int) : Value := .tuple #[.int .i64 x.1, .int .i64 x.2]
theorem ret_ii {a e : Int} {x : Int × Int} (h : x = (a, e)) : Ending.returned (.tuple #[.int .i64 a, .int .i64 e]) = .returned (ii x) := by rw [h]; rfl

set_option maxHeartbeats 400000 in
theorem reached_any (at_ ad al bt bd bl how : Int) (w : World) :
    Calls Try.prog 11 #[.agg #[.int .i64 at_, .int .i64 ad, .int .i64 al], .agg #[.int .i64 bt, .int .i64 bd, .int .i64 bl], .int .i64 how] w
      fun e w' => e = .returned (.bool (reachedB ⟨at_, ad, al⟩ ⟨bt, bd, bl⟩ how)) ∧ Below w.heap.size w w' := by
  go_enter Try.func11, Try.ntmps11
  go_wp2
  all_goals go_ret
  all_goals refine ⟨ret_bool ?_, by repeat (first | exact Below.refl _ _ | refine Below.drew ?_ | refine Below.alloc ?_ (by simp) _)⟩
  all_goals unfold reachedB
  all_goals simp_all
  all_goals rfl

set_option maxHeartbeats 400000 in
theorem check_any (p : Option Addr) (n cap : Nat) (i how : Int) (w : World) (hn : n ≤ 9223372036854775807) :
    Calls Try.prog 10 #[.slice p n cap, .int .i64 i, .int .i64 how] w
      fun e w' => e = .returned (.int .i64 (chk n i how)) ∧ w = w' := by
  go_enter Try.func10, Try.ntmps10
  go_wp2
  all_goals go_ret
  all_goals refine ⟨ret_int ?_, rfl⟩
  all_goals unfold chk
  all_goals (split <;> (try split) <;> omega)

def MkAt (w : World) (b off : Nat) (l : List Mk) : Prop :=
  ∀ i, i < l.length → w.cell? ⟨b, off + i * 3, none⟩ = some (.int .i64 (l.getD i .z).t) ∧ w.cell? ⟨b, off + i * 3 + 1, none⟩ = some (.int .i64 (l.getD i .z).d) ∧ w.cell? ⟨b, off + i * 3 + 2, none⟩ = some (.int .i64 (l.getD i .z).l)

theorem MkAt.cells {w wr : World} {b off B : Nat} {l : List Mk} (h : MkAt w b off l) (hb : b < B) (hw : Below B w wr) {i : Nat} (hi : i < l.length) : ∃ t d s, l.getD i .z = ⟨t, d, s⟩ ∧
    wr.cell? ⟨b, off + i * 3, none⟩ = some (.int .i64 t) ∧ wr.cell? ⟨b, off + i * 3 + 1, none⟩ = some (.int .i64 d) ∧ wr.cell? ⟨b, off + i * 3 + 2, none⟩ = some (.int .i64 s) := by
  obtain ⟨h0, h1, h2⟩ := h i hi
  refine ⟨_, _, _, rfl, ?_, ?_, ?_⟩
  · rw [hw.cell hb]; exact h0
  · rw [hw.cell hb]; exact h1
  · rw [hw.cell hb]; exact h2

theorem reachAt_eq {l : List Mk} {how : Int} {i j : Nat} {a b : Mk} (h1 : l.getD i .z = a) (h2 : l.getD j .z = b) : reachAt l how i j = reachedB a b how := by
  unfold reachAt; rw [h1, h2]

set_option maxHeartbeats 400000 in
theorem next_at (p : Option Addr) (b off cap : Nat) (l : List Mk) (i how : Int) (w : World) (hp : 0 < l.length → p = some ⟨b, off, none⟩ ∧ b < w.heap.size) (hn : l.length ≤ 9223372036854775807) (hM : MkAt w b off l) :
    Calls Try.prog 8 #[.slice p l.length cap, .int .i64 i, .int .i64 how] w
      fun e w' => e = .returned (ibi (nextM l i how)) ∧ Below w.heap.size w w' := by
  go_enter Try.func8, Try.ntmps8
  go_wp2_with fail
  refine (check_any _ _ _ _ _ _ hn).mono ?_
  rintro e w' ⟨rfl, rfl⟩
  by_cases hc : chk l.length i how = 0
  · have hc' : (chk l.length i how != 0) = false := by simpa using hc
    obtain ⟨h0, h1, h2, -, -⟩ := chk_zero hc
    have Hc := Lib.hid hc; clear hc
    obtain ⟨n, rfl⟩ := Int.eq_ofNat_of_zero_le h0
    obtain ⟨rfl, hb⟩ := hp (by omega)
    have HM := Lib.hid hM; clear hM
    go_wp2_with fail
    go_loopw [10] (fun s wr => ∃ k : Nat, n + 1 ≤ k ∧ k ≤ l.length ∧ s = .int .i64 k ∧ Below w.heap.size w wr ∧ Hid (∀ j, n + 1 ≤ j → j < k → reachAt l how n j = false))
      (fun s _ => l.length - (intOf s).toNat)
    case atStart => exact ⟨n + 1, by omega, by omega, by go_num, Below.refl _ _, fun j h1 h2 => by omega⟩
    case round =>
      obtain ⟨k, hk1, hk2, rfl, hbl, hnone⟩ := hrel
      by_cases hlt : k < l.length
      · obtain ⟨xt, xd, xl, hx, c0, c1, c2⟩ := HM.out.cells hb hbl (i := n) (by omega)
        obtain ⟨yt, yd, yl, hy, d0, d1, d2⟩ := HM.out.cells hb hbl hlt
        have HR := Lib.hid (reachAt_eq (how := how) hx hy); clear hx hy
        go_wp2_with fail
        go_still_tail 9, (by kernel_rfl)
        change wpList _ _ _ _ _ wr.drew
        replace hbl : Below w.heap.size w wr.drew := hbl.drew
        generalize wr.drew = wd at *
        go_wp2_with ((go_at_call 11; refine (reached_any _ _ _ _ _ _ _ _).mono ?_; rintro e w1 ⟨rfl, hb1⟩))
        · have ht : reachedB ⟨xt, xd, xl⟩ ⟨yt, yd, yl⟩ how = true := by assumption
          go_ret3
          exact ⟨ret_ibi (nextM_some Hc.out hk1 hlt hnone.out (HR.out.trans ht)), hbl.trans (hb1.mono hbl.size)⟩
        · have ht : reachedB ⟨xt, xd, xl⟩ ⟨yt, yd, yl⟩ how = false := by assumption
          go_roundw
          case rel =>
            refine ⟨k + 1, by omega, by omega, by go_num, hbl.trans (hb1.mono hbl.size), fun j h1 h2 => ?_⟩
            by_cases hj : j = k
            · rw [hj]; exact HR.out.trans ht
            · exact hnone.out j h1 (by omega)
          case measure => simp [intOf]; omega
      · have : k = l.length := by omega
        subst this
        go_wp2_with fail
        go_ret3
        exact ⟨ret_ibi (nextM_none Hc.out hnone.out), hbl⟩
  · have hc' : (chk l.length i how != 0) = true := by simpa using hc
    have Hc := Lib.hid hc; clear hc
    go_wp2_with fail
    go_ret3
    exact ⟨ret_ibi (nextM_bad Hc.out), Below.refl _ _⟩

set_option maxHeartbeats 400000 in
theorem last_at (p : Option Addr) (b off cap : Nat) (l : List Mk) (i how : Int) (w : World) (hp : 0 < l.length → p = some ⟨b, off, none⟩ ∧ b < w.heap.size) (hn : l.length ≤ 9223372036854775807) (hM : MkAt w b off l) :
    Calls Try.prog 7 #[.slice p l.length cap, .int .i64 i, .int .i64 how] w
      fun e w' => e = .returned (ibi (lastM l i how)) ∧ Below w.heap.size w w' := by
  go_enter Try.func7, Try.ntmps7
  go_wp2_with fail
  refine (check_any _ _ _ _ _ _ hn).mono ?_
  rintro e w' ⟨rfl, rfl⟩
  by_cases hc : chk l.length i how = 0
  · have hc' : (chk l.length i how != 0) = false := by simpa using hc
    obtain ⟨h0, h1, h2, -, -⟩ := chk_zero hc
    have Hc := Lib.hid hc; clear hc
    obtain ⟨n, rfl⟩ := Int.eq_ofNat_of_zero_le h0
    obtain ⟨rfl, hb⟩ := hp (by omega)
    have HM := Lib.hid hM; clear hM
    go_wp2_with fail
    go_loopw [10] (fun s wr => ∃ k : Nat, k ≤ n ∧ s = .int .i64 (k - 1) ∧ Below w.heap.size w wr ∧ Hid (∀ j, k ≤ j → j < n → reachAt l how j n = false))
      (fun s _ => (intOf s + 1).toNat)
    case atStart => exact ⟨n, by omega, by go_num, Below.refl _ _, fun j h1 h2 => by omega⟩
    case round =>
      obtain ⟨k', hk2, rfl, hbl, hnone⟩ := hrel
      by_cases hlt : 0 < k'
      · obtain ⟨k, rfl⟩ : ∃ k, k' = k + 1 := ⟨k' - 1, by omega⟩
        rw [show (((k + 1 : Nat) : Int) - 1) = (k : Int) from by omega]
        obtain ⟨xt, xd, xl, hx, c0, c1, c2⟩ := HM.out.cells hb hbl (i := n) (by omega)
        obtain ⟨yt, yd, yl, hy, d0, d1, d2⟩ := HM.out.cells hb hbl (i := k) (by omega)
        have HR := Lib.hid (reachAt_eq (how := how) hy hx); clear hx hy
        have hkl : k < l.length := by omega
        go_wp2_with fail
        go_still_tail 9, (by kernel_rfl)
        change wpList _ _ _ _ _ wr.drew
        replace hbl : Below w.heap.size w wr.drew := hbl.drew
        generalize wr.drew = wd at *
        go_wp2_with ((go_at_call 11; refine (reached_any _ _ _ _ _ _ _ _).mono ?_; rintro e w1 ⟨rfl, hb1⟩))
        · have ht : reachedB ⟨yt, yd, yl⟩ ⟨xt, xd, xl⟩ how = true := by assumption
          go_ret3
          exact ⟨ret_ibi (lastM_some Hc.out (by omega) hnone.out (HR.out.trans ht)), hbl.trans (hb1.mono hbl.size)⟩
        · have ht : reachedB ⟨yt, yd, yl⟩ ⟨xt, xd, xl⟩ how = false := by assumption
          go_roundw
          case rel =>
            refine ⟨k, by omega, by go_num, hbl.trans (hb1.mono hbl.size), fun j h1 h2 => ?_⟩
            by_cases hj : j = k
            · rw [hj]; exact HR.out.trans ht
            · exact hnone.out j (by omega) h2
          case measure => simp [intOf]
      · obtain rfl : k' = 0 := by omega
        go_wp2_with fail
        go_ret3
        exact ⟨ret_ibi (lastM_none Hc.out (fun j hj => hnone.out j (by omega) hj)), hbl⟩
  · have hc' : (chk l.length i how != 0) = true := by simpa using hc
    have Hc := Lib.hid hc; clear hc
    go_wp2_with fail
    go_ret3
    exact ⟨ret_ibi (lastM_bad Hc.out), Below.refl _ _⟩

end Go.Proofs.Ytdnheoelmcmbmaa
