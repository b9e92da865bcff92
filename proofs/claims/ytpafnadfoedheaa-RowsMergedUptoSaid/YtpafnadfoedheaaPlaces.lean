/-
  places, Of, Between: the numbers of the events of which something holds.
-/
import Derived.Test.YtpafnadfoedheaaBy
import Derived.Test.YtpafnadfoedheaaInts
import Derived.Test.YtpafnadfoedheaaPredV
namespace Go.Proofs.Ytpafnadfoedheaa
open Go.RowKit

/-- The places among the first k. -/
def plcK (pr : Ev → Bool) (l : List Ev) : Nat → List Int
  | 0 => []
  | k + 1 => if pr (l.getD k .z) then plcK pr l k ++ [(k : Int)] else plcK pr l k
theorem plcK_len (pr : Ev → Bool) (l : List Ev) : ∀ k, (plcK pr l k).length ≤ k
  | 0 => Nat.le_refl _
  | k + 1 => by
    unfold plcK
    have := plcK_len pr l k
    split
    · simp; omega
    · omega
def placesM (pr : Ev → Bool) (l : List Ev) : List Int × Int := if 200 < l.length then ([], 2) else (plcK pr l l.length, 0)

set_option maxHeartbeats 4000000 in
set_option maxRecDepth 100000 in
theorem places_any {w : World} {p : Option Addr} {cap : Nat} {l : List Ev} {f : Nat} {cb : Array Value} {pr : Ev → Bool} (hS : Sl w 12 p l.length cap (evs l)) (hP : PredV w f cb Ev.val (fun _ _ => True) pr) :
    Calls Try.prog 19 #[.slice p l.length cap, .func (.func f) #[] cb] w fun e w' => ∃ q c, e = .returned (.tuple #[.slice q (placesM pr l).1.length c, .int .i64 (placesM pr l).2]) ∧ SlI w' q c (placesM pr l).1 ∧ Below w.heap.size w w' := by
  obtain ⟨i0, hi, hz0, hz1, hz2⟩ := info_parts infoI
  have hent := hP.ent
  have l1 := hS.big
  have l2 := hS.le
  unfold placesM
  by_cases hb : 200 < l.length
  · rw [if_pos hb]
    have hbz : (200 : Int) < (l.length : Int) := by omega
    go_enter Try.func19, Try.ntmps19
    go_wp2
    go_ret2
    exact ⟨none, 0, rfl, Sl.zero _ _, Below.refl _ _⟩
  · rw [if_neg hb]
    have hbz : ¬ (200 : Int) < (l.length : Int) := by omega
    have HS := Lib.hid hS
    have HP := Lib.hid hP
    clear hS hP
    dsimp only
    go_enter Try.func19, Try.ntmps19
    go_wp2_with fail
    go_loopw [6, 14] (fun v s wr => ∃ (k : Nat) (q : Option Addr) (c : Nat) (o : List Int), k ≤ l.length ∧ s = .int .i64 k ∧ v = .slice q o.length c ∧ OwnI wr w.heap.size q c o ∧ o.length ≤ k ∧ Below w.heap.size w wr ∧ Hid (o = plcK pr l k)) (fun _ s _ => l.length - (intOf s).toNat)
    case atStart => exact ⟨0, none, 0, [], Nat.zero_le _, rfl, rfl, World.ownsRow_nil _ _ _ _, Nat.le_refl _, Below.refl _ _, rfl⟩
    case round =>
      obtain ⟨k, q, c, o, hk, rfl, rfl, hown, hol, hbl, ho⟩ := hrel
      by_cases hlt : k < l.length
      · obtain ⟨b, off, rfl⟩ := HS.out.ptr (by omega) (by decide)
        have E1 := (HS.out.ev_at hlt).below hbl (HS.out.row.lt (by simp; omega))
        have hcall := fun W (hW : Below w.heap.size w W) => HP.out.call W hW (l.getD k .z) trivial
        have hst : plcK pr l (k + 1) = if pr (l.getD k .z) then plcK pr l k ++ [(k : Int)] else plcK pr l k := rfl
        generalize l.getD k .z = x at *
        obtain ⟨a0, a1, a2, a3, a4, a5, a6, a7, a8, a9, a10, a11⟩ := E1
        have HC := Lib.hid hcall
        have HST := Lib.hid hst
        clear hcall hst
        have hz := hbl.size
        obtain ⟨xk, xs, xt, xf, xa, xl, xA, xB, x1, x2, x3, x4⟩ := x
        dsimp only at a0 a1 a2 a3 a4 a5 a6 a7 a8 a9 a10 a11
        have hal := (Below.refl wr.heap.size wr).alloc (Nat.le_refl _) (.cells #[.int .i64 xk, .int .i64 xs, .int .i64 xt, .int .i64 xf, .int .i64 xa, .int .i64 xl, .int .i64 xA, .int .i64 xB, .int .i64 x1, .int .i64 x2, .int .i64 x3, .int .i64 x4] 30)
        have hbl1 := hbl.trans (hal.mono hz)
        have hown1 := own_below hown hal
        have HC1 := Lib.hid (HC.out _ hbl1)
        clear hown hal HC
        go_wp2_with fail
        refine HC1.out.mono ?_
        rintro _ w1 ⟨rfl, hb1⟩
        replace hown1 := own_below hown1 hb1
        replace hbl1 := hbl1.trans (hb1.mono hbl1.size)
        have hz1' := hbl1.size
        have ho' : o = plcK pr l k := ho.out
        clear HC1 hbl ho a0 a1 a2 a3 a4 a5 a6 a7 a8 a9 a10 a11
        cases hp : pr ⟨xk, xs, xt, xf, xa, xl, xA, xB, x1, x2, x3, x4⟩ with
        | true =>
          have hs := HST.out
          rw [hp, if_pos rfl, ← ho'] at hs
          have HS2 := Lib.hid hs; clear hs HST hp ho'
          go_wp2_with (at_builtin; refine wpList_append_sl _ rfl _ _ 33 rfl w.heap.size 3 i0 (.int .i64 0) 1 8 Try.underlying33 hi hz0 hz1 hz2 rfl (by decide) _ _ _ rfl (own_below hown1 ((Below.refl _ _).alloc (Nat.le_refl _) (.cells #[.int .i64 (k : Int)] 3))) _ 1 1 (ints .i64 [(k : Int)]) rfl (lit_sl w1 [(k : Int)] (by simp) #[.int .i64 (k : Int)] rfl _ rfl 1 rfl) ints_one (by omega) (by omega) (by simp; omega) ?_; intro p' c' w2 hown2 hbel2)
          rw [← ints_append] at hown2
          have hl2 : o.length + 1 = (o ++ [(k : Int)]).length := by simp
          have Hl2 := Lib.hid hl2; clear hl2
          go_roundw
          case rel => exact ⟨k + 1, p', c', o ++ [(k : Int)], by omega, by go_num, by rw [Hl2.out], by unfold OwnI; rw [← Hl2.out]; exact hown2, by rw [← Hl2.out]; omega, (hbl1.alloc hz1' _).trans hbel2, HS2.out.symm⟩
          case measure => simp [intOf]; omega
        | false =>
          have hs := HST.out
          rw [hp, if_neg (by simp), ← ho'] at hs
          have HS2 := Lib.hid hs; clear hs HST hp ho'
          go_wp2_with fail
          go_roundw
          case rel => exact ⟨k + 1, q, c, o, by omega, by go_num, rfl, hown1, by omega, hbl1, HS2.out.symm⟩
          case measure => simp [intOf]; omega
      · obtain rfl : k = l.length := by omega
        go_wp2_with fail
        go_ret2
        have ho' : o = plcK pr l l.length := ho.out
        subst ho'
        exact ⟨_, _, rfl, Sl.of_own hown, hbl⟩

theorem ofP (w : World) (kind : Int) (B : Nat) (hB : w.cell? ⟨B, 0, none⟩ = some (.int .i64 kind)) (hb : B < w.heap.size) : PredV w 21 #[.pointer (some ⟨B, 0, none⟩)] Ev.val (fun _ _ => True) (fun e => e.k == kind) where
  ent := enters_of Try.func21 rfl rfl
  call := fun W hW x _ => by
    have hc := (hW.cell (p := ⟨B, 0, none⟩) hb).trans hB
    obtain ⟨k, s, t, f, a, l, A, B, v1, v2, o1, o2⟩ := x
    dsimp only [Ev.val]
    have hc1 := cell_more (.cells #[.int .i64 k, .int .i64 s, .int .i64 t, .int .i64 f, .int .i64 a, .int .i64 l, .int .i64 A, .int .i64 B, .int .i64 v1, .int .i64 v2, .int .i64 o1, .int .i64 o2] 30) hc
    go_enter Try.func21, Try.ntmps21
    go_wp2
    go_ret
    exact ⟨rfl, by repeat (first | exact Below.refl _ _ | refine Below.drew ?_ | refine Below.alloc ?_ (by simp) _)⟩

set_option maxHeartbeats 4000000 in
set_option maxRecDepth 100000 in
theorem of_any {w : World} {p : Option Addr} {cap : Nat} {l : List Ev} (kind : Int) (hS : Sl w 12 p l.length cap (evs l)) :
    Calls Try.prog 12 #[.slice p l.length cap, .int .i64 kind] w fun e w' => ∃ q c, e = .returned (.tuple #[.slice q (placesM (fun e => e.k == kind) l).1.length c, .int .i64 (placesM (fun e => e.k == kind) l).2]) ∧ SlI w' q c (placesM (fun e => e.k == kind) l).1 ∧ Below w.heap.size w w' := by
  have hal := (Below.refl w.heap.size w).alloc (Nat.le_refl _) (.cells #[.int .i64 kind] 3)
  have hcall := places_any (hS.below hal) (ofP _ kind w.heap.size (new_cell w _ _ _ 0) (by simp))
  have HC := Lib.hid hcall
  clear hcall hS
  generalize placesM (fun e => e.k == kind) l = r at *
  go_enter Try.func12, Try.ntmps12
  go_wp2_with fail
  refine HC.out.mono ?_
  rintro _ w1 ⟨q, c, rfl, hq, hb1⟩
  go_wp2_with fail
  go_ret2
  exact ⟨q, c, rfl, hq, hal.trans (hb1.mono hal.size)⟩

def betB (a b : Int) (e : Ev) : Bool := decide (a ≤ e.s) && decide (e.s < b)
theorem betP (w : World) (a b : Int) (A B : Nat) (hA : w.cell? ⟨A, 0, none⟩ = some (.int .i64 a)) (hB : w.cell? ⟨B, 0, none⟩ = some (.int .i64 b)) (ha : A < w.heap.size) (hb : B < w.heap.size) : PredV w 20 #[.pointer (some ⟨A, 0, none⟩), .pointer (some ⟨B, 0, none⟩)] Ev.val (fun _ _ => True) (betB a b) where
  ent := enters_of Try.func20 rfl rfl
  call := fun W hW x _ => by
    have hc := (hW.cell (p := ⟨A, 0, none⟩) ha).trans hA
    have hc' := (hW.cell (p := ⟨B, 0, none⟩) hb).trans hB
    obtain ⟨k, s, t, f, at', l, A', B', v1, v2, o1, o2⟩ := x
    dsimp only [Ev.val, betB]
    have hc1 := cell_more (.cells #[.int .i64 k, .int .i64 s, .int .i64 t, .int .i64 f, .int .i64 at', .int .i64 l, .int .i64 A', .int .i64 B', .int .i64 v1, .int .i64 v2, .int .i64 o1, .int .i64 o2] 30) hc
    have hc2 := cell_more (.cells #[.int .i64 k, .int .i64 s, .int .i64 t, .int .i64 f, .int .i64 at', .int .i64 l, .int .i64 A', .int .i64 B', .int .i64 v1, .int .i64 v2, .int .i64 o1, .int .i64 o2] 30) hc'
    by_cases h1 : a ≤ s
    · by_cases h2 : s < b
      · rw [decide_eq_true h1, decide_eq_true h2]
        go_enter Try.func20, Try.ntmps20
        go_wp2
        go_ret
        exact ⟨rfl, by repeat (first | exact Below.refl _ _ | refine Below.drew ?_ | refine Below.alloc ?_ (by simp) _)⟩
      · rw [decide_eq_true h1, decide_eq_false h2]
        go_enter Try.func20, Try.ntmps20
        go_wp2
        go_ret
        exact ⟨rfl, by repeat (first | exact Below.refl _ _ | refine Below.drew ?_ | refine Below.alloc ?_ (by simp) _)⟩
    · rw [decide_eq_false h1]
      go_enter Try.func20, Try.ntmps20
      go_wp2
      go_ret
      exact ⟨rfl, by repeat (first | exact Below.refl _ _ | refine Below.drew ?_ | refine Below.alloc ?_ (by simp) _)⟩

set_option maxHeartbeats 4000000 in
set_option maxRecDepth 100000 in
theorem between_any {w : World} {p : Option Addr} {cap : Nat} {l : List Ev} (a b : Int) (hS : Sl w 12 p l.length cap (evs l)) :
    Calls Try.prog 11 #[.slice p l.length cap, .int .i64 a, .int .i64 b] w fun e w' => ∃ q c, e = .returned (.tuple #[.slice q (placesM (betB a b) l).1.length c, .int .i64 (placesM (betB a b) l).2]) ∧ SlI w' q c (placesM (betB a b) l).1 ∧ Below w.heap.size w w' := by
  have hal := ((Below.refl w.heap.size w).alloc (Nat.le_refl _) (.cells #[.int .i64 a] 3)).alloc (by simp) (.cells #[.int .i64 b] 3)
  have hcall := places_any (hS.below hal) (betP _ a b w.heap.size (w.heap.size + 1) (cell_more _ (new_cell w _ _ _ 0)) (by have h := new_cell (w.alloc (.cells #[.int .i64 a] 3)) #[.int .i64 b] 3 (0, 0) 0; rw [show (w.alloc (.cells #[.int .i64 a] 3)).heap.size = w.heap.size + 1 from by simp] at h; exact h) (by simp; omega) (by simp))
  have HC := Lib.hid hcall
  clear hcall hS
  generalize placesM (betB a b) l = r at *
  go_enter Try.func11, Try.ntmps11
  go_wp2_with fail
  refine HC.out.mono ?_
  rintro _ w1 ⟨q, c, rfl, hq, hb1⟩
  go_wp2_with fail
  go_ret2
  exact ⟨q, c, rfl, hq, hal.trans (hb1.mono hal.size)⟩
end Go.Proofs.Ytpafnadfoedheaa
