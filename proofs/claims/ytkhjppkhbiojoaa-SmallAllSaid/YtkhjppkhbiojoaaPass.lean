/-
  The walks of the package small, 4: the asker.
-/
import Derived.Test.YtkhjppkhbiojoaaWithout
import Derived.Deep.RegionWith
import Derived.Calls
namespace Go.Proofs.Ytkhjppkhbiojoaa
open Go.RowKit

/-- A function value that answers q of every list, in every world that keeps what lay in W. -/
structure Holds (W : World) (f : FuncId) (capt : Array Value) (q : List Int → Bool) : Prop where
  ent : ∀ (args : Array Value) (w : World), (callFunc f args).run Try.prog w = .ok (.enter f args) w
  call : ∀ w', Below W.heap.size W w' → ∀ p cap l, SlI w' p cap l → l.length ≤ 200 → Calls Try.prog f (#[.slice p l.length cap] ++ capt) w' fun e w'' => e = .returned (.bool (q l)) ∧ Below w'.heap.size w' w''

set_option maxHeartbeats 1000000 in
theorem ask_any {W w : World} {f : FuncId} {capt : Array Value} {q : List Int → Bool} (hH : Holds W f capt q) {A : Nat} {many : Nat} (hA : W.heap.size ≤ A) (hW : Below W.heap.size W w)
    (h0 : w.cell? ⟨A, 0, none⟩ = some (.func (.func f) #[] capt)) (h1 : w.cell? ⟨A, 1, none⟩ = some (.int .i64 many)) (hz : w.frozen? ⟨A, 1, none⟩ = false) (hm : many ≤ 1000000)
    {p : Option Addr} {cap : Nat} {l : List Int} (hR : SlI w p cap l) (hp : 0 < l.length → ∀ a, p = some a → a.block ≠ A) (hl : l.length ≤ 200) :
    Calls Try.prog 15 #[.pointer (some ⟨A, 0, none⟩), .slice p l.length cap] w fun e w' => e = .returned (.bool (q l)) ∧ w.grownBy w' (some A) ∧
      w'.cell? ⟨A, 0, none⟩ = some (.func (.func f) #[] capt) ∧ w'.cell? ⟨A, 1, none⟩ = some (.int .i64 (many + 1 : Nat)) ∧ w'.frozen? ⟨A, 1, none⟩ = false := by
  have hent := hH.ent
  go_enter Try.func15, Try.ntmps15
  go_wp2_with fail
  have hAs : A < w.heap.size := World.block_lt_of_cell? w _ h0
  have hg := grown_set w A 1 (.int .i64 (many + 1))
  have c0 : (w.setCell ⟨A, 1, none⟩ (.int .i64 (many + 1))).cell? ⟨A, 0, none⟩ = some (.func (.func f) #[] capt) := by
    rw [World.cell?_setCell_other _ _ _ _ (by simp)]; exact h0
  have c1 : (w.setCell ⟨A, 1, none⟩ (.int .i64 (many + 1))).cell? ⟨A, 1, none⟩ = some (.int .i64 (many + 1)) := World.cell?_setCell_same' _ _ _ (by rw [h1]; rfl)
  have cz : (w.setCell ⟨A, 1, none⟩ (.int .i64 (many + 1))).frozen? ⟨A, 1, none⟩ = false := by rw [World.frozen?_setCell]; exact hz
  generalize w.setCell ⟨A, 1, none⟩ (.int .i64 (many + 1)) = w1 at *
  have hR1 := hR.kept hg (fun h => hp (by simpa using h))
  have hW1 : Below W.heap.size W w1 := below_of_grown hW hg hW.size hA
  have hA1 : A < w1.heap.size := Nat.lt_of_lt_of_le hAs hg.size
  have hclone : ∀ wx, Below w1.heap.size w1 wx → Calls Try.prog 16 #[.slice p l.length cap] wx fun e w' => ∃ p' c', e = .returned (.slice p' l.length c') ∧ SlI w' p' c' l ∧ Below w1.heap.size w1 w' ∧ w'.cell? ⟨A, 0, none⟩ = some (.func (.func f) #[] capt) := fun wx hx =>
    (clone_any (hR1.below hx) (by omega)).mono fun e w' ⟨p', c', he, ho, hb⟩ => ⟨p', c', he, Sl.of_own ho, hx.trans (hb.mono hx.size), by rw [(hx.trans (hb.mono hx.size)).cell hA1]; exact c0⟩
  have hcall : ∀ wx p' c', Below w1.heap.size w1 wx → SlI wx p' c' l → Calls Try.prog f (#[.slice p' l.length c'] ++ capt) wx fun e w' => e = .returned (.bool (q l)) ∧ Below w1.heap.size w1 w' := fun wx p' c' hx hs =>
    (hH.call wx (hW1.trans (hx.mono hW1.size)) p' c' l hs hl).mono fun e w' ⟨he, hb⟩ => ⟨he, hx.trans (hb.mono hx.size)⟩
  have hC := Lib.hid hclone
  have hK := Lib.hid hcall
  clear hclone hcall hR hR1 hW hW1 h0 h1 hz
  go_region_with (first
    | (go_at_call 16; refine (hC.out _ (Below.refl _ _).drew).mono ?_; rintro e w2 ⟨p', c', rfl, hs, hb, hc0⟩)
    | (refine (hK.out _ _ _ (by assumption) (by assumption)).mono ?_; rintro e w3 ⟨rfl, hb3⟩))
  all_goals
    go_wp2
    go_ret
    exact ⟨rfl, grown_trans hg (grown_of_below hb3 _), by rw [hb3.cell hA1]; exact c0, by rw [hb3.cell hA1]; exact c1, by rw [hb3.frozen hA1]; exact cz⟩

/-- The asker's cells: what it asks, and how many it has asked. -/
structure Asker (w : World) (A : Nat) (f : FuncId) (capt : Array Value) (many : Nat) : Prop where
  c0 : w.cell? ⟨A, 0, none⟩ = some (.func (.func f) #[] capt)
  c1 : w.cell? ⟨A, 1, none⟩ = some (.int .i64 many)
  fr : w.frozen? ⟨A, 1, none⟩ = false
theorem Asker.lt {w : World} {A : Nat} {f : FuncId} {capt : Array Value} {many : Nat} (h : Asker w A f capt many) : A < w.heap.size := World.block_lt_of_cell? w _ h.c0
theorem Asker.below {w w' : World} {A : Nat} {f : FuncId} {capt : Array Value} {many : Nat} (h : Asker w A f capt many) (hw : Below w.heap.size w w') : Asker w' A f capt many :=
  ⟨by rw [hw.cell h.lt]; exact h.c0, by rw [hw.cell h.lt]; exact h.c1, by rw [hw.frozen h.lt]; exact h.fr⟩

/-- One pass: stretches of so many are left out, from the end on: the list, and how many were asked. -/
def passM (q : List Int → Bool) (size : Nat) : Nat → Nat → List Int → Nat → List Int × Nat
  | 0, _, l, many => (l, many)
  | fuel + 1, to, l, many => if to = 0 then (l, many) else if q (withoutM l (to - size) to) then passM q size fuel (to - size) (withoutM l (to - size) to) (many + 1) else passM q size fuel (to - size) l (many + 1)

theorem passM_zero (q : List Int → Bool) (size fuel : Nat) (l : List Int) (many : Nat) : passM q size fuel 0 l many = (l, many) := by cases fuel <;> rfl
theorem passM_yes {q : List Int → Bool} {size fuel to : Nat} {l : List Int} {many : Nat} (h : 0 < to) (hq : q (withoutM l (to - size) to) = true) : passM q size (fuel + 1) to l many = passM q size fuel (to - size) (withoutM l (to - size) to) (many + 1) := by
  rw [passM, if_neg (by omega), if_pos hq]
theorem passM_no {q : List Int → Bool} {size fuel to : Nat} {l : List Int} {many : Nat} (h : 0 < to) (hq : q (withoutM l (to - size) to) = false) : passM q size (fuel + 1) to l many = passM q size fuel (to - size) l (many + 1) := by
  rw [passM, if_neg (by omega), if_neg (by rw [hq]; simp)]

theorem withoutM_length {l : List Int} {a b : Nat} (h : a ≤ b) (hb : b ≤ l.length) : (withoutM l a b).length = l.length - (b - a) := by unfold withoutM; simp; omega

/-- A list that lies in the call's own memory beyond the asker, or ahead of all of it. -/
structure Lst (W w : World) (A : Nat) (p : Option Addr) (cap : Nat) (l : List Int) : Prop where
  sl : SlI w p cap l
  ne : 0 < l.length → ∀ a, p = some a → a.block ≠ A

theorem Lst.below {W w w' : World} {A : Nat} {p : Option Addr} {cap : Nat} {l : List Int} (h : Lst W w A p cap l) (hw : Below w.heap.size w w') : Lst W w' A p cap l := ⟨h.sl.below hw, h.ne⟩
theorem Lst.kept {W w w' : World} {A : Nat} {p : Option Addr} {cap : Nat} {l : List Int} (h : Lst W w A p cap l) (hg : w.grownBy w' (some A)) : Lst W w' A p cap l := ⟨h.sl.kept hg (fun h' => h.ne (by simpa using h')), h.ne⟩
theorem Lst.of_own {W w : World} {A base : Nat} {p : Option Addr} {cap : Nat} {l : List Int} (h : OwnI w base p cap l) (hA : A < base) : Lst W w A p cap l :=
  ⟨Sl.of_own h, fun _ a ha => by have := own_ge h a ha; omega⟩

set_option maxHeartbeats 2000000 in
theorem pass_any {W w : World} {f : FuncId} {capt : Array Value} {q : List Int → Bool} (hH : Holds W f capt q) {A : Nat} {many : Nat} (hA : W.heap.size ≤ A) (hW : Below W.heap.size W w)
    (hK : Asker w A f capt many) (hm : many + 200 ≤ 1000000) {p : Option Addr} {cap : Nat} {l : List Int} (hR : Lst W w A p cap l) (hl : l.length ≤ 200) (size : Nat) (hs0 : 0 < size) (hs : size ≤ 200) :
    Calls Try.prog 17 #[.pointer (some ⟨A, 0, none⟩), .slice p l.length cap, .int .i64 size] w fun e w' => ∃ p' c', e = .returned (.slice p' (passM q size l.length l.length l many).1.length c') ∧
      Lst W w' A p' c' (passM q size l.length l.length l many).1 ∧ Asker w' A f capt (passM q size l.length l.length l many).2 ∧ Below W.heap.size W w' := by
  go_enter Try.func17, Try.ntmps17
  go_wp2_with fail
  go_loopw [1, 7] (fun v s wr => ∃ (t : Int) (to fuel many' : Nat) (p' : Option Addr) (c' : Nat) (l' : List Int), v = .slice p' l'.length c' ∧ s = .int .i64 t ∧ Hid (t.toNat = to) ∧ -1000 ≤ t ∧ t ≤ to ∧ to ≤ l'.length ∧ l'.length ≤ 200 ∧ to ≤ fuel ∧ many' + to ≤ 1000000 ∧ Lst W wr A p' c' l' ∧ Asker wr A f capt many' ∧ Below W.heap.size W wr ∧ Hid (passM q size fuel to l' many' = passM q size l.length l.length l many))
    (fun _ s _ => (intOf s).toNat)
  case atStart => exact ⟨l.length, l.length, l.length, many, p, cap, l, rfl, rfl, by simp [Hid], by omega, by omega, Nat.le_refl _, hl, Nat.le_refl _, by omega, hR, hK, hW, rfl⟩
  case round =>
    clear hR hK hW
    obtain ⟨t, to, fuel, many', p', c', l', rfl, rfl, ht, ht1, ht2, hto, hl', hfu, hm', hR, hK, hW, hrel⟩ := hrel
    by_cases h0 : 0 < t
    · obtain ⟨to, rfl⟩ := Int.eq_ofNat_of_zero_le (by omega : 0 ≤ t)
      obtain rfl : _ = to := by have := ht.out; simpa using this.symm
      clear ht ht1 ht2
      obtain ⟨fuel, rfl⟩ : ∃ k, fuel = k + 1 := ⟨fuel - 1, by omega⟩
      have hwl := withoutM_length (l := l') (a := to - size) (b := to) (by omega) hto
      have tail : ∀ wx wy (p2 : Option Addr) (c2 : Nat), Lst W wx A p' c' l' → Lst W wx A p2 c2 (withoutM l' (to - size) to) → Below W.heap.size W wx → wx.grownBy wy (some A) → Asker wy A f capt (many' + 1) →
          Lst W wy A p' c' l' ∧ Lst W wy A p2 c2 (withoutM l' (to - size) to) ∧ Below W.heap.size W wy ∧ Asker wy A f capt (many' + 1) := fun wx wy p2 c2 a b c d e => ⟨a.kept d, b.kept d, below_of_grown c d c.size hA, e⟩
      have T := Lib.hid tail
      have HW := Lib.hid hwl
      clear tail hwl
      have hwb := without_any hR.sl (to - size) to (by omega) hto (by omega)
      have hcw : ∀ x : Int, x = ((to - size : Nat) : Int) → Calls Try.prog 18 #[.slice p' l'.length c', .int .i64 x, .int .i64 to] wr fun e w' => ∃ p2 c2, e = .returned (.slice p2 (withoutM l' (to - size) to).length c2) ∧ Lst W w' A p' c' l' ∧ Lst W w' A p2 c2 (withoutM l' (to - size) to) ∧ Below W.heap.size W w' ∧ Asker w' A f capt many' := by
        rintro x rfl
        refine hwb.mono ?_
        rintro e w' ⟨p2, c2, he, ho, hb⟩
        exact ⟨p2, c2, he, hR.below hb, Lst.of_own ho hK.lt, hW.trans (hb.mono hW.size), hK.below hb⟩
      have HC := Lib.hid hcw
      clear hcw hwb
      by_cases hsz : size < to
      · go_wp2_with fail
        refine (HC.out _ (by omega)).mono ?_
        rintro e w2 ⟨p2, c2, rfl, hRa, hRb, hWb, hKb⟩
        have hl2 : (withoutM l' (to - size) to).length ≤ 200 := by have := HW.out; omega
        go_wp2_with fail
        refine (ask_any hH hA hWb hKb.c0 hKb.c1 hKb.fr (by omega) hRb.sl hRb.ne hl2).mono ?_
        rintro e w3 ⟨rfl, hg, k0, k1, k2⟩
        have hT := Lib.hid (T.out w2 w3 p2 c2 hRa hRb hWb hg ⟨k0, k1, k2⟩)
        clear hR hK hW hRa hRb hWb hKb hg k0 k1 k2
        go_wp2_with fail
        · have hq : q (withoutM l' (to - size) to) = true := by assumption
          go_roundw
          case rel => exact ⟨(to : Int) - size, to - size, fuel, many' + 1, p2, c2, _, rfl, rfl, by unfold Hid; omega, by omega, by omega, by have := HW.out; omega, hl2, by omega, by omega, hT.out.2.1, hT.out.2.2.2, hT.out.2.2.1, (passM_yes (by omega) hq).symm.trans hrel.out⟩
          case measure => simp [intOf]; omega
        · have hq : q (withoutM l' (to - size) to) = false := by assumption
          go_roundw
          case rel => exact ⟨(to : Int) - size, to - size, fuel, many' + 1, p', c', l', rfl, rfl, by unfold Hid; omega, by omega, by omega, by omega, hl', by omega, by omega, hT.out.1, hT.out.2.2.2, hT.out.2.2.1, (passM_no (by omega) hq).symm.trans hrel.out⟩
          case measure => simp [intOf]; omega
      · go_wp2_with fail
        refine (HC.out _ (by omega)).mono ?_
        rintro e w2 ⟨p2, c2, rfl, hRa, hRb, hWb, hKb⟩
        have hl2 : (withoutM l' (to - size) to).length ≤ 200 := by have := HW.out; omega
        go_wp2_with fail
        refine (ask_any hH hA hWb hKb.c0 hKb.c1 hKb.fr (by omega) hRb.sl hRb.ne hl2).mono ?_
        rintro e w3 ⟨rfl, hg, k0, k1, k2⟩
        have hT := Lib.hid (T.out w2 w3 p2 c2 hRa hRb hWb hg ⟨k0, k1, k2⟩)
        clear hR hK hW hRa hRb hWb hKb hg k0 k1 k2
        go_wp2_with fail
        · have hq : q (withoutM l' (to - size) to) = true := by assumption
          go_roundw
          case rel => exact ⟨(to : Int) - size, to - size, fuel, many' + 1, p2, c2, _, rfl, rfl, by unfold Hid; omega, by omega, by omega, by have := HW.out; omega, hl2, by omega, by omega, hT.out.2.1, hT.out.2.2.2, hT.out.2.2.1, (passM_yes (by omega) hq).symm.trans hrel.out⟩
          case measure => simp [intOf]; omega
        · have hq : q (withoutM l' (to - size) to) = false := by assumption
          go_roundw
          case rel => exact ⟨(to : Int) - size, to - size, fuel, many' + 1, p', c', l', rfl, rfl, by unfold Hid; omega, by omega, by omega, by omega, hl', by omega, by omega, hT.out.1, hT.out.2.2.2, hT.out.2.2.1, (passM_no (by omega) hq).symm.trans hrel.out⟩
          case measure => simp [intOf]; omega
    · obtain rfl : to = 0 := by have := ht.out; omega
      rw [passM_zero] at hrel
      go_wp2_with fail
      go_ret
      rw [← hrel.out]
      exact ⟨_, _, rfl, hR, hK, hW⟩

end Go.Proofs.Ytkhjppkhbiojoaa
