/-
  The walks of the package small, 5: Min.
-/
import Derived.Test.YtkhjppkhbiojoaaPass
namespace Go.Proofs.Ytkhjppkhbiojoaa
open Go.RowKit

theorem passM_bounds (q : List Int → Bool) (size : Nat) : ∀ (fuel to : Nat) (l : List Int) (many : Nat), to ≤ l.length → to ≤ fuel → 0 < size →
    (passM q size fuel to l many).2 ≤ many + to ∧ (passM q size fuel to l many).1.length ≤ l.length := by
  intro fuel
  induction fuel with
  | zero => intro to l many h1 h2 _; obtain rfl : to = 0 := by omega
            rw [passM_zero]; exact ⟨Nat.le_refl _, Nat.le_refl _⟩
  | succ fuel ih =>
    intro to l many h1 h2 h3
    by_cases h0 : 0 < to
    · cases hq : q (withoutM l (to - size) to) with
      | true =>
        rw [passM_yes h0 hq]
        have hl := withoutM_length (l := l) (a := to - size) (b := to) (by omega) h1
        have := ih (to - size) (withoutM l (to - size) to) (many + 1) (by omega) (by omega) h3
        omega
      | false =>
        rw [passM_no h0 hq]
        have := ih (to - size) l (many + 1) (by omega) (by omega) h3
        omega
    · obtain rfl : to = 0 := by omega
      rw [passM_zero]; exact ⟨Nat.le_refl _, Nat.le_refl _⟩

def sizesM (q : List Int → Bool) : Nat → Nat → List Int → Nat → List Int × Nat
  | 0, _, l, many => (l, many)
  | fuel + 1, size, l, many => if size ≤ 1 then (l, many) else sizesM q fuel (size / 2) (passM q size l.length l.length l many).1 (passM q size l.length l.length l many).2
theorem sizesM_stop {q : List Int → Bool} {fuel size : Nat} {l : List Int} {many : Nat} (h : size ≤ 1) : sizesM q fuel size l many = (l, many) := by
  cases fuel with
  | zero => rfl
  | succ n => rw [sizesM, if_pos h]
theorem sizesM_on {q : List Int → Bool} {fuel size : Nat} {l : List Int} {many : Nat} (h : 1 < size) : sizesM q (fuel + 1) size l many = sizesM q fuel (size / 2) (passM q size l.length l.length l many).1 (passM q size l.length l.length l many).2 := by
  rw [sizesM, if_neg (by omega)]

def lastM (q : List Int → Bool) : Nat → List Int → Nat → List Int × Nat
  | 0, l, many => (l, many)
  | fuel + 1, l, many => if (passM q 1 l.length l.length l many).1.length = l.length then passM q 1 l.length l.length l many else lastM q fuel (passM q 1 l.length l.length l many).1 (passM q 1 l.length l.length l many).2

theorem run_eql_func_nil (w : World) (f : FuncId) (capt : Array Value) : (binOp .eql 24 (.func (.func f) #[] capt) .nilFunc).run Try.prog w = .ok (.bool false) w := by
  have h : ∀ d : Nat, (Op.equalIn (d + 1) 24 (.func (.func f) #[] capt) .nilFunc).run Try.prog w = .ok false w := fun d => by
    simp [Op.equalIn, run_underlying Try.underlying24]
  simp only [binOp]
  simp [Op.equal, Op.maxDepth, h 9999]

/-- What Min tells: the list, how many were asked, the error. -/
def minM (q : List Int → Bool) (l : List Int) : List Int × Nat × Int :=
  if 200 < l.length then ([], 0, 2) else if q l = false then ([], 0, 8) else
    let s := sizesM q l.length (l.length / 2) l 1
    let r := lastM q (s.1.length + 1) s.1 s.2
    (r.1, r.2, 0)

theorem asker_new (w : World) (f : FuncId) (capt : Array Value) (t : TypeId) : Asker (w.alloc (.cells #[.func (.func f) #[] capt, .int .i64 0] t)) w.heap.size f capt 0 :=
  ⟨new_cell _ _ _ _ _, new_cell _ _ _ _ _, new_frozen _ _ _ _⟩

def lenOf : Value → Nat
  | .slice _ n _ => n
  | _ => 0

set_option maxHeartbeats 2000000 in
theorem min_any {w : World} {f : FuncId} {capt : Array Value} {q : List Int → Bool} (hH : Holds w f capt q) {p : Option Addr} {cap : Nat} {l : List Int} (hR : SlI w p cap l) :
    Calls Try.prog 8 #[.slice p l.length cap, .func (.func f) #[] capt] w fun e w' => ∃ p' c', e = .returned (.tuple #[.slice p' (minM q l).1.length c', .int .i64 (minM q l).2.1, .int .i64 (minM q l).2.2]) ∧
      SlI w' p' c' (minM q l).1 ∧ Below w.heap.size w w' := by
  have hle := hR.le
  have hnf := fun w => run_eql_func_nil w f capt
  have hbig := hR.big
  by_cases h2 : 200 < l.length
  · have hx : minM q l = ([], 0, 2) := by unfold minM; rw [if_pos h2]
    rw [hx]
    have h2' : (200 : Int) < (l.length : Int) := by omega
    clear hx
    go_enter Try.func8, Try.ntmps8
    go_wp2_with fail
    go_ret3
    exact ⟨none, 0, rfl, Sl.zero _ _, Below.refl _ _⟩
  · cases hq : q l with
    | false =>
      have hx : minM q l = ([], 0, 8) := by unfold minM; rw [if_neg h2, if_pos hq]
      rw [hx]
      clear hx
      have HQ := Lib.hid hq; clear hq
      go_enter Try.func8, Try.ntmps8
      go_wp2_with fail
      have hal := (Below.refl w.heap.size w).alloc (Nat.le_refl _) (.cells #[.func (.func f) #[] capt, .int .i64 0] 37)
      have hlst : Lst w (w.alloc (.cells #[.func (.func f) #[] capt, .int .i64 0] 37)) w.heap.size p cap l := ⟨hR.below hal, fun h0 a ha => by have := hR.row.block (by simpa using h0) a ha; omega⟩
      have hK := asker_new w f capt 37
      generalize w.alloc (.cells #[.func (.func f) #[] capt, .int .i64 0] 37) = w0 at *
      refine (ask_any hH (Nat.le_refl _) hal hK.c0 hK.c1 hK.fr (by omega) hlst.sl hlst.ne (by omega)).mono ?_
      rintro e w1 ⟨rfl, hg, -⟩
      rw [HQ.out]
      go_wp2_with fail
      go_ret3
      exact ⟨none, 0, rfl, Sl.zero _ _, below_of_grown hal hg hal.size (Nat.le_refl _)⟩
    | true =>
      have HQ := Lib.hid hq; clear hq
      go_enter Try.func8, Try.ntmps8
      go_wp2_with fail
      have hal := (Below.refl w.heap.size w).alloc (Nat.le_refl _) (.cells #[.func (.func f) #[] capt, .int .i64 0] 37)
      have hlst : Lst w (w.alloc (.cells #[.func (.func f) #[] capt, .int .i64 0] 37)) w.heap.size p cap l := ⟨hR.below hal, fun h0 a ha => by have := hR.row.block (by simpa using h0) a ha; omega⟩
      have hK := asker_new w f capt 37
      generalize w.alloc (.cells #[.func (.func f) #[] capt, .int .i64 0] 37) = w0 at *
      refine (ask_any hH (Nat.le_refl _) hal hK.c0 hK.c1 hK.fr (by omega) hlst.sl hlst.ne (by omega)).mono ?_
      rintro e w1 ⟨rfl, hg, k0, k1, k2⟩
      rw [HQ.out]
      replace hlst := hlst.kept hg
      replace hal := below_of_grown hal hg hal.size (Nat.le_refl _)
      replace hK : Asker w1 w.heap.size f capt 1 := ⟨k0, k1, k2⟩
      clear hg k0 k1 k2
      go_wp2_with fail
      refine (clone_any hlst.sl (by omega)).mono ?_
      rintro e w2 ⟨p2, c2, rfl, hown, hb⟩
      have hl2 : Lst w w2 w.heap.size p2 c2 l := Lst.of_own hown hK.lt
      replace hK := hK.below hb
      replace hal := hal.trans (hb.mono hal.size)
      clear hown hb hlst
      go_wp2_with fail
      go_loopw [8, 9] (fun v s wr => ∃ (size fuel many : Nat) (p' : Option Addr) (c' : Nat) (l' : List Int), v = .slice p' l'.length c' ∧ s = .int .i64 size ∧ size ≤ fuel ∧ size ≤ 100 ∧ l'.length ≤ 200 ∧ many + 200 * size ≤ 30000 ∧
          Lst w wr w.heap.size p' c' l' ∧ Asker wr w.heap.size f capt many ∧ Below w.heap.size w wr ∧ Hid (sizesM q fuel size l' many = sizesM q l.length (l.length / 2) l 1))
        (fun _ s _ => (intOf s).toNat)
      case atStart => exact ⟨l.length / 2, l.length, 1, p2, c2, l, rfl, by go_num, by omega, by omega, by omega, by omega, hl2, hK, hal, rfl⟩
      case round =>
        clear hl2 hK hal
        obtain ⟨size, fuel, many, p', c', l', rfl, rfl, hsf, hs1, hl', hmm, hL, hK, hB, hrel⟩ := hrel
        by_cases h1 : 1 < size
        · obtain ⟨fuel, rfl⟩ : ∃ k, fuel = k + 1 := ⟨fuel - 1, by omega⟩
          rw [sizesM_on h1] at hrel
          have hpb := passM_bounds q size l'.length l'.length l' many (Nat.le_refl _) (Nat.le_refl _) (by omega)
          go_wp2_with fail
          refine (pass_any hH (Nat.le_refl _) hB hK (by omega) hL hl' size (by omega) (by omega)).mono ?_
          generalize passM q size l'.length l'.length l' many = r at *
          rintro e w3 ⟨p3, c3, rfl, hL3, hK3, hB3⟩
          clear hL hK hB
          go_wp2_with fail
          go_roundw
          case rel => exact ⟨size / 2, fuel, r.2, p3, c3, r.1, rfl, by go_num, by omega, by omega, by omega, by omega, hL3, hK3, hB3, hrel⟩
          case measure => simp [intOf]; omega
        · rw [sizesM_stop (by omega)] at hrel
          have hm0 : minM q l = ((lastM q (l'.length + 1) l' many).1, (lastM q (l'.length + 1) l' many).2, 0) := by
            unfold minM
            rw [if_neg h2, if_neg (by rw [HQ.out]; simp), ← hrel.out]
          have HM := Lib.hid hm0
          clear hm0 hrel
          go_wp2_with fail
          go_loopw [8] (fun v wr => ∃ (fuel many' : Nat) (p' : Option Addr) (c' : Nat) (l'' : List Int), v = .slice p' l''.length c' ∧ l''.length + 1 ≤ fuel ∧ l''.length ≤ 200 ∧ many' + 200 * l''.length ≤ 100000 ∧
              Lst w wr w.heap.size p' c' l'' ∧ Asker wr w.heap.size f capt many' ∧ Below w.heap.size w wr ∧ Hid (lastM q fuel l'' many' = lastM q (l'.length + 1) l' many))
            (fun v _ => lenOf v)
          case atStart => exact ⟨l'.length + 1, many, p', c', l', rfl, Nat.le_refl _, hl', by omega, hL, hK, hB, rfl⟩
          case round =>
            clear hL hK hB
            obtain ⟨fuel, many', p', c', l'', rfl, hfu, hl'', hmm, hL, hK, hB, hrel⟩ := hrel
            obtain ⟨fuel, rfl⟩ : ∃ k, fuel = k + 1 := ⟨fuel - 1, by omega⟩
            rw [lastM] at hrel
            have hpb := passM_bounds q 1 l''.length l''.length l'' many' (Nat.le_refl _) (Nat.le_refl _) (by omega)
            go_wp2_with fail
            refine (pass_any hH (Nat.le_refl _) hB hK (by omega) hL hl'' 1 (by omega) (by omega)).mono ?_
            generalize passM q 1 l''.length l''.length l'' many' = r at *
            rintro e w3 ⟨p3, c3, rfl, hL3, hK3, hB3⟩
            clear hL hK hB
            obtain ⟨r1, r2⟩ := r
            dsimp only at *
            have hk1 := hK3.c1
            by_cases hlen : r1.length = l''.length
            · rw [if_pos hlen] at hrel
              have hb : ((r1.length : Int) == (l''.length : Int)) = true := by rw [hlen]; simp
              have HL := Lib.hid hlen; clear hlen
              go_wp2_with fail
              go_quiet (fail)
              go_wp2_with fail
              go_ret3
              rw [HM.out, ← hrel.out]
              exact ⟨p3, c3, rfl, hL3.sl.below (below_drewN (Below.refl _ _) _), below_drewN hB3 _⟩
            · rw [if_neg hlen] at hrel
              have hb : ((r1.length : Int) == (l''.length : Int)) = false := by simp; omega
              go_wp2_with fail
              go_roundw
              case rel => exact ⟨fuel, r2, p3, c3, r1, rfl, by omega, by omega, by omega, hL3, hK3, hB3, hrel⟩
              case measure => simp [lenOf]; omega

end Go.Proofs.Ytkhjppkhbiojoaa
