/-
  hangs, check: is it right what hangs on what?
-/
import Derived.Test.YtbnmpagjfihjjaaRd
import Derived.Test.YtbnmpagjfihjjaaBools
import Derived.Test.YtbnmpagjfihjjaaFnI
import Derived.Shelf.Abstract
namespace Go.Proofs.Ytbnmpagjfihjjaa
open Go.RowKit

abbrev RdBl (W : World) (s : Sv Bool) : Prop := Sl W 1 s.p s.l.length s.cap (bools s.l)
theorem RdBl.st : Stays RdBl := fun _ _ _ h hb => Sl.below h hb
def brCells (s : Sv Bool) : List Value := [s.val]
abbrev RdBB : World → Sv (Sv Bool) → Prop := Rd 1 brCells RdBl
theorem RdBB.st : Stays RdBB := Rd.stays RdBl.st
theorem RdBB.at_ {W : World} {s : Sv (Sv Bool)} (h : RdBB W s) {i : Nat} (hi : i < s.l.length) : ∃ b off, s.p = some ⟨b, off, none⟩ ∧ b < W.heap.size ∧ W.cell? ⟨b, off + i, none⟩ = some (s.l.getD i default).val ∧ RdBl W (s.l.getD i default) := by
  obtain ⟨b, off, e, hb, hc⟩ := Rd.at_ h (fun _ => rfl) (by decide) hi default
  refine ⟨b, off, e, hb, ?_, h.each _ (by simp [hi])⟩
  have := hc 0 _ rfl
  simpa using this
theorem RdBl.at_ {W : World} {s : Sv Bool} (h : RdBl W s) {i : Nat} (hi : i < s.l.length) : ∃ b off, s.p = some ⟨b, off, none⟩ ∧ b < W.heap.size ∧ W.cell? ⟨b, off + i, none⟩ = some (.bool (s.l.getD i false)) := by
  obtain ⟨b, off, e⟩ := h.ptr (by omega) (by decide)
  have h' : Sl W 1 s.p s.l.length s.cap (bools s.l) := h
  rw [e] at h'
  exact ⟨b, off, e, h'.row.lt (by simp; omega), h'.row.at_ (bools_get hi)⟩

def dg (D : List (List Bool)) (i k : Nat) : Bool := (D.getD i []).getD k false
def hg1 (D : List (List Bool)) (i : Nat) : Prop := (D.getD i []).length = D.length ∧ dg D i i = true
def hangsM (D : List (List Bool)) : Bool := decide (∀ i, i < D.length → (D.getD i []).length = D.length ∧ dg D i i = true) && decide (∀ i, i < D.length → ∀ k, k < D.length → dg D i k = dg D k i) && decide (0 < D.length)
theorem map_getD (L : List (Sv Bool)) (i : Nat) : (L.map (·.l)).getD i [] = (L.getD i default).l := by
  rw [List.getD_eq_getElem?_getD, List.getElem?_map, List.getD_eq_getElem?_getD]
  cases L[i]? <;> rfl

set_option maxRecDepth 100000 in
set_option maxHeartbeats 4000000 in
theorem hangs_any {w : World} {s : Sv (Sv Bool)} (hR : RdBB w s) :
    Calls Try.prog 30 #[s.val] w fun e w' => e = .returned (.bool (hangsM (s.l.map (·.l)))) ∧ Below w.heap.size w w' := by
  have hle := hR.le
  obtain ⟨p, cap, L⟩ := s
  dsimp only [Sv.val] at hle ⊢
  have HR := Lib.hid hR
  clear hR
  obtain ⟨R, hR⟩ : ∃ R, R = hangsM (L.map (·.l)) := ⟨_, rfl⟩
  rw [← hR]
  have HRR := Lib.hid hR
  clear hR
  go_enter Try.func30, Try.ntmps30
  go_wp2_with fail
  go_loopw [11] (fun s wr => ∃ k : Nat, k ≤ L.length ∧ s = .int .i64 k ∧ Below w.heap.size w wr ∧ Hid (∀ i, i < k → (L.getD i default).l.length = L.length ∧ (L.getD i default).l.getD i false = true)) (fun s _ => L.length - (intOf s).toNat)
  case atStart => exact ⟨0, Nat.zero_le _, rfl, Below.refl _ _, fun i h => by omega⟩
  case round =>
    obtain ⟨k, hk, rfl, hbl, hno⟩ := hrel
    by_cases hlt : k < L.length
    · obtain ⟨b, off, hp, hb, hc, hrd⟩ := (RdBB.st _ _ _ HR.out hbl).at_ hlt
      dsimp only at hp hc hrd
      subst hp
      have hno2 : ((L.getD k default).l.length = L.length ∧ (L.getD k default).l.getD k false = true) → ∀ i, i < k + 1 → (L.getD i default).l.length = L.length ∧ (L.getD i default).l.getD i false = true := fun h i hi => by
        rcases Nat.lt_or_ge i k with h1 | h1
        · exact hno.out i h1
        · rw [show i = k from by omega]; exact h
      have hbad : ¬ ((L.getD k default).l.length = L.length ∧ (L.getD k default).l.getD k false = true) → R = false := fun h => by
        rw [HRR.out]
        unfold hangsM
        rw [Bool.and_eq_false_iff]
        left
        rw [Bool.and_eq_false_iff]
        left
        rw [decide_eq_false_iff_not]
        intro h2
        have h3 := h2 k (by simpa using hlt)
        unfold dg at h3
        rw [map_getD, List.length_map] at h3
        exact h h3
      have HN := Lib.hid hno2; have HB := Lib.hid hbad
      clear hno2 hbad hno
      generalize L.getD k default = x at *
      obtain ⟨xp, xc, xl⟩ := x
      dsimp only [Sv.val] at hc hrd HN HB
      by_cases hxl : xl.length = L.length
      · obtain ⟨b2, off2, hp2, hb2, hc2⟩ := hrd.at_ (i := k) (by dsimp only; omega)
        dsimp only at hp2 hc2
        subst hp2
        have hneq : ((xl.length : Int) != (L.length : Int)) = false := by simp [hxl]
        have hkx : k < xl.length := by omega
        have HXL := Lib.hid hxl
        clear hrd hxl
        cases hv : xl.getD k false with
        | true =>
          rw [hv] at hc2
          have HN2 := Lib.hid (HN.out ⟨HXL.out, hv⟩)
          clear HN HB hv
          go_wp2_with fail
          go_roundw
          case rel => exact ⟨k + 1, by omega, by go_num, hbl, HN2.out⟩
          case measure => simp [intOf]; omega
        | false =>
          rw [hv] at hc2
          have hRf := HB.out (fun h => by rw [hv] at h; simp at h)
          subst hRf
          clear HN HB hv
          go_wp2_with fail
          go_ret
          exact ⟨rfl, hbl⟩
      · have hneq : ((xl.length : Int) != (L.length : Int)) = true := by simp; omega
        have hRf := HB.out (fun h => hxl h.1)
        subst hRf
        clear HN HB hrd hxl
        go_wp2_with fail
        go_ret
        exact ⟨rfl, hbl⟩
    · obtain rfl : k = L.length := by omega
      have HNO := Lib.hid hno.out
      clear hno
      go_wp2_with fail
      go_loopw [31] (fun s wr2 => ∃ k : Nat, k ≤ L.length ∧ s = .int .i64 k ∧ Below w.heap.size w wr2 ∧ Hid (∀ i, i < k → ∀ j, j < L.length → (L.getD i default).l.getD j false = (L.getD j default).l.getD i false)) (fun s _ => L.length - (intOf s).toNat)
      case atStart => exact ⟨0, Nat.zero_le _, rfl, hbl, fun i h => by omega⟩
      case round =>
        clear hbl
        obtain ⟨k, hk, rfl, hbl, hsy⟩ := hrel
        by_cases hlt : k < L.length
        · obtain ⟨b, off, hp, hb, hc, hrd⟩ := (RdBB.st _ _ _ HR.out hbl).at_ hlt
          dsimp only at hp hc hrd
          subst hp
          have hxl := (HNO.out k hlt).1
          obtain ⟨x, hx⟩ : ∃ x, x = L.getD k default := ⟨_, rfl⟩
          rw [← hx] at hc hrd hxl
          have HX := Lib.hid hx
          clear hx
          obtain ⟨xp, xc, xl⟩ := x
          dsimp only [Sv.val] at hc hrd hxl
          rw [hxl] at hc
          have HXL := Lib.hid hxl
          have HRD := Lib.hid hrd
          clear hxl hrd
          go_wp2_with fail
          go_loopw [38] (fun s wr3 => ∃ j : Nat, j ≤ L.length ∧ s = .int .i64 j ∧ wr3 = wr ∧ Hid (∀ i, i < j → xl.getD i false = (L.getD i default).l.getD k false)) (fun s _ => L.length - (intOf s).toNat)
          case atStart => exact ⟨0, Nat.zero_le _, rfl, rfl, fun i h => by omega⟩
          case round =>
            obtain ⟨j, hj, rfl, hw, hq⟩ := hrel
            subst hw
            by_cases hlj : j < L.length
            · obtain ⟨b2, off2, hp2, hb2, hc2⟩ := HRD.out.at_ (i := j) (by dsimp only; have := HXL.out; omega)
              dsimp only at hp2 hc2
              subst hp2
              obtain ⟨b3, off3, hp3, hb3, hc3, hrd3⟩ := (RdBB.st _ _ _ HR.out hbl).at_ hlj
              dsimp only at hp3 hc3
              simp only [Option.some.injEq, Addr.mk.injEq, and_true] at hp3
              obtain ⟨rfl, rfl⟩ := hp3
              obtain ⟨b4, off4, hp4, hb4, hc4⟩ := hrd3.at_ (i := k) (by show k < (L.getD j default).l.length; rw [(HNO.out j hlj).1]; exact hlt)
              have hyl := (HNO.out j hlj).1
              have hq2 : (xl.getD j false = (L.getD j default).l.getD k false) → ∀ i, i < j + 1 → xl.getD i false = (L.getD i default).l.getD k false := fun h i hi => by
                rcases Nat.lt_or_ge i j with h1 | h1
                · exact hq.out i h1
                · rw [show i = j from by omega]; exact h
              have hbad : (xl.getD j false ≠ (L.getD j default).l.getD k false) → R = false := fun h => by
                rw [HRR.out]
                unfold hangsM
                rw [Bool.and_eq_false_iff]
                left
                rw [Bool.and_eq_false_iff]
                right
                rw [decide_eq_false_iff_not]
                intro h2
                have h3 := h2 k (by simpa using hlt) j (by simpa using hlj)
                unfold dg at h3
                rw [map_getD, map_getD, ← HX.out] at h3
                exact h h3
              have HQ := Lib.hid hq2; have HB := Lib.hid hbad
              clear hq2 hbad hq hrd3
              generalize L.getD j default = y at *
              obtain ⟨yp, yc, yl⟩ := y
              dsimp only [Sv.val] at hc3 hp4 hc4 hyl HQ HB
              subst hp4
              have hky : k < yl.length := by omega
              generalize xl.getD j false = u at *
              generalize yl.getD k false = v at *
              by_cases huv : u = v
              · subst huv
                have HQ2 := Lib.hid (HQ.out rfl)
                clear HQ HB
                cases u <;>
                  (go_wp2_with fail
                   go_roundw
                   case rel => exact ⟨j + 1, by omega, by go_num, by trivial, HQ2.out⟩
                   case measure => simp [intOf]; omega)
              · have hRf := HB.out huv
                subst hRf
                clear HQ HB
                cases u <;> cases v <;> first
                  | exact absurd rfl huv
                  | (go_wp2_with fail
                     go_ret
                     exact ⟨rfl, hbl⟩)
            · obtain rfl : j = L.length := by omega
              have hsy2 : ∀ i, i < k + 1 → ∀ j, j < L.length → (L.getD i default).l.getD j false = (L.getD j default).l.getD i false := fun i hi j hj => by
                rcases Nat.lt_or_ge i k with h1 | h1
                · exact hsy.out i h1 j hj
                · rw [show i = k from by omega, ← HX.out]; exact hq.out j hj
              have HS2 := Lib.hid hsy2
              clear hsy2 hsy hq
              go_wp2_with fail
              go_roundw
              case rel => exact ⟨k + 1, by omega, by go_num, hbl, HS2.out⟩
              case measure => simp [intOf]; omega
        · obtain rfl : k = L.length := by omega
          have hRr : R = decide ((0 : Int) < (L.length : Int)) := by
            rw [HRR.out]
            unfold hangsM
            rw [decide_eq_true (p := ∀ i, i < (L.map (·.l)).length → _) (fun i hi => by
              have h1 := HNO.out i (by simpa using hi)
              unfold dg
              rw [map_getD, List.length_map]
              exact h1), decide_eq_true (p := ∀ i, i < (L.map (·.l)).length → _) (fun i hi j hj => by
              have h1 := hsy.out i (by simpa using hi) j (by simpa using hj)
              unfold dg
              rw [map_getD, map_getD]
              exact h1), Bool.and_self, Bool.true_and, List.length_map]
            exact decide_eq_decide.2 (by omega)
          have HRr := Lib.hid hRr
          clear hRr hsy
          go_wp2_with fail
          go_ret
          refine ⟨?_, hbl⟩
          rw [HRr.out]
          exact ret_bool (decide_eq_decide.2 (by omega))
end Go.Proofs.Ytbnmpagjfihjjaa
