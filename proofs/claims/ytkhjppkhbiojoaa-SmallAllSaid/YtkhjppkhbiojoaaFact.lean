/-
  The walks of the package small, 6: the facts that are asked.
-/
import Derived.Test.YtkhjppkhbiojoaaMin
namespace Go.Proofs.Ytkhjppkhbiojoaa
open Go.RowKit

def sumF (l : List Int) : Int := l.foldl (fun x z => wrap64 (x + bits BinOp.and IntKind.i64 z 255)) 0
def evenF (l : List Int) : Int := l.foldl (fun x z => wrap64 (x + wrap64 (1 - bits BinOp.and IntKind.i64 z 1))) 0
theorem sumF_take {l : List Int} {k : Nat} (h : k < l.length) : sumF (l.take (k + 1)) = wrap64 (sumF (l.take k) + bits BinOp.and IntKind.i64 (l.getD k 0) 255) := by
  unfold sumF; rw [List.take_add_one, List.foldl_append]; simp [h]
theorem evenF_take {l : List Int} {k : Nat} (h : k < l.length) : evenF (l.take (k + 1)) = wrap64 (evenF (l.take k) + wrap64 (1 - bits BinOp.and IntKind.i64 (l.getD k 0) 1)) := by
  unfold evenF; rw [List.take_add_one, List.foldl_append]; simp [h]

/-- A fact that a list may have. -/
def factQ (which : Int) (need : List Int) (l : List Int) : Bool :=
  if bits BinOp.and IntKind.i64 which 3 = 0 then need.all fun x => decide (x ∈ l)
  else if bits BinOp.and IntKind.i64 which 3 = 1 then decide (need.headD 0 ≤ sumF l)
  else if bits BinOp.and IntKind.i64 which 3 = 2 then decide (need.headD 0 ≤ evenF l)
  else decide (1 < l.length) && decide (l.getD 0 0 < l.getD (l.length - 1) 0)

theorem all_take {need l : List Int} {k : Nat} (h : k < need.length) (h1 : (need.take k).all (fun x => decide (x ∈ l)) = true) (h2 : need.getD k 0 ∈ l) : (need.take (k + 1)).all (fun x => decide (x ∈ l)) = true := by
  rw [List.take_add_one, List.all_append, h1]
  simp [h] at h2 ⊢
  exact h2

theorem all_miss {need l : List Int} {k : Nat} (h : k < need.length) (h2 : ¬ need.getD k 0 ∈ l) : need.all (fun x => decide (x ∈ l)) = false := by
  rw [List.all_eq_false]
  exact ⟨need.getD k 0, by simp [h], by simpa using h2⟩

set_option maxHeartbeats 1000000 in
theorem fact1_any {W w : World} {a b c : Nat} {which first : Int} {np : Option Addr} {nc : Nat} {need : List Int} (ha : a < W.heap.size) (hb : b < W.heap.size) (hc : c < W.heap.size)
    (k1 : W.cell? ⟨a, 0, none⟩ = some (.int .i64 which)) (k2 : W.cell? ⟨b, 0, none⟩ = some (.slice np need.length nc)) (k3 : W.cell? ⟨c, 0, none⟩ = some (.int .i64 first)) (hf : first = need.headD 0) (hN : SlI W np nc need)
    (hW : Below W.heap.size W w) {p : Option Addr} {cap : Nat} {l : List Int} (hR : SlI w p cap l) (hl : l.length ≤ 200) :
    Calls Try.prog 14 #[.slice p l.length cap, .pointer (some ⟨a, 0, none⟩), .pointer (some ⟨b, 0, none⟩), .pointer (some ⟨c, 0, none⟩)] w fun e w'' => e = .returned (.bool (factQ which need l)) ∧ Below w.heap.size w w'' := by
  have HF := Lib.hid hf
  rw [← hW.cell ha] at k1
  rw [← hW.cell hb] at k2
  rw [← hW.cell hc] at k3
  replace hN := hN.below hW
  clear ha hb hc hW hf
  go_enter Try.func14, Try.ntmps14
  go_wp2_with fail
  go_loop [6, 7, 8] (fun s t i => ∃ (k : Nat) (x y : Int), k ≤ l.length ∧ i = .int .i64 k ∧ s = .int .i64 x ∧ t = .int .i64 y ∧ Hid (x = sumF (l.take k)) ∧ Hid (y = evenF (l.take k))) (fun _ _ i => l.length - (intOf i).toNat)
  case atStart => exact ⟨0, 0, 0, Nat.zero_le _, rfl, rfl, rfl, rfl, rfl⟩
  case round =>
    obtain ⟨k, x, y, hk, rfl, rfl, rfl, hx, hy⟩ := hrel
    by_cases hlt : k < l.length
    · obtain ⟨bl, off, rfl, hbb, hcl⟩ := hR.int_at hlt
      clear hR
      have h1 := sumF_take hlt
      have h2 := evenF_take hlt
      rw [← hx.out] at h1
      rw [← hy.out] at h2
      generalize l.getD k 0 = z at *
      have H1 := Lib.hid h1
      have H2 := Lib.hid h2
      clear h1 h2 k1 k2 k3
      go_wp2_with fail
      go_round
      case rel => exact ⟨k + 1, _, _, by omega, by go_num, rfl, rfl, H1.out.symm, H2.out.symm⟩
      case measure => simp [intOf]; omega
    · obtain rfl : k = l.length := by omega
      rw [List.take_length] at hx hy
      by_cases m0 : bits BinOp.and IntKind.i64 which 3 = 0
      · have e0 : (bits BinOp.and IntKind.i64 which 3 == 0) = true := by simpa using m0
        have M0 := Lib.hid m0; clear m0
        go_wp2_with fail
        go_loopw [9] (fun s wr => ∃ k : Nat, k ≤ need.length ∧ s = .int .i64 k ∧ Hid (w = wr) ∧ Hid ((need.take k).all (fun x => decide (x ∈ l)) = true)) (fun s _ => need.length - (intOf s).toNat)
        case atStart => exact ⟨0, Nat.zero_le _, rfl, rfl, by simp [Hid]⟩
        case round =>
          obtain ⟨k, hk', rfl, hww, hall⟩ := hrel
          obtain rfl := hww.out
          clear hww
          have hbig := Nat.le_trans hN.le hN.big
          by_cases hlt' : k < need.length
          · obtain ⟨bl, off, rfl, hbb, hcl⟩ := hN.int_at hlt'
            by_cases hin : need.getD k 0 ∈ l
            · have hst := all_take hlt' hall.out hin
              have hdec : decide (need.getD k 0 ∈ l) = true := decide_eq_true hin
              have HS := Lib.hid hst; clear hst hin
              have hh := hasInt_any (need.getD k 0) hR
              rw [hdec] at hh
              have HH := Lib.hid hh; clear hh hdec
              generalize need.getD k 0 = z at *
              go_wp2_with (go_at_call 10; refine HH.out.mono ?_; rintro e w1 ⟨rfl, rfl⟩)
              go_roundw
              case rel => exact ⟨k + 1, by omega, by go_num, by unfold Hid; simp, HS.out⟩
              case measure => simp [intOf]; omega
            · have hst := all_miss hlt' hin
              have hdec : decide (need.getD k 0 ∈ l) = false := decide_eq_false hin
              have HS := Lib.hid hst; clear hst hin
              have hh := hasInt_any (need.getD k 0) hR
              rw [hdec] at hh
              have HH := Lib.hid hh; clear hh hdec
              generalize need.getD k 0 = z at *
              go_wp2_with (go_at_call 10; refine HH.out.mono ?_; rintro e w1 ⟨rfl, rfl⟩)
              go_ret
              exact ⟨ret_bool (by unfold factQ; rw [if_pos M0.out, HS.out]), Below.refl _ _⟩
          · obtain rfl : k = need.length := by omega
            go_wp2_with fail
            go_ret
            refine ⟨ret_bool ?_, Below.refl _ _⟩
            have := hall.out
            rw [List.take_length] at this
            unfold factQ
            rw [if_pos M0.out, this]
      · have e0 : (bits BinOp.and IntKind.i64 which 3 == 0) = false := by simpa using m0
        by_cases m1 : bits BinOp.and IntKind.i64 which 3 = 1
        · have e1 : (bits BinOp.and IntKind.i64 which 3 == 1) = true := by simpa using m1
          have M0 := Lib.hid m0; clear m0
          have M1 := Lib.hid m1; clear m1
          go_wp2_with fail
          go_ret
          exact ⟨ret_bool (by unfold factQ; rw [if_neg M0.out, if_pos M1.out, ← HF.out, ← hx.out]), Below.refl _ _⟩
        · have e1 : (bits BinOp.and IntKind.i64 which 3 == 1) = false := by simpa using m1
          by_cases m2 : bits BinOp.and IntKind.i64 which 3 = 2
          · have e2 : (bits BinOp.and IntKind.i64 which 3 == 2) = true := by simpa using m2
            have M0 := Lib.hid m0; clear m0
            have M1 := Lib.hid m1; clear m1
            have M2 := Lib.hid m2; clear m2
            go_wp2_with fail
            go_ret
            exact ⟨ret_bool (by unfold factQ; rw [if_neg M0.out, if_neg M1.out, if_pos M2.out, ← HF.out, ← hy.out]), Below.refl _ _⟩
          · have e2 : (bits BinOp.and IntKind.i64 which 3 == 2) = false := by simpa using m2
            have M0 := Lib.hid m0; clear m0
            have M1 := Lib.hid m1; clear m1
            have M2 := Lib.hid m2; clear m2
            by_cases h2 : 1 < l.length
            · have hd1 : decide (1 < l.length) = true := decide_eq_true h2
              have hd1' : decide ((1 : Int) < (l.length : Int)) = true := decide_eq_true (by omega)
              obtain ⟨bl, off, rfl, hbb, hcl⟩ := hR.int_at (i := 0) (by omega)
              obtain ⟨bl', off', hee, hbb', hcl'⟩ := hR.int_at (i := l.length - 1) (by omega)
              simp only [Option.some.injEq, Addr.mk.injEq, and_true] at hee
              obtain ⟨rfl, rfl⟩ := hee
              have hfin : factQ which need l = decide (l.getD 0 0 < l.getD (l.length - 1) 0) := by unfold factQ; rw [if_neg M0.out, if_neg M1.out, if_neg M2.out, hd1]; simp
              have FIN := Lib.hid hfin; clear hfin
              rw [Nat.add_zero] at hcl
              generalize l.getD 0 0 = z0 at *
              generalize l.getD (l.length - 1) 0 = z1 at *
              have hneg : ((l.length : Int) - 1).toNat = l.length - 1 := by omega
              have hi1 : (l.length : Int) - 1 < (l.length : Int) := by omega
              have hi2 : 0 ≤ (l.length : Int) - 1 := by omega
              have hi3 : (0 : Int) < (l.length : Int) := by omega
              clear hR k2 k3 hN
              go_wp2_with fail
              go_quiet (fail)
              go_wp2_with fail
              go_ret
              exact ⟨ret_bool FIN.out.symm, below_drewN (Below.refl _ _) _⟩
            · have hd1 : decide (1 < l.length) = false := decide_eq_false h2
              have hd1' : decide ((1 : Int) < (l.length : Int)) = false := decide_eq_false (by omega)
              have hfin : factQ which need l = false := by unfold factQ; rw [if_neg M0.out, if_neg M1.out, if_neg M2.out, hd1]; simp
              have FIN := Lib.hid hfin; clear hfin
              clear hR k2 k3 hN
              go_wp2_with fail
              go_quiet (fail)
              go_wp2_with fail
              go_ret
              exact ⟨ret_bool FIN.out.symm, below_drewN (Below.refl _ _) _⟩


/-- The function value that 'fact' makes: what it has captured lies in W. -/
structure IsFact (W : World) (capt : Array Value) (which : Int) (need : List Int) : Prop where
  boxes : ∃ a b c np nc, capt = #[.pointer (some ⟨a, 0, none⟩), .pointer (some ⟨b, 0, none⟩), .pointer (some ⟨c, 0, none⟩)] ∧ a < W.heap.size ∧ b < W.heap.size ∧ c < W.heap.size ∧
    W.cell? ⟨a, 0, none⟩ = some (.int .i64 which) ∧ W.cell? ⟨b, 0, none⟩ = some (.slice np need.length nc) ∧ W.cell? ⟨c, 0, none⟩ = some (.int .i64 (need.headD 0)) ∧ SlI W np nc need

theorem IsFact.below {W w : World} {capt : Array Value} {which : Int} {need : List Int} (h : IsFact W capt which need) (hw : Below W.heap.size W w) : IsFact w capt which need := by
  obtain ⟨a, b, c, np, nc, h0, h1, h2, h3, h4, h5, h6, h7⟩ := h
  exact ⟨a, b, c, np, nc, h0, Nat.lt_of_lt_of_le h1 hw.size, Nat.lt_of_lt_of_le h2 hw.size, Nat.lt_of_lt_of_le h3 hw.size, by rw [hw.cell h1]; exact h4, by rw [hw.cell h2]; exact h5, by rw [hw.cell h3]; exact h6, h7.below hw⟩

theorem IsFact.holds {W : World} {capt : Array Value} {which : Int} {need : List Int} (h : IsFact W capt which need) : Holds W 14 capt (factQ which need) := by
  obtain ⟨a, b, c, np, nc, rfl, h1, h2, h3, h4, h5, h6, h7⟩ := h
  exact ⟨enters_own Try.func14 (by kernel_rfl) rfl, fun w' hw p cap l hs hl => fact1_any h1 h2 h3 h4 h5 h6 rfl h7 hw hs hl⟩

set_option maxHeartbeats 1000000 in
theorem fact_any {w : World} {np : Option Addr} {nc : Nat} {need : List Int} (which : Int) (hN : SlI w np nc need) :
    Calls Try.prog 7 #[.int .i64 which, .slice np need.length nc] w fun e w' => ∃ capt, e = .returned (.func (.func 14) #[] capt) ∧ IsFact w' capt which need ∧ Below w.heap.size w w' := by
  have hbig := Nat.le_trans hN.le hN.big
  by_cases h0 : 0 < need.length
  · obtain ⟨bl, off, rfl, hb, hc⟩ := hN.int_at h0
    have hh : need.headD 0 = need.getD 0 0 := by cases need <;> simp
    have HH := Lib.hid hh; clear hh
    rw [Nat.add_zero] at hc
    generalize need.getD 0 0 = z at *
    have hi3 : (0 : Int) < (need.length : Int) := by omega
    have hcc : ∀ o1 o2 o3, (((w.alloc o1).alloc o2).alloc o3).cell? ⟨bl, off, none⟩ = some (.int .i64 z) := fun o1 o2 o3 => by
      rw [((((Below.refl w.heap.size w).alloc (Nat.le_refl _) o1).alloc (by simp) o2).alloc (by simp; omega) o3).cell hb]; exact hc
    clear hc
    go_enter Try.func7, Try.ntmps7
    go_wp2
    go_ret
    obtain ⟨b1, b2, b3, b4, b5⟩ := boxes3 w (.int .i64 which) (.slice (some ⟨bl, off, none⟩) need.length nc) (.int .i64 z) 3 22 3
    exact ⟨_, rfl, ⟨w.heap.size, w.heap.size + 1, w.heap.size + 1 + 1, some ⟨bl, off, none⟩, nc, rfl, by rw [b4]; omega, by rw [b4]; omega, by rw [b4]; omega, b1, b2, by rw [HH.out]; exact b3, hN.below b5⟩, b5⟩
  · obtain rfl : need = [] := List.eq_nil_of_length_eq_zero (by omega)
    go_enter Try.func7, Try.ntmps7
    go_wp2
    go_ret
    obtain ⟨b1, b2, b3, b4, b5⟩ := boxes3 w (.int .i64 which) (.slice np 0 nc) (.int .i64 0) 3 22 3
    exact ⟨_, rfl, ⟨w.heap.size, w.heap.size + 1, w.heap.size + 1 + 1, np, nc, rfl, by rw [b4]; omega, by rw [b4]; omega, by rw [b4]; omega, b1, b2, b3, hN.below b5⟩, b5⟩

theorem has19_any {w : World} {p : Option Addr} {cap : Nat} {l : List Int} (hR : SlI w p cap l) : Calls Try.prog 12 #[.slice p l.length cap] w fun e w' => e = .returned (.bool (decide (1 ∈ l) && decide (9 ∈ l))) ∧ Below w.heap.size w w' := by
  by_cases h : (1 : Int) ∈ l
  · have hh := hasInt_any 1 hR
    rw [decide_eq_true h] at hh ⊢
    have HH := Lib.hid hh; clear hh h
    go_enter Try.func12, Try.ntmps12
    go_wp2_with fail
    refine HH.out.mono ?_
    rintro e w1 ⟨rfl, rfl⟩
    go_wp2_with fail
    refine (hasInt_any 9 hR).mono ?_
    rintro e w1 ⟨rfl, rfl⟩
    go_wp2_with fail
    go_ret
    exact ⟨ret_bool (by simp), Below.refl _ _⟩
  · have hh := hasInt_any 1 hR
    rw [decide_eq_false h] at hh ⊢
    have HH := Lib.hid hh; clear hh h
    go_enter Try.func12, Try.ntmps12
    go_wp2_with fail
    refine HH.out.mono ?_
    rintro e w1 ⟨rfl, rfl⟩
    go_wp2_with fail
    go_ret
    exact ⟨ret_bool rfl, Below.refl _ _⟩

theorem has19_holds (W : World) : Holds W 12 #[] (fun l => decide (1 ∈ l) && decide (9 ∈ l)) :=
  ⟨enters_own Try.func12 (by kernel_rfl) rfl, fun w' _ p cap l hs _ => has19_any hs⟩

theorem never_holds (W : World) : Holds W 13 #[] (fun _ => false) :=
  ⟨enters_own Try.func13 (by kernel_rfl) rfl, fun w' _ p cap l hs _ => by
    show Calls Try.prog 13 #[.slice p l.length cap] w' _
    go_enter Try.func13, Try.ntmps13
    go_wp2
    go_ret
    exact ⟨rfl, Below.refl _ _⟩⟩

end Go.Proofs.Ytkhjppkhbiojoaa
