/-
  Kept, Add, From.
-/
import Derived.Test.YtcmmdfhnfkmjnaaWalk
namespace Go.Proofs.Ytcmmdfhnfkmjnaa
open Go.RowKit Go.Sort

theorem Kept_ok (w : World) (n : Nat) (hn : n ≤ 4000) :
    Calls Try.prog 7 #[.int .i64 n] w fun e w' => ∃ p c, e = .returned (.tuple #[.slice p (keptL n).length c, .int .i64 0]) ∧ OwnI w' w.heap.size p c (keptL n) ∧ Below w.heap.size w w' := by
  have q1 : ¬ (4000 : Int) < (n : Int) := by omega
  go_enter Try.func7, Try.ntmps7
  go_wp2_with fail
  refine (kept_any _ n hn).mono ?_
  rintro _ w1 ⟨p, c, rfl, hown, hb⟩
  go_wp2_with fail
  go_ret2
  exact ⟨p, c, rfl, hown, hb⟩
theorem Kept_no (w : World) (n : Int) (hn : n < 0 ∨ 4000 < n) :
    Calls Try.prog 7 #[.int .i64 n] w fun e w' => e = .returned (.tuple #[.slice none 0 0, .int .i64 1]) ∧ Below w.heap.size w w' := by
  by_cases h0 : n < 0
  · go_enter Try.func7, Try.ntmps7
    go_wp2_with fail
    go_ret2
    exact ⟨rfl, Below.refl _ _⟩
  · have h1 : 4000 < n := by omega
    go_enter Try.func7, Try.ntmps7
    go_wp2_with fail
    go_ret2
    exact ⟨rfl, Below.refl _ _⟩
/-- Those of the first j that go. -/
def goneTo (O l : List Int) (j : Nat) : List Int := (l.take j).filter fun x => !decide (x ∈ O)
theorem goneTo_step {O l : List Int} {j : Nat} (hj : j < l.length) : goneTo O l (j + 1) = if l.getD j 0 ∈ O then goneTo O l j else goneTo O l j ++ [l.getD j 0] := by
  unfold goneTo
  rw [List.take_add_one, List.filter_append, List.getElem?_eq_getElem hj]
  simp only [Option.toList_some, List.getD_eq_getElem?_getD, List.getElem?_eq_getElem hj, Option.getD_some]
  split <;> rename_i h <;> simp [h]
theorem goneTo_le (O l : List Int) (j : Nat) : (goneTo O l j).length ≤ j := Nat.le_trans (List.length_filter_le _ _) (List.length_take_le _ _)
set_option maxRecDepth 100000 in
set_option maxHeartbeats 2000000 in
theorem Add_any {w : World} {p : Option Addr} {cap : Nat} {l : List Int} {n m : Nat} (hnm : n = m + 1) (hn : n ≤ 4000) (hl : l = keptL m) (hR : SlI w p cap l) :
    Calls Try.prog 9 #[.slice p l.length cap, .int .i64 n] w fun e w' => ∃ p1 c1 p2 c2, e = .returned (.tuple #[.slice p1 (keptL n).length c1, .slice p2 (goneL n).length c2, .int .i64 0]) ∧ SlI w' p1 c1 (keptL n) ∧ SlI w' p2 c2 (goneL n) ∧ Below w.heap.size w w' := by
  have h0 : 0 < l.length := by rw [hl]; exact kept_pos _
  have q1 : ¬ (4000 : Int) < (n : Int) := by omega
  have q2 : ¬ (n : Int) < 1 := by omega
  have q3 : (n : Int) - 1 = (m : Int) := by omega
  have hk := kept_any w m (by omega)
  rw [← hl] at hk
  have HK := Lib.hid hk; have HM := Lib.hid hnm; have HLm := Lib.hid hl; clear hk hnm hl
  go_enter Try.func9, Try.ntmps9
  go_wp2_with fail
  refine HK.out.mono ?_
  rintro _ w1 ⟨p1, c1, rfl, hown1, hb1⟩
  have he := equal_any (hR.below hb1) (Sl.of_own hown1) h0 h0
  rw [decide_eq_true (show l = l from rfl)] at he
  have HE := Lib.hid he; clear he HK hown1
  go_wp2_with fail
  refine HE.out.mono ?_
  rintro _ w2 ⟨rfl, hb2⟩
  have hB2 := hb1.trans (hb2.mono hb1.size)
  have hk := kept_any w2 n hn
  have HK := Lib.hid hk; clear hk HE
  go_wp2_with fail
  refine HK.out.mono ?_
  rintro _ w3 ⟨p3, c3, rfl, hown3, hb3⟩
  have hB3 := hB2.trans (hb3.mono hB2.size)
  have hO := Sl.of_own hown3
  clear HK hown3
  go_wp2_with fail
  have hgl : goneTo (keptL n) l l.length = goneL n := by
    unfold goneTo goneL
    rw [List.take_length, HLm.out, HM.out, Nat.add_sub_cancel]
  have hlk : (keptL n).length ≤ 100000 := Nat.le_trans (kept_len n) (by omega)
  have hll : l.length ≤ 100000 := by rw [HLm.out]; exact Nat.le_trans (kept_len m) (by have := HM.out; omega)
  have hpw := (kept_rising n).imp (S := (· ≤ ·)) fun h => by omega
  have h0k := kept_pos n
  have HG := Lib.hid hgl; have HPW := Lib.hid hpw; clear hgl hpw
  generalize hO' : keptL n = O at *
  obtain ⟨i0, hi0, iz0, iz1, iz2⟩ := info_parts infoI
  have hR3 := hR.below hB3
  clear hR
  go_loopw [8, 31] (fun s8 s31 wr => ∃ (j : Nat) (p2 : Option Addr) (c2 : Nat), j ≤ l.length ∧ s31 = .int .i64 j ∧ s8 = .slice p2 (goneTo O l j).length c2 ∧ OwnI wr w3.heap.size p2 c2 (goneTo O l j) ∧ Below w3.heap.size w3 wr) (fun _ s31 _ => l.length - (intOf s31).toNat)
  case atStart => exact ⟨0, none, 0, Nat.zero_le _, rfl, rfl, World.ownsRow_nil _ _ _ _, Below.refl _ _⟩
  case round =>
    obtain ⟨j, p2, c2, hj, rfl, rfl, hown, hB⟩ := hrel
    by_cases hlt : j < l.length
    · have hR' := hR3.below hB
      obtain ⟨b, off, rfl, hb, hc⟩ := Sl.int_at hR' hlt
      have hstep := goneTo_step (O := O) hlt
      have hgle := goneTo_le O l j
      have hsr := search_any (hO.below hB) h0k hlk HPW.out (l.getD j 0)
      generalize l.getD j 0 = x at *
      have HS := Lib.hid hsr; have HST := Lib.hid hstep; have HGL := Lib.hid hgle; clear hsr hstep hgle
      generalize List.countP (fun y => decide (y < x)) O = cnt at *
      generalize hg : goneTo O l j = g at *
      by_cases hx : x ∈ O
      · have hS := HS.out
        rw [decide_eq_true hx] at hS
        have hT := HST.out
        rw [if_pos hx] at hT
        have HS2 := Lib.hid hS; have HT := Lib.hid hT
        clear HS HST hx hS hT
        go_wp2_with fail
        refine HS2.out.mono ?_
        rintro _ w5 ⟨rfl, hb5⟩
        have hz := hB.size
        have hB5 := hB.trans (hb5.mono hz)
        have hown5 := own_below hown hb5
        go_wp2_with fail
        go_roundw
        case rel => exact ⟨j + 1, p2, c2, by omega, by go_num, by rw [HT.out], by rw [HT.out]; exact hown5, hB5⟩
        case measure => simp [intOf]; omega
      · have hS := HS.out
        rw [decide_eq_false hx] at hS
        have hT := HST.out
        rw [if_neg hx] at hT
        have HS2 := Lib.hid hS; have HT := Lib.hid hT
        clear HS HST hx hS hT
        go_wp2_with fail
        refine HS2.out.mono ?_
        rintro _ w5 ⟨rfl, hb5⟩
        have hz := hB.size
        have hB5 := hB.trans (hb5.mono hz)
        have hz5 := hB5.size
        have hown5 := own_below hown hb5
        have hal := (Below.refl w5.heap.size w5).alloc (Nat.le_refl _) (.cells #[.int .i64 x] 3)
        have hbs : w3.heap.size ≤ (w5.alloc (.cells #[.int .i64 x] 3)).heap.size := Nat.le_trans hz5 hal.size
        have hg1 : g.length + 1 ≤ 1000000 := by have := HGL.out; omega
        go_wp2_with (at_builtin; refine wpList_append_sl _ rfl _ _ 23 rfl w3.heap.size 3 i0 (.int .i64 0) 1 8 Try.underlying23 hi0 iz0 iz1 iz2 rfl (by decide) _ _ _ rfl (own_below hown5 hal) _ 1 1 (ints .i64 [x]) rfl (lit_sl w5 [x] (by simp) #[.int .i64 x] rfl _ rfl 1 rfl) ints_one (by omega) (by omega) hbs ?_; intro p' c' w6 hown6 hb6)
        rw [← ints_append] at hown6
        have hB6 := hB5.trans ((hal.mono hz5).trans hb6)
        have hl2 : g.length + 1 = (g ++ [x]).length := by simp
        go_roundw
        case rel => exact ⟨j + 1, p', c', by omega, by go_num, by rw [HT.out, ← hl2], by rw [HT.out]; unfold OwnI; rw [← hl2]; exact hown6, hB6⟩
        case measure => simp [intOf]; omega
    · obtain rfl : j = l.length := by omega
      rw [HG.out] at hown
      have hOB := hO.below hB
      have hG := HG.out
      generalize hge : goneTo O l l.length = ge at *
      subst hG
      have hz3 := hB3.size
      go_wp2_with fail
      go_ret3
      exact ⟨p3, c3, p2, c2, rfl, hOB, Sl.of_own hown, hB3.trans (hB.mono hz3)⟩
theorem count_at : ∀ {l : List Int}, l.Pairwise (· < ·) → ∀ (x : Int) (j : Nat), j < l.length → (l.getD j 0 < x ↔ j < l.countP (· < x))
  | [], _, _, j, hj => by simp at hj
  | a :: l, h, x, j, hj => by
    rw [List.pairwise_cons] at h
    rw [List.countP_cons]
    by_cases ha : a < x
    · rw [if_pos (by simpa using ha)]
      cases j with
      | zero => simp [ha]
      | succ j =>
        have := count_at h.2 x j (by simpa using hj)
        simp only [List.getD_cons_succ]
        omega
    · rw [if_neg (by simpa using ha)]
      have h0 : l.countP (· < x) = 0 := by
        rw [List.countP_eq_zero]
        intro y hy
        have := h.1 y hy
        simp; omega
      rw [h0]
      cases j with
      | zero => simp; omega
      | succ j =>
        simp only [List.getD_cons_succ]
        have hm : l.getD j 0 ∈ l := by
          have hj' : j < l.length := by simpa using hj
          rw [List.getD_eq_getElem?_getD, List.getElem?_eq_getElem hj']
          exact List.getElem_mem hj'
        have := h.1 _ hm
        omega
theorem getD_mem {l : List Int} {j : Nat} (hj : j < l.length) : l.getD j 0 ∈ l := by
  rw [List.getD_eq_getElem?_getD, List.getElem?_eq_getElem hj]
  exact List.getElem_mem hj
theorem count_near {l : List Int} (hs : l.Pairwise (· < ·)) {x : Int} (hx : ¬ x ∈ l) {y : Int} (hy : y ∈ l) (hyx : y < x) :
    0 < l.countP (· < x) ∧ l.countP (· < x) - 1 < l.length ∧ l.getD (l.countP (· < x) - 1) 0 ≤ x ∧ ∀ z ∈ l, z ≤ x → z ≤ l.getD (l.countP (· < x) - 1) 0 := by
  have hle : l.countP (· < x) ≤ l.length := List.countP_le_length
  have h0 : 0 < l.countP (· < x) := List.countP_pos_iff.2 ⟨y, hy, by simpa using hyx⟩
  have h1 := (count_at hs x (l.countP (· < x) - 1) (by omega)).2 (by omega)
  refine ⟨h0, by omega, by omega, fun z hz hzx => ?_⟩
  obtain ⟨i, hi, rfl⟩ := List.getElem_of_mem hz
  have hlt : l[i] < x := by
    rcases Int.lt_or_eq_of_le hzx with h | h
    · exact h
    · exact absurd (h ▸ hz) hx
  have e : l.getD i 0 = l[i] := by rw [List.getD_eq_getElem?_getD, List.getElem?_eq_getElem hi]; rfl
  have h2 := (count_at hs x i hi).1 (by rw [e]; exact hlt)
  have e2 : l.getD (l.countP (· < x) - 1) 0 = l[l.countP (· < x) - 1] := by rw [List.getD_eq_getElem?_getD, List.getElem?_eq_getElem (by omega)]; rfl
  rw [e2]
  rcases Nat.lt_or_ge i (l.countP (· < x) - 1) with h | h
  · exact Int.le_of_lt (List.pairwise_iff_getElem.1 hs i _ hi (by omega) h)
  · have : i = l.countP (· < x) - 1 := by omega
    simp only [this]; exact Int.le_refl _
set_option maxRecDepth 100000 in
set_option maxHeartbeats 2000000 in
theorem From_any {w : World} {p : Option Addr} {cap : Nat} {l : List Int} {at_ : Int} (hR : SlI w p cap l) (hs : l.Pairwise (· < ·)) (h0 : (0 : Int) ∈ l) (hl : l.length ≤ 100000) (hp : ∀ y ∈ l, 0 ≤ y) (ha : 0 ≤ at_) :
    Calls Try.prog 8 #[.slice p l.length cap, .int .i64 at_] w fun e w' => ∃ k, e = .returned (.tuple #[.int .i64 k, .int .i64 0]) ∧ k ∈ l ∧ k ≤ at_ ∧ (∀ y ∈ l, y ≤ at_ → y ≤ k) ∧ Below w.heap.size w w' := by
  have hm : l.length ≤ 9223372036854775807 := by omega
  have hpw := hs.imp (S := (· ≤ ·)) fun h => by omega
  have hnext : ∀ j, j + 1 < l.length → l.getD j 0 < l.getD (j + 1) 0 := fun j hj => by
    have := List.pairwise_iff_getElem.1 hs j (j + 1) (by omega) hj (by omega)
    rw [List.getD_eq_getElem?_getD, List.getElem?_eq_getElem (by omega), List.getD_eq_getElem?_getD, List.getElem?_eq_getElem hj]
    exact this
  have hl0 : 0 < l.length := List.length_pos_of_mem h0
  have hfirst : -1 < l.getD 0 0 := by have := hp _ (getD_mem hl0); omega
  have hsr := search_any hR hl0 hl hpw at_
  have HS := Lib.hid hs; have H0 := Lib.hid h0; have HN := Lib.hid hnext; have HP := Lib.hid hp; have HSR := Lib.hid hsr
  clear hs h0 hpw hnext hp hsr
  go_enter Try.func8, Try.ntmps8
  go_wp2_with fail
  go_loop [6, 13] (fun s6 s13 => ∃ (j : Nat) (la : Int), j ≤ l.length ∧ s13 = .int .i64 j ∧ s6 = .int .i64 la ∧ Hid (j < l.length → la < l.getD j 0)) (fun _ s13 => l.length - (intOf s13).toNat)
  case atStart => exact ⟨0, -1, Nat.zero_le _, rfl, rfl, fun _ => hfirst⟩
  case round =>
    clear hfirst
    obtain ⟨j, la, hj, rfl, rfl, hla⟩ := hrel
    by_cases hlt : j < l.length
    · obtain ⟨b, off, rfl, hb, hc⟩ := Sl.int_at hR hlt
      have hx := hla.out hlt
      have hnx : Hid (j + 1 < l.length → l.getD j 0 < l.getD (j + 1) 0) := fun h => HN.out j h
      clear hla
      generalize l.getD j 0 = x at *
      have q1 : decide (x ≤ la) = false := decide_eq_false (by omega)
      go_wp2_with fail
      go_round
      case rel => exact ⟨j + 1, x, by omega, by go_num, rfl, hnx⟩
      case measure => simp [intOf]; omega
    · obtain rfl : j = l.length := by omega
      clear hla HN
      by_cases hin : at_ ∈ l
      · have hS := HSR.out
        rw [decide_eq_true hin] at hS
        have HS2 := Lib.hid hS; have HI := Lib.hid hin
        clear HSR hS hin
        generalize List.countP (fun y => decide (y < at_)) l = cnt at *
        go_wp2_with fail
        refine HS2.out.mono ?_
        rintro _ w5 ⟨rfl, hb5⟩
        go_wp2_with fail
        go_ret2
        exact ⟨at_, rfl, HI.out, Int.le_refl _, fun _ _ h => h, hb5⟩
      · have hlt0 : 0 < at_ := by
          rcases Int.lt_or_eq_of_le ha with h | h
          · exact h
          · exact absurd (h ▸ H0.out) hin
        obtain ⟨n1, n2, n3, n4⟩ := count_near HS.out hin H0.out hlt0
        have hS := HSR.out
        rw [decide_eq_false hin] at hS
        have HS2 := Lib.hid hS
        clear HSR hS hin
        generalize List.countP (fun y => decide (y < at_)) l = cnt at *
        have q1 : ((cnt : Int) == 0) = false := by simp; omega
        have q2 : (cnt : Int) - 1 = ((cnt - 1 : Nat) : Int) := by omega
        obtain ⟨b, off, rfl, hb, hc⟩ := Sl.int_at hR n2
        have hmem := getD_mem n2
        have HM := Lib.hid hmem; have H4 := Lib.hid n4; have H3 := Lib.hid n3
        clear hmem n3 n4
        generalize l.getD (cnt - 1) 0 = x at *
        generalize hc1 : cnt - 1 = c1 at *
        go_wp2_with fail
        refine HS2.out.mono ?_
        rintro _ w5 ⟨rfl, hb5⟩
        have hc5 := (hb5.cell (p := ⟨b, off + c1, none⟩) hb).trans hc
        go_wp2_with fail
        go_ret2
        exact ⟨x, rfl, HM.out, H3.out, H4.out, hb5⟩
end Go.Proofs.Ytcmmdfhnfkmjnaa
