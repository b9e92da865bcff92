/-
  What must be in any case.
-/
import Derived.Test.YtoillodfabdeeaaLaw
import Derived.Test.YtoillodfabdeeaaRow
namespace Go.Proofs.Ytoillodfabdeeaa
open Go.RowKit Go.Sort

theorem sus_is {w : World} {p q : Option Addr} {n m cap cap2 : Nat} {ps : List Pt} {good : List Int} (hR : Deps w p cap ps) (hn : n = ps.length) (hG : SlI w q cap2 good) (hm : m = good.length) (bad : Int) {l : List Int} {e : Int} (hl : susL ps bad good = l) (he : askE ps bad good = e) :
    Calls Try.prog 7 #[.slice p n cap, .int .i64 bad, .slice q m cap2] w fun x w' => ∃ p' c', x = .returned (.tuple #[.slice p' l.length c', .int .i64 e]) ∧ SlI w' p' c' l ∧ Below w.heap.size w w' := by
  subst hn hm hl he
  exact (Suspects_any hR hG bad).mono fun x w' ⟨p', c', h1, h2, h3⟩ => ⟨p', c', h1, Sl.of_own h2, h3⟩
theorem pick_is {w : World} {p q : Option Addr} {n m cap cap2 : Nat} {ps : List Pt} {good : List Int} (hR : Deps w p cap ps) (hn : n = ps.length) (hG : SlI w q cap2 good) (hm : m = good.length) (bad : Int) {v e : Int} {b : Bool}
    (hv : (if askE ps bad good = 0 then max (pickM ps bad good) 0 else 0) = v) (hb : (decide (askE ps bad good = 0) && decide (0 ≤ pickM ps bad good)) = b) (he : askE ps bad good = e) :
    Calls Try.prog 14 #[.slice p n cap, .int .i64 bad, .slice q m cap2] w fun x w' => x = .returned (.tuple #[.int .i64 v, .bool b, .int .i64 e]) ∧ Below w.heap.size w w' := by
  have := Pick_any hR hG bad
  rw [hv, hb, he] at this
  subst hn hm
  exact this
theorem hunt_is {w : World} {p q : Option Addr} {n k cap cap2 : Nat} {ps : List Pt} {good : List Int} (hR : Deps w p cap ps) (hn : n = ps.length) (hG : SlI w q cap2 good) (hk : k = good.length) (hgl : good.length ≤ 1000) (bad : Int)
    {f : FuncId} {capt : Array Value} {D : World → Int → Prop} {pr : Int → Bool} (hF : PredV w f capt (Value.int .i64) D pr) (hD : ∀ w' (n : Int), Below w.heap.size w w' → 0 ≤ n → n < ps.length → D w' n) (h0 : askE ps bad good = 0)
    {I : Int → List Int → Nat → Prop} (hI0 : I bad good 0) (hgo : Goes ps pr I) :
    Calls Try.prog 11 #[.slice p n cap, .int .i64 bad, .slice q k cap2, .func (.func f) #[] capt] w fun e w' =>
      ∃ b g m, I b g m ∧ pickM ps b g < 0 ∧ (0 ≤ b ∧ b < ps.length) ∧ GoodOk ps g ∧ e = .returned (.tuple #[.int .i64 b, .int .i64 (m : Nat), .int .i64 0]) ∧ Below w.heap.size w w' := by
  subst hn hk
  exact Hunt_any hR hG hgl bad hF hD h0 hI0 hgo

/-- A row's places: all that stand ahead. -/
theorem row_ok {ps : List Pt} {n : Nat} (h : IsRow ps n) (hn : n ≤ 200) : OkD ps := by
  refine ⟨by rw [h.1]; exact hn, fun i hi x hx => ?_⟩
  rw [h.2 i (by rw [h.1] at hi; exact hi)] at hx
  unfold rowU at hx
  split at hx
  · simp at hx
  · have := List.mem_singleton.1 hx; omega
theorem row_reach {ps : List Pt} {n : Nat} (h : IsRow ps n) {i : Nat} (hi : i < n) : ∀ d k : Nat, k + d = i → Reach (usesAt ps) i k
  | 0, k, e => by obtain rfl : k = i := by omega
                  exact .refl
  | d + 1, k, e => by
    have h1 := row_reach h hi d (k + 1) (by omega)
    refine h1.step ?_
    unfold usesAt
    rw [h.2 (k + 1) (by omega)]
    unfold rowU
    rw [if_neg (by omega)]
    simp
theorem row_bk {ps : List Pt} {n : Nat} (h : IsRow ps n) (hn : n ≤ 200) {i : Nat} (hi : i < n) {x : Int} : x ∈ Bk ps i ↔ 0 ≤ x ∧ x ≤ i := by
  have hO := row_ok h hn
  have hl := h.1
  constructor
  · intro hx
    exact ⟨(Bk_mem hx).1, Bk_le hO (by omega) hx⟩
  · rintro ⟨h1, h2⟩
    obtain ⟨k, rfl⟩ := Int.eq_ofNat_of_zero_le h1
    exact (mem_Bk hO (by omega)).2 ⟨k, rfl, row_reach h hi (i - k) k (by omega)⟩
theorem checkM_ok {ps : List Pt} (hO : OkD ps) {i : Nat} (hi : i < ps.length) : checkM ps [(i : Int)] = 0 := by
  unfold checkM
  have h200 := hO.1
  rw [if_neg (by omega), if_neg, if_neg]
  · unfold placeBad; simp; omega
  · rw [Bool.not_eq_true, List.any_eq_false]
    intro j hj
    unfold depBad
    rw [Bool.not_eq_true, List.any_eq_false]
    intro x hx
    have := hO.2 j (List.mem_range.1 hj) x hx
    simp; omega
theorem errB_ok {ps : List Pt} (hO : OkD ps) {i : Nat} (hi : i < ps.length) {good : List Int} (hg : GoodOk ps good) : errB ps i good = 0 := by
  unfold errB
  rw [if_pos (checkM_ok hO hi), if_neg]
  rw [Bool.not_eq_true, List.any_eq_false]
  intro x hx
  have := hg x hx
  unfold placeBad
  simp; omega
theorem askE_ok {ps : List Pt} (hO : OkD ps) {i : Nat} (hi : i < ps.length) {good : List Int} (hg : GoodOk ps good) (hm : (i : Int) ∈ suspP ps i good) : askE ps i good = 0 := by
  unfold askE
  rw [if_pos (errB_ok hO hi hg), Int.toNat_natCast, if_pos hm]

section
variable {ps : List Pt} (h : IsRow ps 6)
theorem six_bk {i : Nat} (h : IsRow ps 6) (hi : i < 6) (l : List Int) (hl : l.Pairwise (· < ·)) (hm : ∀ x : Int, x ∈ l ↔ 0 ≤ x ∧ x ≤ i) : Bk ps i = l :=
  rising_ext (Bk_rising ps i) hl fun x => by rw [row_bk h (by omega) hi, hm]
theorem six_0 (h : IsRow ps 6) : Bk ps 1 = [0, 1] := six_bk h (by omega) _ (by decide) (fun x => by simp; omega)
theorem six_2 (h : IsRow ps 6) : Bk ps 2 = [0, 1, 2] := six_bk h (by omega) _ (by decide) (fun x => by simp; omega)
theorem six_3 (h : IsRow ps 6) : Bk ps 3 = [0, 1, 2, 3] := six_bk h (by omega) _ (by decide) (fun x => by simp; omega)
theorem six_4 (h : IsRow ps 6) : Bk ps 4 = [0, 1, 2, 3, 4] := six_bk h (by omega) _ (by decide) (fun x => by simp; omega)
theorem six_5 (h : IsRow ps 6) : Bk ps 5 = [0, 1, 2, 3, 4, 5] := six_bk h (by omega) _ (by decide) (fun x => by simp; omega)
theorem six_s (h : IsRow ps 6) : suspP ps 5 [1] = [2, 3, 4, 5] := by
  unfold suspP
  simp only [List.any_cons, List.any_nil, Bool.or_false]
  rw [show ((1 : Int).toNat) = 1 from rfl, six_0 h, six_5 h]
  rfl
theorem six_s1 (h : IsRow ps 6) : suspP ps 3 [1] = [2, 3] := by
  unfold suspP
  simp only [List.any_cons, List.any_nil, Bool.or_false]
  rw [show ((1 : Int).toNat) = 1 from rfl, six_0 h, six_3 h]
  rfl
theorem six_s2 (h : IsRow ps 6) : suspP ps 3 [1, 2] = [3] := by
  unfold suspP
  simp only [List.any_cons, List.any_nil, Bool.or_false]
  rw [show ((1 : Int).toNat) = 1 from rfl, show ((2 : Int).toNat) = 2 from rfl, six_0 h, six_2 h, six_3 h]
  rfl
theorem six_p (h : IsRow ps 6) : pickM ps 5 [1] = 3 := by
  unfold pickM
  rw [show ((5 : Int).toNat) = 5 from rfl, six_s h]
  unfold pickP pickTo
  simp only [List.foldl_cons, List.foldl_nil]
  unfold pickStep
  simp only [show ((2 : Int).toNat) = 2 from rfl, show ((3 : Int).toNat) = 3 from rfl, show ((4 : Int).toNat) = 4 from rfl, show ((5 : Int).toNat) = 5 from rfl, six_2 h, six_3 h, six_4 h, six_5 h]
  decide
theorem six_p1 (h : IsRow ps 6) : pickM ps 3 [1] = 2 := by
  unfold pickM
  rw [show ((3 : Int).toNat) = 3 from rfl, six_s1 h]
  unfold pickP pickTo
  simp only [List.foldl_cons, List.foldl_nil]
  unfold pickStep
  simp only [show ((2 : Int).toNat) = 2 from rfl, show ((3 : Int).toNat) = 3 from rfl, six_2 h, six_3 h]
  decide
theorem six_p2 (h : IsRow ps 6) : pickM ps 3 [1, 2] = -1 := by
  unfold pickM
  rw [show ((3 : Int).toNat) = 3 from rfl, six_s2 h]
  unfold pickP pickTo
  simp only [List.foldl_cons, List.foldl_nil]
  unfold pickStep
  simp only [show ((3 : Int).toNat) = 3 from rfl, six_3 h]
  decide
theorem six_e (h : IsRow ps 6) : askE ps 5 [1] = 0 := by
  have hl := h.1
  refine askE_ok (i := 5) (row_ok h (by omega)) (by omega) (fun g hg => by obtain rfl := List.mem_singleton.1 hg; omega) ?_
  rw [six_s h]; simp
def SixI (b : Int) (g : List Int) (m : Nat) : Prop := (b = 5 ∧ g = [1] ∧ m = 0) ∨ (b = 3 ∧ g = [1] ∧ m = 1) ∨ (b = 3 ∧ g = [1, 2] ∧ m = 2)
theorem six_goes (h : IsRow ps 6) : Goes ps (fun n => decide (3 ≤ n)) SixI := by
  refine ⟨?_, ?_⟩
  · rintro b g m (⟨rfl, rfl, rfl⟩ | ⟨rfl, rfl, rfl⟩ | ⟨rfl, rfl, rfl⟩) - - h0 hp
    · rw [six_p h] at *
      refine ⟨.inr (.inl ⟨rfl, rfl, rfl⟩), ?_⟩
      rw [show ((3 : Int).toNat) = 3 from rfl, show ((5 : Int).toNat) = 5 from rfl, six_s h, six_s1 h]; decide
    · rw [six_p1 h] at hp; cases hp
    · rw [six_p2 h] at h0; omega
  · rintro b g m (⟨rfl, rfl, rfl⟩ | ⟨rfl, rfl, rfl⟩ | ⟨rfl, rfl, rfl⟩) - - h0 hp
    · rw [six_p h] at hp; cases hp
    · rw [six_p1 h] at *
      refine ⟨.inr (.inr ⟨rfl, rfl, rfl⟩), ?_⟩
      rw [show ((3 : Int).toNat) = 3 from rfl, six_s1 h, show ([1] : List Int) ++ [2] = [1, 2] from rfl, six_s2 h]; decide
    · rw [six_p2 h] at h0; omega
end

theorem begun1_pred (W : World) : PredV W 15 #[] (Value.int .i64) (fun _ _ => True) (fun n => decide (3 ≤ n)) := by
  refine ⟨enters_own Try.func15 (by kernel_rfl) rfl, fun w' hb x _ => ?_⟩
  go_enter Try.func15, Try.ntmps15
  go_wp2
  go_ret
  exact ⟨rfl, Below.refl _ _⟩

theorem row6 (w : World) : Calls Try.prog 12 #[.int .i64 6] w fun e w' => ∃ ps, e = .returned (.slice (some ⟨w.heap.size, 0, none⟩) 6 6) ∧ Deps w' (some ⟨w.heap.size, 0, none⟩) 6 ps ∧ IsRow ps 6 ∧ Below w.heap.size w w' := row_any w 6 (by decide) (by decide)

set_option maxRecDepth 100000 in
set_option maxHeartbeats 2000000 in
theorem begun_any (w : World) : Calls Try.prog 6 #[] w fun e w' => e = .returned (.bool true) ∧ Below w.heap.size w w' := by
  go_enter Try.func6, Try.ntmps6
  go_wp2_with fail
  refine (row6 w).mono ?_
  rintro _ w1 ⟨ps, rfl, hD, hI, hB⟩
  go_wp2_with fail
  have hL := lit_sl w1 [1] (by decide) #[.int .i64 1] rfl _ rfl 1 rfl
  have hal := (Below.refl w1.heap.size w1).alloc (Nat.le_refl _) (.cells #[.int .i64 1] 3)
  refine (sus_is (hD.below hal) hI.1.symm hL rfl 5 (l := [2, 3, 4, 5]) (e := 0) (by unfold susL; rw [six_e hI, if_pos rfl]; exact six_s hI) (six_e hI)).mono ?_
  rintro _ w2 ⟨p2, c2, rfl, h2, hb⟩
  replace hb := hal.trans (hb.mono hal.size)
  replace hB := hB.trans (hb.mono hB.size)
  clear hb hal hL hD hI
  go_wp2_with fail
  refine (row6 w2).mono ?_
  rintro _ w3 ⟨ps, rfl, hD, hI, hb⟩
  replace hB := hB.trans (hb.mono hB.size)
  replace h2 := h2.below hb
  clear hb
  go_wp2_with fail
  have hL := lit_sl w3 [1] (by decide) #[.int .i64 1] rfl _ rfl 1 rfl
  have hal := (Below.refl w3.heap.size w3).alloc (Nat.le_refl _) (.cells #[.int .i64 1] 3)
  refine (pick_is (hD.below hal) hI.1.symm hL rfl 5 (v := 3) (b := true) (e := 0) (by rw [six_e hI, six_p hI]; rfl) (by rw [six_e hI, six_p hI]; rfl) (six_e hI)).mono ?_
  rintro _ w4 ⟨rfl, hb⟩
  replace hb := hal.trans (hb.mono hal.size)
  replace hB := hB.trans (hb.mono hB.size)
  replace h2 := h2.below hb
  clear hb hal hL hD hI
  go_wp2_with fail
  refine (row6 w4).mono ?_
  rintro _ w5 ⟨ps, rfl, hD, hI, hb⟩
  replace hB := hB.trans (hb.mono hB.size)
  replace h2 := h2.below hb
  clear hb
  go_wp2_with fail
  have hL := lit_sl w5 [1] (by decide) #[.int .i64 1] rfl _ rfl 1 rfl
  have hal := (Below.refl w5.heap.size w5).alloc (Nat.le_refl _) (.cells #[.int .i64 1] 3)
  refine (hunt_is (hD.below hal) hI.1.symm hL rfl (by decide) 5 (begun1_pred _) (fun _ _ _ _ _ => trivial) (six_e hI) (I := SixI) (.inl ⟨rfl, rfl, rfl⟩) (six_goes hI)).mono ?_
  rintro _ w6 ⟨b, g, m, hinv, hpk, -, -, rfl, hb⟩
  have hbm : b = 3 ∧ m = 2 := by
    rcases hinv with ⟨rfl, rfl, rfl⟩ | ⟨rfl, rfl, rfl⟩ | ⟨rfl, rfl, rfl⟩
    · rw [six_p hI] at hpk; omega
    · rw [six_p1 hI] at hpk; omega
    · exact ⟨rfl, rfl⟩
  obtain ⟨rfl, rfl⟩ := hbm
  replace hb := hal.trans (hb.mono hal.size)
  replace hB := hB.trans (hb.mono hB.size)
  replace h2 := h2.below hb
  clear hb hal hL hD hI hpk hinv
  go_wp2_with fail
  have hL := lit_sl w6 [2, 3, 4, 5] (by decide) #[.int .i64 2, .int .i64 3, .int .i64 4, .int .i64 5] rfl _ rfl 4 rfl
  have hal := (Below.refl w6.heap.size w6).alloc (Nat.le_refl _) (.cells #[.int .i64 2, .int .i64 3, .int .i64 4, .int .i64 5] 3)
  refine (sameI_is (h2.below hal) hL (b := true) rfl).mono ?_
  rintro _ w7 ⟨rfl, hb⟩
  replace hb := hal.trans (hb.mono hal.size)
  replace hB := hB.trans (hb.mono hB.size)
  clear hb hL hal h2
  go_wp2_with fail
  go_ret
  exact ⟨rfl, hB⟩
end Go.Proofs.Ytoillodfabdeeaa
