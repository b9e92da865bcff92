/-
  The plain laws of the hunt.
-/
import Derived.Test.YtoillodfabdeeaaReach
import Derived.Test.YtoillodfabdeeaaHunt
namespace Go.Proofs.Ytoillodfabdeeaa

/-- Rising lists with the same numbers are one. -/
theorem rising_ext : ∀ {a b : List Int}, a.Pairwise (· < ·) → b.Pairwise (· < ·) → (∀ x, x ∈ a ↔ x ∈ b) → a = b
  | [], [], _, _, _ => rfl
  | [], y :: b, _, _, h => absurd ((h y).2 (by simp)) (by simp)
  | x :: a, [], _, _, h => absurd ((h x).1 (by simp)) (by simp)
  | x :: a, y :: b, ha, hb, h => by
    rw [List.pairwise_cons] at ha hb
    have hxy : x = y := by
      rcases List.mem_cons.1 ((h x).1 (by simp)) with e | e
      · exact e
      · rcases List.mem_cons.1 ((h y).2 (by simp)) with e' | e'
        · exact e'.symm
        · have h1 := hb.1 x e; have h2 := ha.1 y e'; omega
    subst hxy
    congr 1
    refine rising_ext ha.2 hb.2 fun z => ?_
    constructor
    · intro hz
      rcases List.mem_cons.1 ((h z).1 (by simp [hz])) with e | e
      · have := ha.1 z hz; omega
      · exact e
    · intro hz
      rcases List.mem_cons.1 ((h z).2 (by simp [hz])) with e | e
      · have := hb.1 z hz; omega
      · exact e

section
variable {ps : List Pt}
theorem Bk_rising (ps : List Pt) (i : Nat) : (Bk ps i).Pairwise (· < ·) := sorted_listedL _ _
theorem susp_rising (ps : List Pt) (b : Nat) (g : List Int) : (suspP ps b g).Pairwise (· < ·) := (Bk_rising ps b).filter _
theorem mem_Bk (hO : OkD ps) {i : Nat} (hi : i < ps.length) {x : Int} : x ∈ Bk ps i ↔ ∃ k : Nat, x = (k : Int) ∧ Reach (usesAt ps) i k := back_mem hO hi
theorem Bk_self (hO : OkD ps) {i : Nat} (hi : i < ps.length) : (i : Int) ∈ Bk ps i := (mem_Bk hO hi).2 ⟨i, rfl, .refl⟩
theorem Bk_le (hO : OkD ps) {i : Nat} (hi : i < ps.length) {x : Int} (hx : x ∈ Bk ps i) : x ≤ i := by
  obtain ⟨k, rfl, hr⟩ := (mem_Bk hO hi).1 hx
  have := hr.le (okU_of hO) hi
  omega
theorem Bk_trans (hO : OkD ps) {i n : Nat} (hi : i < ps.length) (hn : (n : Int) ∈ Bk ps i) {x : Int} (hx : x ∈ Bk ps n) : x ∈ Bk ps i := by
  obtain ⟨k, hk, hr⟩ := (mem_Bk hO hi).1 hn
  obtain rfl : n = k := by omega
  have hni := hr.le (okU_of hO) hi
  obtain ⟨m, rfl, hr'⟩ := (mem_Bk hO (by omega)).1 hx
  exact (mem_Bk hO hi).2 ⟨m, rfl, hr.trans hr'⟩
theorem mem_susp {b : Nat} {g : List Int} {x : Int} : x ∈ suspP ps b g ↔ x ∈ Bk ps b ∧ ∀ y ∈ g, x ∉ Bk ps y.toNat := by
  unfold suspP keptL
  rw [List.mem_filter]
  refine and_congr_right fun _ => ?_
  rw [Bool.not_eq_true', List.any_eq_false]
  exact ⟨fun h y hy hx => h y hy (decide_eq_true hx), fun h y hy hx => h y hy (of_decide_eq_true hx)⟩

/-- A yes: what of the suspects stands behind n. -/
theorem susp_yes (hO : OkD ps) {b n : Nat} {g : List Int} (hb : b < ps.length) (hn : (n : Int) ∈ suspP ps b g) : suspP ps n g = (suspP ps b g).filter fun x => decide (x ∈ Bk ps n) := by
  refine rising_ext (susp_rising ps n g) ((susp_rising ps b g).filter _) fun x => ?_
  rw [List.mem_filter, mem_susp, mem_susp]
  have hnb := (mem_susp.1 hn).1
  exact ⟨fun ⟨h1, h2⟩ => ⟨⟨Bk_trans hO hb hnb h1, h2⟩, decide_eq_true h1⟩, fun ⟨⟨_, h2⟩, h3⟩ => ⟨of_decide_eq_true h3, h2⟩⟩
/-- A no: the others. -/
theorem susp_no {b n : Nat} {g : List Int} : suspP ps b (g ++ [(n : Int)]) = (suspP ps b g).filter fun x => !decide (x ∈ Bk ps n) := by
  refine rising_ext (susp_rising ps b _) ((susp_rising ps b g).filter _) fun x => ?_
  rw [List.mem_filter, mem_susp, mem_susp]
  constructor
  · rintro ⟨h1, h2⟩
    refine ⟨⟨h1, fun y hy => h2 y (by simp [hy])⟩, ?_⟩
    have := h2 (n : Int) (by simp)
    rw [Int.toNat_natCast] at this
    rw [decide_eq_false this]; rfl
  · rintro ⟨⟨h1, h2⟩, h3⟩
    refine ⟨h1, fun y hy => ?_⟩
    rcases List.mem_append.1 hy with h | h
    · exact h2 y h
    · obtain rfl := List.mem_singleton.1 h
      rw [Int.toNat_natCast]
      intro h4
      rw [decide_eq_true h4] at h3
      cases h3
theorem parts_len (l : List Int) (p : Int → Bool) : (l.filter p).length + (l.filter fun x => !p x).length = l.length := by
  induction l with
  | nil => rfl
  | cons x l ih =>
    rw [List.filter_cons, List.filter_cons]
    cases p x
    · simp; omega
    · simp; omega
/-- How many of those behind n are suspects. -/
theorem partN_eq (hO : OkD ps) {b n : Nat} {g : List Int} (hb : b < ps.length) (hn : (n : Int) ∈ suspP ps b g) : partN (suspP ps b g) (Bk ps n) = (suspP ps n g).length := by
  rw [susp_yes hO hb hn]
  unfold partN
  rw [List.countP_eq_length_filter]
  congr 1
  refine rising_ext ((Bk_rising ps n).filter _) ((susp_rising ps b g).filter _) fun x => ?_
  rw [List.mem_filter, List.mem_filter]
  exact ⟨fun ⟨h1, h2⟩ => ⟨of_decide_eq_true h2, decide_eq_true h1⟩, fun ⟨h1, h2⟩ => ⟨of_decide_eq_true h2, decide_eq_true h1⟩⟩
theorem susp_lens (hO : OkD ps) {b n : Nat} {g : List Int} (hb : b < ps.length) (hn : (n : Int) ∈ suspP ps b g) : (suspP ps n g).length + (suspP ps b (g ++ [(n : Int)])).length = (suspP ps b g).length := by
  rw [susp_yes hO hb hn, susp_no]
  exact parts_len _ _

/-- No pick is worse. -/
theorem pickTo_max (ps : List Pt) (S : List Int) (bad : Int) (n : Nat) : ∀ l : List Int, l.length = n → ∀ x ∈ l, x ≠ bad → halfI S (Bk ps x.toNat) ≤ (pickTo ps S bad l).1 := by
  induction n with
  | zero => intro l h; have := List.eq_nil_of_length_eq_zero h; subst this; intro x hx; cases hx
  | succ n ih =>
    intro l h x hx hne
    have hl : l ≠ [] := fun e => by subst e; simp at h
    obtain ⟨l', y, rfl⟩ : ∃ l' x, l = l' ++ [x] := ⟨l.dropLast, l.getLast hl, (List.dropLast_concat_getLast hl).symm⟩
    rw [pickTo_snoc]
    have h1 := ih l' (by simpa using h)
    unfold pickStep
    rcases List.mem_append.1 hx with h2 | h2
    · have := h1 x h2 hne
      split
      · next hh => dsimp only; omega
      · exact this
    · obtain rfl := List.mem_singleton.1 h2
      split
      · exact Int.le_refl _
      · next hh =>
        rcases Int.lt_or_le (pickTo ps S bad l').1 (halfI S (Bk ps x.toNat)) with h3 | h3
        · exact absurd ⟨hne, h3⟩ hh
        · exact h3
/-- The one that is picked: a suspect, and none is worth more. -/
theorem pick_law {b : Nat} {g : List Int} (h : 0 ≤ pickM ps b g) :
    ∃ n : Nat, pickM ps b g = (n : Int) ∧ n < ps.length ∧ n ≠ b ∧ (n : Int) ∈ suspP ps b g ∧ ∀ x : Nat, (x : Int) ∈ suspP ps b g → x ≠ b → halfI (suspP ps b g) (Bk ps x) ≤ halfI (suspP ps b g) (Bk ps n) := by
  have hm : pickM ps b g = pickP ps (suspP ps b g) b := by unfold pickM; rw [Int.toNat_natCast]
  rw [hm] at h ⊢
  obtain ⟨n, hn⟩ := Int.eq_ofNat_of_zero_le h
  have h1 := pickP_mem h
  rw [hn] at h1 ⊢
  have h2 := suspP_mem h1.1
  refine ⟨n, rfl, by omega, fun e => h1.2 (by omega), h1.1, fun x hx hxb => ?_⟩
  have h3 := pickTo_max ps (suspP ps b g) b _ _ rfl (x : Int) hx (by omega)
  rw [Int.toNat_natCast] at h3
  unfold pickP at hn
  rcases pickTo_spec ps (suspP ps b g) b _ (suspP ps b g) rfl with ⟨-, h4⟩ | ⟨-, -, h4⟩
  · rw [h4] at hn; omega
  · rw [h4, hn, Int.toNat_natCast] at h3; exact h3
/-- None is picked: there is but one suspect. -/
theorem pick_none (hO : OkD ps) {b : Nat} {g : List Int} (hb : b < ps.length) (h : pickM ps b g < 0) {x : Int} (hx : x ∈ suspP ps b g) : x = b := by
  have hm : pickM ps b g = pickP ps (suspP ps b g) b := by unfold pickM; rw [Int.toNat_natCast]
  rw [hm] at h
  rcases Classical.em (x = b) with e | e
  · exact e
  · have hxr := suspP_mem hx
    obtain ⟨k, rfl⟩ := Int.eq_ofNat_of_zero_le hxr.1
    have h3 := pickTo_max ps (suspP ps b g) b _ _ rfl (k : Int) hx e
    rw [Int.toNat_natCast] at h3
    have hp := partN_eq hO hb hx
    have hl := susp_lens hO hb hx
    have h4 : 0 ≤ halfI (suspP ps b g) (Bk ps k) := by unfold halfI; rw [hp]; omega
    rcases pickTo_spec ps (suspP ps b g) b _ (suspP ps b g) rfl with ⟨h5, -⟩ | ⟨h5, -, -⟩
    · omega
    · have := suspP_mem h5
      unfold pickP at h; omega
/-- The bad one stays a suspect. -/
theorem bad_stays (hO : OkD ps) {b n : Nat} {g : List Int} (hb : b < ps.length) (hn : (n : Int) ∈ suspP ps b g) (hnb : n ≠ b) : (b : Int) ∉ Bk ps n := by
  have h1 := Bk_le hO hb (mem_susp.1 hn).1
  intro h2
  have h3 := Bk_le hO (by omega) h2
  omega
theorem lens_lt (hO : OkD ps) {b n : Nat} {g : List Int} (hb : b < ps.length) (hbs : (b : Int) ∈ suspP ps b g) (hn : (n : Int) ∈ suspP ps b g) (hnb : n ≠ b) :
    (suspP ps n g).length < (suspP ps b g).length ∧ (suspP ps b (g ++ [(n : Int)])).length < (suspP ps b g).length ∧ (n : Int) ∈ suspP ps n g ∧ (b : Int) ∈ suspP ps b (g ++ [(n : Int)]) := by
  have hnl : n < ps.length := by have := suspP_mem hn; omega
  have h1 : (n : Int) ∈ suspP ps n g := by rw [susp_yes hO hb hn, List.mem_filter]; exact ⟨hn, decide_eq_true (Bk_self hO hnl)⟩
  have h2 : (b : Int) ∈ suspP ps b (g ++ [(n : Int)]) := by rw [susp_no, List.mem_filter]; exact ⟨hbs, by rw [decide_eq_false (bad_stays hO hb hn hnb)]; rfl⟩
  have h3 := susp_lens hO hb hn
  have h4 := List.length_pos_of_mem h1
  have h5 := List.length_pos_of_mem h2
  exact ⟨by omega, by omega, h1, h2⟩
end
end Go.Proofs.Ytoillodfabdeeaa
