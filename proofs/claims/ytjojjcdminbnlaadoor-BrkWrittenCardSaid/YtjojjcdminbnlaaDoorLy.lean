/-
  Conditions: what is parsed.
-/
import Derived.Test.YtjojjcdminbnlaaDoorLx
namespace Go.Proofs.YtjojjcdminbnlaaDoor

theorem parse_ok {text : List UInt8} {x : Ex} (h : parseM text = (x, 0)) : x.ok ∧ (x.wr 0).length ≤ text.length ∧ text.length ≤ 200 ∧ x.deepI ≤ 20 ∧ ∃ t, Rd (.bin 0) text x t ∧ trimM t = [] := by
  unfold parseM at h
  split at h
  · cases h
  · next hl =>
    obtain ⟨y, s, b, h1, -⟩ := rd_total (12 * text.length + 12) (.bin 0) text false (Nat.zero_le _) (by simp only [Md.cost]; omega)
    rw [h1] at h
    dsimp only at h
    split at h
    · cases h
    · next hb =>
      split at h
      · cases h
      · next hd =>
        cases h
        simp only [Bool.or_eq_true, Bool.not_eq_true', not_or, Bool.not_eq_true, Bool.not_eq_false, List.isEmpty_iff] at hb
        obtain ⟨rfl, ht⟩ := hb
        have hR := rd_of _ _ _ _ _ h1
        have := hR.len (Nat.zero_le _)
        simp only [Md.lv, Md.lenIn] at this
        exact ⟨hR.ok trivial, by omega, by omega, by omega, s, hR, ht⟩
theorem parse_of {text t : List UInt8} {x : Ex} (h : Rd (.bin 0) text x t) (ht : trimM t = []) (hl : text.length ≤ 200) (hd : x.deepI ≤ 20) : parseM text = (x, 0) := by
  unfold parseM
  rw [if_neg (by omega)]
  obtain ⟨y, s, b, h1, -⟩ := rd_total (12 * text.length + 12) (.bin 0) text false (Nat.zero_le _) (by simp only [Md.cost]; omega)
  have := Ev.det ⟨_, h1⟩ h.ev
  cases this
  rw [h1]
  dsimp only
  rw [ht, if_neg (by decide), if_neg (by omega)]
/-- Written anew it is parsed as it was. -/
theorem parse_wr {text : List UInt8} {x : Ex} (h : parseM text = (x, 0)) : parseM (x.wr 0) = (x, 0) := by
  obtain ⟨hok, hl, h200, hd, -⟩ := parse_ok h
  have := (rd_wr x hok).1 0 [] (by decide) trivial
  rw [List.append_nil] at this
  exact parse_of this rfl (by omega) hd
theorem parse_bad {text : List UInt8} (h : (parseM text).2 ≠ 0) : (parseM text).1 = .bad := by
  unfold parseM at h ⊢
  repeat' split
  all_goals first | rfl | skip
  all_goals simp_all
theorem parse_code (text : List UInt8) : (parseM text).2 = 0 ∨ (parseM text).2 = 2 ∨ (parseM text).2 = 4 := by
  unfold parseM
  repeat' split
  all_goals simp
/-! Over states -/
def scanM (x : Ex) (l : List (List (List UInt8 × Int))) (by_ : Int) : Nat → Int → Int × Bool × Int
  | 0, _ => (0, false, 0)
  | f + 1, i => if h : 0 ≤ i ∧ i.toNat < l.length then
      let r := x.val fun n => lookM n l[i.toNat]
      if r.2 then if r.1 ≠ 0 then (i, true, 0) else scanM x l by_ f (i + by_) else (0, false, 5)
    else (0, false, 0)
def firstM (text : List UInt8) (l : List (List (List UInt8 × Int))) (start : Int) (back : Bool) : Int × Bool × Int :=
  if (parseM text).2 ≠ 0 then (0, false, (parseM text).2) else
  if 200 < l.length then (0, false, 2) else
  if start < 0 ∨ (l.length : Int) ≤ start then (0, false, 1) else
  scanM (parseM text).1 l (if back then -1 else 1) (l.length + 1) start
/-- It was asked there, and does not hold. -/
def NoAt (x : Ex) (l : List (List (List UInt8 × Int))) (i : Nat) : Prop := ∀ h : i < l.length, x.val (fun n => lookM n l[i]) = (0, true)
theorem scan_fwd (x : Ex) (l : List (List (List UInt8 × Int))) : ∀ (f i : Nat) (a : Int) (is : Bool) (e : Int), l.length - i < f → scanM x l 1 f i = (a, is, e) →
    (e = 0 ∨ e = 5 ∧ is = false) ∧ (e = 0 → is = false → ∀ j, i ≤ j → NoAt x l j) ∧ (is = true → (i : Int) ≤ a ∧ (a : Int) < l.length ∧ (∀ j : Nat, i ≤ j → (j : Int) < a → NoAt x l j) ∧ ∀ h : a.toNat < l.length, (x.val fun n => lookM n l[a.toNat]).1 ≠ 0) := by
  intro f
  induction f with
  | zero => intro i a is e h; omega
  | succ f ih =>
    intro i a is e hf h
    rw [scanM] at h
    split at h
    · next hi =>
      have hi2 : i < l.length := by simpa using hi.2
      have e0 : (x.val fun n => lookM n l[(i : Int).toNat]) = x.val fun n => lookM n l[i] := rfl
      rw [e0] at h
      dsimp only at h
      generalize hv : (x.val fun n => lookM n l[i]) = r at h
      obtain ⟨n, ok⟩ := r
      dsimp only at h
      split at h
      · next hok =>
        subst hok
        split at h
        · next hn =>
          cases h
          refine ⟨.inl rfl, fun _ h => (by cases h), fun _ => ⟨Int.le_refl _, by omega, fun j h1 h2 => by omega, fun h => ?_⟩⟩
          rw [e0, hv]; exact hn
        · next hn =>
          have hn : n = 0 := by omega
          subst hn
          have hno : NoAt x l i := fun _ => hv
          obtain ⟨h1, h2, h3⟩ := ih (i + 1) a is e (by omega) (by rw [← h]; rfl)
          refine ⟨h1, fun he his j hj => ?_, fun his => ?_⟩
          · by_cases hji : j = i
            · subst hji; exact hno
            · exact h2 he his j (by omega)
          · obtain ⟨h4, h5, h6, h7⟩ := h3 his
            refine ⟨by omega, h5, fun j hj hja => ?_, h7⟩
            by_cases hji : j = i
            · subst hji; exact hno
            · exact h6 j (by omega) hja
      · next hok =>
        cases h
        exact ⟨.inr ⟨rfl, rfl⟩, fun h => absurd h (by decide), fun h => by cases h⟩
    · next hi =>
      cases h
      refine ⟨.inl rfl, fun _ _ j hj hjl => ?_, fun h => by cases h⟩
      exact absurd ⟨by omega, by simp; omega⟩ hi
theorem scan_bwd (x : Ex) (l : List (List (List UInt8 × Int))) : ∀ (f : Nat) (i : Int) (a : Int) (is : Bool) (e : Int), i + 1 < f → i < l.length → scanM x l (-1) f i = (a, is, e) →
    (e = 0 ∨ e = 5 ∧ is = false) ∧ (e = 0 → is = false → ∀ j : Nat, (j : Int) ≤ i → NoAt x l j) ∧ (is = true → a ≤ i ∧ 0 ≤ a ∧ (∀ j : Nat, a < (j : Int) → (j : Int) ≤ i → NoAt x l j) ∧ ∀ h : a.toNat < l.length, (x.val fun n => lookM n l[a.toNat]).1 ≠ 0) := by
  intro f
  induction f with
  | zero => intro i a is e h hl h2; cases h2; exact ⟨.inl rfl, fun _ _ j hj => by omega, fun h => by cases h⟩
  | succ f ih =>
    intro i a is e hf hl h
    rw [scanM] at h
    split at h
    · next hi =>
      dsimp only at h
      generalize hv : (x.val fun n => lookM n l[i.toNat]) = r at h
      obtain ⟨n, ok⟩ := r
      dsimp only at h
      split at h
      · next hok =>
        subst hok
        split at h
        · next hn =>
          cases h
          refine ⟨.inl rfl, fun _ h => (by cases h), fun _ => ⟨Int.le_refl _, hi.1, fun j h1 h2 => by omega, fun h => ?_⟩⟩
          rw [hv]; exact hn
        · next hn =>
          have hn : n = 0 := by omega
          subst hn
          have hno : NoAt x l i.toNat := fun _ => hv
          obtain ⟨h1, h2, h3⟩ := ih (i + -1) a is e (by omega) (by omega) h
          refine ⟨h1, fun he his j hj => ?_, fun his => ?_⟩
          · by_cases hji : j = i.toNat
            · subst hji; exact hno
            · exact h2 he his j (by omega)
          · obtain ⟨h4, h5, h6, h7⟩ := h3 his
            refine ⟨by omega, h5, fun j hj hja => ?_, h7⟩
            by_cases hji : j = i.toNat
            · subst hji; exact hno
            · exact h6 j hj (by omega)
      · next hok =>
        cases h
        exact ⟨.inr ⟨rfl, rfl⟩, fun h => absurd h (by decide), fun h => by cases h⟩
    · next hi =>
      cases h
      refine ⟨.inl rfl, fun _ _ j hj hjl => ?_, fun h => by cases h⟩
      exact absurd ⟨by omega, by omega⟩ hi
/-! Values -/
def binOk (x : Int × Bool) : Prop := x.2 = false → x.1 = 0
end Go.Proofs.YtjojjcdminbnlaaDoor
