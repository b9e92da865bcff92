/-
  Stores of versions: the laws of Set, Drop and Shared, in plain words.
-/
import Derived.Test.YtcnppcddpcpeoaaSetP
import Derived.Test.YtcnppcddpcpeoaaShared
namespace Go.Proofs.Ytcnppcddpcpeoaa

theorem cnt_ge {l : List (List Int)} {r : List Int} (h : r ∈ l) (p : Nat) : r.count (p : Int) ≤ cnt l p := by
  induction l with
  | nil => cases h
  | cons x l ih =>
    have h' : cnt (x :: l) p = x.count (p : Int) + cnt l p := rfl
    rcases List.mem_cons.1 h with rfl | h
    · omega
    · have := ih h; omega
theorem count_set_le (r : List Int) (k : Nat) (x a : Int) (h : x ≠ a) : (r.set k x).count a ≤ r.count a := by
  induction r generalizing k with
  | nil => simp
  | cons y r ih =>
    cases k with
    | zero => simp only [List.set_cons_zero, List.count_cons]; have h2 : (x == a) = false := by simpa using h
              rw [h2]; simp
    | succ k => simp only [List.set_cons_succ, List.count_cons]; have := ih k; omega
theorem count_set_self (r : List Int) (k : Nat) (x : Int) (h : k < r.length) : 1 ≤ (r.set k x).count x := by
  have : x ∈ r.set k x := List.mem_iff_getElem.2 ⟨k, by simpa using h, by simp⟩
  exact List.one_le_count_iff.2 this
/-- What is true of the new version's page. -/
structure MidOk (s : DsC) (q a : Nat) (v : Int) (m : Mid) : Prop where
  ul : m.uses.length = m.pages.length
  lo : s.pages.length ≤ m.pages.length
  hi : m.pages.length ≤ s.pages.length + 1
  us : ∀ i, i < m.pages.length → m.uses.getD i 0 = (cnt s.roots i : Int)
  rl : m.r.length = 16
  ro : ∀ p ∈ m.r, p = -1 ∨ (0 ≤ p ∧ p < m.pages.length)
  zero : ∀ i, i < m.pages.length → (m.pages.getD i default = Pg.zero ↔ cnt s.roots i + m.r.count (i : Int) = 0)
  old : ∀ i, i < s.pages.length → cnt s.roots i ≠ 0 → m.pages.getD i default = s.pages.getD i default
  keep : ∀ k, k ≠ a / 4 → m.r.getD k (-1) = (s.roots.getD q []).getD k (-1)
  val : (if 0 ≤ m.r.getD (a / 4) (-1) then m.pages.getD (m.r.getD (a / 4) (-1)).toNat default else Pg.zero) = (pageOf s ((s.roots.getD q []).getD (a / 4) (-1))).set v (a % 4)
  free : ∀ i, s.pages.length ≤ i → i < m.pages.length → cnt s.roots i = 0
theorem cnt_out {s : DsC} (h : Ok s) {i : Nat} (hi : s.pages.length ≤ i) : cnt s.roots i = 0 := by
  have : ∀ l : List (List Int), (∀ r ∈ l, rootOk s.pages.length r) → cnt l i = 0 := by
    intro l
    induction l with
    | nil => intro _; rfl
    | cons r l ih =>
      intro hr
      have h1 := ih fun r hm => hr r (by simp [hm])
      have h2 : r.count (i : Int) = 0 := List.count_eq_zero.2 fun hm => by
        have := (hr r (by simp)).2 _ hm
        omega
      have h' : cnt (r :: l) i = r.count (i : Int) + cnt l i := rfl
      omega
  exact this _ h.form
theorem Pg.set_get (p : Pg) (v : Int) (j : Nat) (h : p.get j = v) : p.set v j = p := by
  obtain ⟨a, b, c, d⟩ := p
  match j with
  | 0 | 1 | 2 => subst h; rfl
  | _ + 3 => subst h; rfl
theorem mid_ok {s : DsC} (ho : Ok s) {q a : Nat} (hq : q < s.roots.length) (h16 : (s.roots.getD q []).length = 16) (ha : a < 64) (v : Int) : MidOk s q a v (midC s q a v) := by
  have hmem : s.roots.getD q [] ∈ s.roots := by rw [List.getD_eq_getElem?_getD, List.getElem?_eq_getElem hq]; exact List.getElem_mem hq
  have hro := (ho.form _ hmem).2
  have hus : s.uses.length = s.pages.length := by rw [ho.uses]; simp
  have hug : ∀ i, i < s.pages.length → s.uses.getD i 0 = (cnt s.roots i : Int) := fun i hi => by rw [ho.uses, range_map_get _ _ _ hi]
  have hge := fun i => cnt_ge hmem i
  have ha4 : a / 4 < 16 := by omega
  unfold midC
  generalize hr : s.roots.getD q [] = r at *
  dsimp only
  generalize hp : pageOf s (r.getD (a / 4) (-1)) = p at *
  split
  · next hv =>
    refine ⟨hus, Nat.le_refl _, Nat.le_succ _, hug, h16, hro, fun i hi => ?_, fun _ _ _ => rfl, fun _ _ => by rw [hr], ?_, fun i h1 h2 => by dsimp only at h1 h2; omega⟩
    · have h1 := ho.zero i hi
      have h2 := hge i
      dsimp only
      rw [h1]; omega
    · dsimp only
      rw [hr, hp, Pg.set_get p v _ hv]
      exact hp
  · next hv =>
    unfold freshC
    split
    · next hz =>
      refine ⟨hus, Nat.le_refl _, Nat.le_succ _, hug, by simp [h16], fun x hx => ?_, fun i hi => ?_, fun _ _ _ => rfl, fun k hk => ?_, ?_, fun i h1 h2 => by dsimp only at h1 h2; omega⟩
      · rcases List.mem_or_eq_of_mem_set hx with h | rfl
        · exact hro x h
        · exact .inl rfl
      · have h1 := ho.zero i hi
        have h2 := hge i
        have h3 := count_set_le r (a / 4) (-1) (i : Int) (by omega)
        dsimp only
        rw [h1]; omega
      · dsimp only
        rw [hr]
        simp only [List.getD_eq_getElem?_getD, List.getElem?_set, if_neg (Ne.symm hk)]
      · dsimp only
        rw [hr, hp, hz]
        simp [h16, ha4]
    · next hz =>
      dsimp only
      split
      · next hn =>
        have hp0 : s.uses.getD (s.uses.findIdx (· == 0)) 0 = 0 := by
          have := List.findIdx_getElem (w := hn)
          rw [List.getD_eq_getElem?_getD, List.getElem?_eq_getElem hn]
          simpa using this
        generalize s.uses.findIdx (· == 0) = n at *
        have hnp : n < s.pages.length := by omega
        have hc0 : cnt s.roots n = 0 := by have := hug n hnp; omega
        refine ⟨by simp [hus], by simp, by simp, fun i hi => hug i (by simpa using hi), by simp [h16], fun x hx => ?_, fun i hi => ?_, fun i hi hc => ?_, fun k hk => ?_, ?_, fun i h1 h2 => by simp at h2; omega⟩
        · rcases List.mem_or_eq_of_mem_set hx with h | rfl
          · simpa using hro x h
          · exact .inr (by simp; omega)
        · have hi' : i < s.pages.length := by simpa using hi
          by_cases e : n = i
          · subst e
            have h4 := count_set_self r (a / 4) (n : Int) (by omega)
            simp only [List.getD_eq_getElem?_getD, List.getElem?_set_self hnp, Option.getD_some]
            constructor
            · intro h; exact absurd h hz
            · intro h; omega
          · have h1 := ho.zero i hi'
            have h2 := hge i
            have h3 := count_set_le r (a / 4) (n : Int) (i : Int) (by omega)
            simp only [List.getD_eq_getElem?_getD, List.getElem?_set, if_neg e] at h1 ⊢
            rw [h1]; omega
        · have e : ¬ n = i := fun e => by subst e; exact hc hc0
          simp only [List.getD_eq_getElem?_getD, List.getElem?_set, if_neg e]
        · dsimp only
          rw [hr]
          simp only [List.getD_eq_getElem?_getD, List.getElem?_set, if_neg (Ne.symm hk)]
        · dsimp only
          rw [hr, hp]
          have e1 : (r.set (a / 4) (n : Int)).getD (a / 4) (-1) = n := by simp [h16, ha4]
          rw [e1, if_pos (by omega), Int.toNat_natCast]
          simp [hnp]
      · next hn =>
        have hl : (s.pages ++ [p.set v (a % 4)]).length = s.pages.length + 1 := by simp
        refine ⟨by simp [hus], by simp, by simp, fun i hi => ?_, by simp [h16], fun x hx => ?_, fun i hi => ?_, fun i hi hc => ?_, fun k hk => ?_, ?_, fun i h1 h2 => cnt_out ho h1⟩
        · dsimp only at hi ⊢
          rw [hl] at hi
          by_cases h : i < s.uses.length
          · rw [List.getD_eq_getElem?_getD, List.getElem?_append_left h, ← List.getD_eq_getElem?_getD]; exact hug i (by omega)
          · rw [List.getD_eq_getElem?_getD, List.getElem?_append_right (by omega), show i - s.uses.length = 0 by omega, cnt_out ho (show s.pages.length ≤ i by omega)]; rfl
        · dsimp only
          rw [hl]
          rcases List.mem_or_eq_of_mem_set hx with h | h
          · have := hro x h; omega
          · exact .inr (by rw [h]; dsimp only; omega)
        · dsimp only at hi ⊢
          rw [hl] at hi
          by_cases e : s.pages.length = i
          · subst e
            have h4 := count_set_self r (a / 4) (s.pages.length : Int) (by omega)
            rw [List.getD_eq_getElem?_getD, List.getElem?_append_right (Nat.le_refl _), Nat.sub_self]
            constructor
            · intro h; exact absurd h hz
            · intro h; omega
          · have hi' : i < s.pages.length := by omega
            have h1 := ho.zero i hi'
            have h2 := hge i
            have h3 := count_set_le r (a / 4) (s.pages.length : Int) (i : Int) (by omega)
            rw [List.getD_eq_getElem?_getD, List.getElem?_append_left hi', ← List.getD_eq_getElem?_getD, h1]; omega
        · dsimp only
          rw [List.getD_eq_getElem?_getD, List.getElem?_append_left hi, ← List.getD_eq_getElem?_getD]
        · dsimp only
          rw [hr]
          simp only [List.getD_eq_getElem?_getD, List.getElem?_set, if_neg (Ne.symm hk)]
        · dsimp only
          rw [hr, hp]
          have e1 : (r.set (a / 4) (s.pages.length : Int)).getD (a / 4) (-1) = s.pages.length := by simp [h16, ha4]
          rw [e1, if_pos (by omega), Int.toNat_natCast]
          simp
end Go.Proofs.Ytcnppcddpcpeoaa
