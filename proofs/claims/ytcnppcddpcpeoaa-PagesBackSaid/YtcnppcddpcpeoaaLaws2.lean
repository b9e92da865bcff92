/-
  What Set does to a store, in plain words.
-/
import Derived.Test.YtcnppcddpcpeoaaLaws
namespace Go.Proofs.Ytcnppcddpcpeoaa

theorem putRoot_cnt (l : List (List Int)) (r : List Int) (p : Nat) : cnt (putRoot l r) p = cnt l p + r.count (p : Int) := by
  unfold putRoot
  split
  · next h =>
    have h1 := cnt_set l (freeRoot l) r p h
    have h2 : l.getD (freeRoot l) [] = [] := by
      have h3 : (l[freeRoot l]'h).isEmpty = true := List.findIdx_getElem (w := h)
      rw [List.getD_eq_getElem?_getD, List.getElem?_eq_getElem h]
      exact List.isEmpty_iff.1 h3
    rw [h2] at h1
    simpa using h1
  · exact cnt_append l r p
theorem putRoot_mem {l : List (List Int)} {r x : List Int} (h : x ∈ putRoot l r) : x ∈ l ∨ x = r := by
  unfold putRoot at h
  split at h
  · exact List.mem_or_eq_of_mem_set h
  · simpa using h
theorem putRoot_new (l : List (List Int)) (r : List Int) : freeRoot l < (putRoot l r).length ∧ (putRoot l r).getD (freeRoot l) [] = r ∧ freeRoot l ≤ l.length := by
  have hle : freeRoot l ≤ l.length := List.findIdx_le_length
  unfold putRoot
  split
  · next h => exact ⟨by simpa using h, by simp [h], hle⟩
  · next h =>
    have e : freeRoot l = l.length := by omega
    rw [e]; simp
theorem putRoot_old {l : List (List Int)} (r : List Int) {p : Nat} (hp : p < l.length) (hn : l.getD p [] ≠ []) : p ≠ freeRoot l ∧ p < (putRoot l r).length ∧ (putRoot l r).getD p [] = l.getD p [] := by
  have hne : p ≠ freeRoot l := fun e => by
    subst e
    have h3 : (l[freeRoot l]'hp).isEmpty = true := List.findIdx_getElem (w := hp)
    apply hn
    rw [List.getD_eq_getElem?_getD, List.getElem?_eq_getElem hp]
    exact List.isEmpty_iff.1 h3
  refine ⟨hne, ?_, ?_⟩
  · unfold putRoot; split <;> simp <;> omega
  · unfold putRoot
    split
    · simp only [List.getD_eq_getElem?_getD, List.getElem?_set, if_neg (Ne.symm hne)]
    · rw [List.getD_eq_getElem?_getD, List.getElem?_append_left hp, ← List.getD_eq_getElem?_getD]
/-- What is true of the store that Set answers. -/
structure SetOk (s t : DsC) (q a : Nat) (v : Int) : Prop where
  ok : Ok t
  nlt : freeRoot s.roots < t.roots.length
  n16 : (t.roots.getD (freeRoot s.roots) []).length = 16
  keep : ∀ k, k ≠ a / 4 → (t.roots.getD (freeRoot s.roots) []).getD k (-1) = (s.roots.getD q []).getD k (-1)
  val : pageOf t ((t.roots.getD (freeRoot s.roots) []).getD (a / 4) (-1)) = (pageOf s ((s.roots.getD q []).getD (a / 4) (-1))).set v (a % 4)
  page : ∀ p : Int, (∃ r ∈ s.roots, p ∈ r) → pageOf t p = pageOf s p
  other : ∀ p : Nat, p < s.roots.length → s.roots.getD p [] ≠ [] → p ≠ freeRoot s.roots ∧ p < t.roots.length ∧ t.roots.getD p [] = s.roots.getD p []
theorem set_ok {s : DsC} (ho : Ok s) {q a : Nat} (hq : q < s.roots.length) (h16 : (s.roots.getD q []).length = 16) (ha : a < 64) (v : Int) (h1 : (setC s q a v).pages.length ≤ 400) (h2 : (setC s q a v).roots.length ≤ 40) : SetOk s (setC s q a v) q a v := by
  have hm := mid_ok ho hq h16 ha v
  unfold setC at h1 h2 ⊢
  dsimp only at h1 h2 ⊢
  generalize midC s q a v = m at *
  have hcu := fun i (hi : i < m.pages.length) => countUp_get m.r m.uses i (by rw [hm.ul]; exact hm.ro) (by rw [hm.ul]; exact hi)
  have hok : Ok ⟨m.pages, countUp m.uses m.r, putRoot s.roots m.r⟩ := by
    refine ⟨h1, h2, fun r hr => ?_, ?_, fun i hi => ?_⟩
    · rcases putRoot_mem hr with h | rfl
      · have h3 := ho.form r h
        refine ⟨h3.1, fun p hp => ?_⟩
        have h4 := h3.2 p hp
        have h5 := hm.lo
        dsimp only
        omega
      · exact ⟨.inr hm.rl, hm.ro⟩
    · refine list_eq_range (by dsimp only; rw [countUp_length, hm.ul]) fun i hi => ?_
      dsimp only at hi ⊢
      rw [(hcu i hi).2, hm.us i hi, putRoot_cnt]
      push_cast; rfl
    · dsimp only at hi ⊢
      rw [putRoot_cnt]; exact hm.zero i hi
  obtain ⟨hn1, hn2, hn3⟩ := putRoot_new s.roots m.r
  refine ⟨hok, hn1, by dsimp only; rw [hn2]; exact hm.rl, fun k hk => by dsimp only; rw [hn2]; exact hm.keep k hk, ?_, fun p hp => ?_, fun p hp hne => putRoot_old m.r hp hne⟩
  · dsimp only
    rw [hn2]
    exact hm.val
  · obtain ⟨r, hr, hpr⟩ := hp
    unfold pageOf
    dsimp only
    split
    · next h0 =>
      have h3 := (ho.form r hr).2 p hpr
      have hlt : p.toNat < s.pages.length := by omega
      refine hm.old _ hlt fun hc => ?_
      exact cnt_zero hc r hr (by rw [show ((p.toNat : Nat) : Int) = p by omega]; exact hpr)
    · rfl
theorem asked_there {s : DsC} {r w : Int} (ho : Ok s) (ht : There s r) : askedC s r w = if w < 0 ∨ 64 ≤ w then 1 else 0 := by
  unfold askedC
  rw [if_neg (by simpa using thereL_zero.2 ⟨ho, by simpa using ht⟩)]
theorem asked_inv {s : DsC} {r w : Int} (h : askedC s r w = 0) : Ok s ∧ There s r := by
  obtain ⟨h1, h2, -⟩ := askedC_zero.1 h
  exact ⟨h1, h2⟩
theorem there_of {s : DsC} {n : Nat} (h1 : n < s.roots.length) (h2 : (s.roots.getD n []).length = 16) : There s (n : Int) := by
  refine ⟨by omega, by omega, ?_⟩
  rw [Int.toNat_natCast]
  intro e; rw [e] at h2; simp at h2
/-- The test that Set asks at its end. -/
theorem setR_zero {s : DsC} {root at_ v : Int} (h : setR s root at_ v = 0) : askedC s root at_ = 0 ∧ (setC s root.toNat at_.toNat v).pages.length ≤ 400 ∧ (setC s root.toNat at_.toNat v).roots.length ≤ 40 := by
  unfold setR at h
  split at h
  · next h1 => exact absurd h h1
  · next h1 =>
    split at h
    · cases h
    · next h2 => exact ⟨by simpa using h1, by omega, by omega⟩
theorem setR_facts {s : DsC} {root at_ v : Int} (h : setR s root at_ v = 0) : ∃ q a : Nat, root = q ∧ at_ = a ∧ a < 64 ∧ q < s.roots.length ∧ (s.roots.getD q []).length = 16 ∧ Ok s ∧ SetOk s (setC s root.toNat at_.toNat v) q a v := by
  obtain ⟨h1, h2, h3⟩ := setR_zero h
  obtain ⟨hok, ht⟩ := asked_inv h1
  obtain ⟨q, a, rfl, rfl, ha, hq, h16, -⟩ := getC_ h1
  rw [Int.toNat_natCast, Int.toNat_natCast] at h2 h3 ⊢
  exact ⟨q, a, rfl, rfl, ha, hq, h16, hok, set_ok hok hq h16 ha v h2 h3⟩
end Go.Proofs.Ytcnppcddpcpeoaa
