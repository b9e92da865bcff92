/-
  Conditions: laws of the reader.
-/
import Derived.Test.YtjojjcdminbnlaaDoorMo
namespace Go.Proofs.YtjojjcdminbnlaaDoor

theorem mem_tw {p : UInt8 → Bool} {x : UInt8} : ∀ {l : List UInt8}, x ∈ l.takeWhile p → p x = true
  | [], h => by simp at h
  | y :: l, h => by
    rw [List.takeWhile_cons] at h
    cases hy : p y with
    | false => rw [hy] at h; simp at h
    | true =>
      rw [hy] at h
      rcases List.mem_cons.1 h with rfl | h
      · exact hy
      · exact mem_tw h
theorem rd_succ : ∀ (f : Nat) (m : Md) (s : List UInt8) (b : Bool) (r : Ex × List UInt8 × Bool), rd f m s b = some r → rd (f + 1) m s b = some r := by
  intro f
  induction f with
  | zero => intro m s b r h; cases h
  | succ f ih =>
    intro m s b r h
    cases m with
    | bin k =>
      rw [rd] at h ⊢
      split
      · next e => rw [if_pos e] at h; exact ih _ _ _ _ h
      · next e =>
        rw [if_neg e] at h
        obtain ⟨r1, h1, h2⟩ := Option.bind_eq_some_iff.1 h
        rw [ih _ _ _ _ h1, Option.bind_some]
        exact ih _ _ _ _ h2
    | loop k x =>
      rw [rd] at h ⊢
      split
      · next e => rw [if_pos e] at h; exact h
      · next e =>
        rw [if_neg e] at h
        obtain ⟨r1, h1, h2⟩ := Option.bind_eq_some_iff.1 h
        rw [ih _ _ _ _ h1, Option.bind_some]
        split
        · next e2 => rw [if_pos e2] at h2; exact h2
        · next e2 => rw [if_neg e2] at h2; exact ih _ _ _ _ h2
    | un =>
      rw [rd] at h ⊢
      split
      · next e =>
        rw [if_pos e] at h
        obtain ⟨r1, h1, h2⟩ := Option.bind_eq_some_iff.1 h
        rw [ih _ _ _ _ h1, Option.bind_some]; exact h2
      · next e =>
        rw [if_neg e] at h
        split
        · next e2 =>
          rw [if_pos e2] at h
          obtain ⟨r1, h1, h2⟩ := Option.bind_eq_some_iff.1 h
          rw [ih _ _ _ _ h1, Option.bind_some]; exact h2
        · next e2 =>
          rw [if_neg e2] at h
          split
          · next e3 => rw [if_pos e3] at h; exact h
          · next e3 =>
            rw [if_neg e3] at h
            obtain ⟨r1, h1, h2⟩ := Option.bind_eq_some_iff.1 h
            rw [ih _ _ _ _ h1, Option.bind_some]; exact h2
theorem rd_mono {f f' : Nat} (hf : f ≤ f') {m : Md} {s : List UInt8} {b : Bool} {r : Ex × List UInt8 × Bool} (h : rd f m s b = some r) : rd f' m s b = some r := by
  induction hf with
  | refl => exact h
  | step _ ih => exact rd_succ _ _ _ _ _ ih
/-- With some fuel. -/
def Ev (m : Md) (s : List UInt8) (b : Bool) (r : Ex × List UInt8 × Bool) : Prop := ∃ f, rd f m s b = some r
theorem Ev.det {m : Md} {s : List UInt8} {b : Bool} {r r' : Ex × List UInt8 × Bool} (h : Ev m s b r) (h' : Ev m s b r') : r = r' := by
  obtain ⟨f, h⟩ := h
  obtain ⟨f', h'⟩ := h'
  have h1 := rd_mono (Nat.le_max_left f f') h
  have h2 := rd_mono (Nat.le_max_right f f') h'
  rw [h1] at h2
  exact Option.some.inj h2
theorem Ev.five {s : List UInt8} {b : Bool} {r : Ex × List UInt8 × Bool} (h : Ev .un s b r) : Ev (.bin 5) s b r := by
  obtain ⟨f, h⟩ := h
  exact ⟨f + 1, by rw [rd, if_pos rfl]; exact h⟩
theorem Ev.bin {k : Nat} {s : List UInt8} {b : Bool} {r r' : Ex × List UInt8 × Bool} (hk : k ≠ 5) (h : Ev (.bin (k + 1)) s b r) (h' : Ev (.loop k r.1) r.2.1 r.2.2 r') : Ev (.bin k) s b r' := by
  obtain ⟨f, h⟩ := h
  obtain ⟨f', h'⟩ := h'
  exact ⟨max f f' + 1, by rw [rd, if_neg hk, rd_mono (Nat.le_max_left f f') h, Option.bind_some, rd_mono (Nat.le_max_right f f') h']⟩
theorem Ev.stop {k : Nat} {x : Ex} {s : List UInt8} {b : Bool} (h : (signM (ranksM k) s b).1 = 0) : Ev (.loop k x) s b (x, (signM (ranksM k) s b).2, b) := ⟨1, by rw [rd, if_pos h]⟩
theorem Ev.two {x : Ex} {s : List UInt8} {b : Bool} {r : Ex × List UInt8 × Bool} (h : (signM (ranksM 2) s b).1 ≠ 0) (h' : Ev (.bin 3) (signM (ranksM 2) s b).2 b r) : Ev (.loop 2 x) s b (.bin (signM (ranksM 2) s b).1 x r.1, r.2.1, r.2.2) := by
  obtain ⟨f, h'⟩ := h'
  exact ⟨f + 1, by rw [rd, if_neg h, h', Option.bind_some, if_pos rfl]⟩
theorem Ev.more {k : Nat} {x : Ex} {s : List UInt8} {b : Bool} {r r' : Ex × List UInt8 × Bool} (hk : k ≠ 2) (h : (signM (ranksM k) s b).1 ≠ 0) (h' : Ev (.bin (k + 1)) (signM (ranksM k) s b).2 b r)
    (h2 : Ev (.loop k (.bin (signM (ranksM k) s b).1 x r.1)) r.2.1 r.2.2 r') : Ev (.loop k x) s b r' := by
  obtain ⟨f, h'⟩ := h'
  obtain ⟨f', h2⟩ := h2
  exact ⟨max f f' + 1, by rw [rd, if_neg h, rd_mono (Nat.le_max_left f f') h', Option.bind_some, if_neg hk, rd_mono (Nat.le_max_right f f') h2]⟩
theorem Ev.not {s : List UInt8} {b : Bool} {r : Ex × List UInt8 × Bool} (h : (signM [33, 45] s b).1 = 33) (h' : Ev .un (signM [33, 45] s b).2 b r) : Ev .un s b (.un 33 r.1, r.2.1, r.2.2) := by
  obtain ⟨f, h'⟩ := h'
  exact ⟨f + 1, by rw [rd, if_pos h, h', Option.bind_some]⟩
theorem Ev.neg {s : List UInt8} {b : Bool} {r : Ex × List UInt8 × Bool} (h : (signM [33, 45] s b).1 = 45) (h' : Ev .un (signM [33, 45] s b).2 b r) : Ev .un s b (.un 126 r.1, r.2.1, r.2.2) := by
  obtain ⟨f, h'⟩ := h'
  exact ⟨f + 1, by rw [rd, if_neg (by rw [h]; decide), if_pos h, h', Option.bind_some]⟩
/-! The reader comes to an end. -/
theorem sign_some {set s : List UInt8} {b : Bool} (h : (signM set s b).1 ≠ 0) : (signM set s b).2.length < s.length := by
  have hd : (trimM s).length ≤ s.length := (List.dropWhile_sublist _).length_le
  unfold signM at h ⊢
  split at h
  · exact absurd rfl h
  · next c t e =>
    rw [e] at hd
    split at h
    · exact absurd rfl h
    · next e2 =>
      simp only [if_neg e2]
      simp at hd
      omega
theorem sign_le (set s : List UInt8) (b : Bool) : (signM set s b).2.length ≤ s.length := by
  have hd : (trimM s).length ≤ s.length := (List.dropWhile_sublist _).length_le
  unfold signM
  split
  · simp
  · next c t e =>
    rw [e] at hd
    simp at hd
    split <;> simp <;> omega
theorem leaf_le (s : List UInt8) (b : Bool) : (leafM s b).2.1.length ≤ s.length := by
  unfold leafM
  split
  · simp
  · split
    · simp
    · dsimp only
      split <;> simp
def Md.cost (n : Nat) : Md → Nat
  | .bin k => 12 * n + 7 - k
  | .loop _ _ => 12 * n + 1
  | .un => 12 * n + 1
def Md.fine : Md → Prop
  | .bin k => k ≤ 5
  | .loop k _ => k ≤ 4
  | .un => True
theorem rd_total : ∀ (f : Nat) (m : Md) (s : List UInt8) (b : Bool), m.fine → m.cost s.length ≤ f → ∃ x t b', rd f m s b = some (x, t, b') ∧ t.length ≤ s.length := by
  intro f
  induction f with
  | zero => intro m s b hm hc; cases m <;> simp [Md.cost, Md.fine] at hc hm <;> omega
  | succ f ih =>
    intro m s b hm hc
    cases m with
    | bin k =>
      simp only [Md.cost, Md.fine] at hc hm
      by_cases hk : k = 5
      · obtain ⟨x, t, b', h1, h2⟩ := ih .un s b trivial (by simp only [Md.cost]; omega)
        exact ⟨x, t, b', by rw [rd, if_pos hk]; exact h1, h2⟩
      · obtain ⟨x, t, b', h1, h2⟩ := ih (.bin (k + 1)) s b (by simp only [Md.fine]; omega) (by simp only [Md.cost]; omega)
        obtain ⟨y, t2, b2, h3, h4⟩ := ih (.loop k x) t b' (by simp only [Md.fine]; omega) (by simp only [Md.cost]; omega)
        exact ⟨y, t2, b2, by rw [rd, if_neg hk, h1, Option.bind_some]; exact h3, by omega⟩
    | loop k x =>
      simp only [Md.cost, Md.fine] at hc hm
      have hs := sign_le (ranksM k) s b
      by_cases h0 : (signM (ranksM k) s b).1 = 0
      · exact ⟨x, _, b, by rw [rd, if_pos h0], hs⟩
      · have hl := sign_some h0
        obtain ⟨y, t, b', h1, h2⟩ := ih (.bin (k + 1)) (signM (ranksM k) s b).2 b (by simp only [Md.fine]; omega) (by simp only [Md.cost]; omega)
        by_cases hk : k = 2
        · exact ⟨_, t, b', by rw [rd, if_neg h0, h1, Option.bind_some, if_pos hk], by omega⟩
        · obtain ⟨z, t2, b2, h3, h4⟩ := ih (.loop k (.bin (signM (ranksM k) s b).1 x y)) t b' hm (by simp only [Md.cost]; omega)
          exact ⟨z, t2, b2, by rw [rd, if_neg h0, h1, Option.bind_some, if_neg hk]; exact h3, by omega⟩
    | un =>
      simp only [Md.cost] at hc
      have hs := sign_le [33, 45] s b
      by_cases h1 : (signM [33, 45] s b).1 = 33
      · have hl := sign_some (set := [33, 45]) (s := s) (b := b) (by rw [h1]; decide)
        obtain ⟨x, t, b', h2, h3⟩ := ih .un (signM [33, 45] s b).2 b trivial (by simp only [Md.cost]; omega)
        exact ⟨_, t, b', by rw [rd, if_pos h1, h2, Option.bind_some], by omega⟩
      · by_cases h2 : (signM [33, 45] s b).1 = 45
        · have hl := sign_some (set := [33, 45]) (s := s) (b := b) (by rw [h2]; decide)
          obtain ⟨x, t, b', h3, h4⟩ := ih .un (signM [33, 45] s b).2 b trivial (by simp only [Md.cost]; omega)
          exact ⟨_, t, b', by rw [rd, if_neg h1, if_pos h2, h3, Option.bind_some], by omega⟩
        · have hs2 := sign_le [40] (signM [33, 45] s b).2 b
          by_cases h3 : (signM [40] (signM [33, 45] s b).2 b).1 = 0
          · exact ⟨_, _, _, by rw [rd, if_neg h1, if_neg h2, if_pos h3], Nat.le_trans (leaf_le _ _) (by omega)⟩
          · have hl := sign_some h3
            obtain ⟨x, t, b', h4, h5⟩ := ih (.bin 0) (signM [40] (signM [33, 45] s b).2 b).2 b (Nat.zero_le _) (by simp only [Md.cost]; omega)
            have hs3 := sign_le [41] t false
            cases b' with
            | true => exact ⟨x, t, true, by rw [rd, if_neg h1, if_neg h2, if_neg h3, h4, Option.bind_some]; rfl, by omega⟩
            | false => exact ⟨x, _, _, by rw [rd, if_neg h1, if_neg h2, if_neg h3, h4, Option.bind_some]; rfl, by dsimp only; omega⟩
end Go.Proofs.YtjojjcdminbnlaaDoor
