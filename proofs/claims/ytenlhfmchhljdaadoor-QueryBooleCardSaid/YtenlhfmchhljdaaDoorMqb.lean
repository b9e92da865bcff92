/-
  Qm, Ql, Qx, Qe, Qy, Qj, in one.
-/
import Derived.Test.YtenlhfmchhljdaaDoorQu
section
namespace Go.Proofs.YtenlhfmchhljdaaDoor

inductive Md where
  | cond (k : Nat)
  | loop (k : Nat) (c : Cd)
  | one
def sgQ : Nat → List UInt8
  | 0 => [124]
  | _ => [38]
def nextQ : Nat → Md
  | 0 => .cond 1
  | _ => .one
abbrev Rr := Cd × List UInt8 × Bool
/-- The reader, by fuel. -/
def rd : Nat → Md → List UInt8 → Bool → Option Rr
  | 0, _, _, _ => none
  | f + 1, .cond k, s, b => (rd f (nextQ k) s b).bind fun r => rd f (.loop k r.1) r.2.1 r.2.2
  | f + 1, .loop k c, s, b =>
    if (signM (sgQ k) s b).1 = 0 then some (c, (signM (sgQ k) s b).2, b) else
      (rd f (nextQ k) (signM (sgQ k) s b).2 b).bind fun r => rd f (.loop k (.bin (signM (sgQ k) s b).1 c r.1)) r.2.1 r.2.2
  | f + 1, .one, s, b =>
    if (signM [33, 40] s b).1 = 33 then (rd f .one (signM [33, 40] s b).2 b).bind fun r => some (.no r.1, r.2.1, r.2.2)
    else if (signM [33, 40] s b).1 = 40 then (rd f (.cond 0) (signM [33, 40] s b).2 b).bind fun r =>
      if r.2.2 then some (r.1, r.2.1, true) else some (r.1, (signM [41] r.2.1 false).2, decide ((signM [41] r.2.1 false).1 = 0))
    else some (.t (termM (signM [33, 40] s b).2 b).f (termM (signM [33, 40] s b).2 b).n (termM (signM [33, 40] s b).2 b).sg, (termM (signM [33, 40] s b).2 b).s, (termM (signM [33, 40] s b).2 b).b)
theorem rd_succ : ∀ (f : Nat) (m : Md) (s : List UInt8) (b : Bool) (r : Rr), rd f m s b = some r → rd (f + 1) m s b = some r := by
  intro f
  induction f with
  | zero => intro m s b r h; cases h
  | succ f ih =>
    intro m s b r h
    cases m with
    | cond k =>
      rw [rd] at h ⊢
      obtain ⟨r1, h1, h2⟩ := Option.bind_eq_some_iff.1 h
      rw [ih _ _ _ _ h1, Option.bind_some]
      exact ih _ _ _ _ h2
    | loop k x =>
      rw [rd] at h ⊢
      split
      · next e => rw [if_pos e] at h; exact h
      · next e =>
        rw [if_neg e] at h
        obtain ⟨r1, h1, h2⟩ := Option.bind_eq_some_iff.1 h
        rw [ih _ _ _ _ h1, Option.bind_some]
        exact ih _ _ _ _ h2
    | one =>
      rw [rd] at h ⊢
      split
      · next e =>
        rw [if_pos e] at h
        obtain ⟨r1, h1, h2⟩ := Option.bind_eq_some_iff.1 h
        rw [ih _ _ _ _ h1, Option.bind_some]; exact h2
      · next e =>
        rw [if_neg e] at h
        split
        · next e2 =>
          rw [if_pos e2] at h
          obtain ⟨r1, h1, h2⟩ := Option.bind_eq_some_iff.1 h
          rw [ih _ _ _ _ h1, Option.bind_some]; exact h2
        · next e2 => rw [if_neg e2] at h; exact h
theorem rd_mono {f f' : Nat} (hf : f ≤ f') {m : Md} {s : List UInt8} {b : Bool} {r : Rr} (h : rd f m s b = some r) : rd f' m s b = some r := by
  induction hf with
  | refl => exact h
  | step _ ih => exact rd_succ _ _ _ _ _ ih
/-- With some fuel. -/
def Ev (m : Md) (s : List UInt8) (b : Bool) (r : Rr) : Prop := ∃ f, rd f m s b = some r
theorem Ev.det {m : Md} {s : List UInt8} {b : Bool} {r r' : Rr} (h : Ev m s b r) (h' : Ev m s b r') : r = r' := by
  obtain ⟨f, h⟩ := h
  obtain ⟨f', h'⟩ := h'
  have h1 := rd_mono (Nat.le_max_left f f') h
  have h2 := rd_mono (Nat.le_max_right f f') h'
  rw [h1] at h2
  exact Option.some.inj h2
theorem Ev.cond {k : Nat} {s : List UInt8} {b : Bool} {r r' : Rr} (h : Ev (nextQ k) s b r) (h' : Ev (.loop k r.1) r.2.1 r.2.2 r') : Ev (.cond k) s b r' := by
  obtain ⟨f, h⟩ := h
  obtain ⟨f', h'⟩ := h'
  exact ⟨max f f' + 1, by rw [rd, rd_mono (Nat.le_max_left f f') h, Option.bind_some, rd_mono (Nat.le_max_right f f') h']⟩
theorem Ev.stop {k : Nat} {x : Cd} {s : List UInt8} {b : Bool} (h : (signM (sgQ k) s b).1 = 0) : Ev (.loop k x) s b (x, (signM (sgQ k) s b).2, b) := ⟨1, by rw [rd, if_pos h]⟩
theorem Ev.more {k : Nat} {x : Cd} {s : List UInt8} {b : Bool} {r r' : Rr} (h : (signM (sgQ k) s b).1 ≠ 0) (h' : Ev (nextQ k) (signM (sgQ k) s b).2 b r)
    (h2 : Ev (.loop k (.bin (signM (sgQ k) s b).1 x r.1)) r.2.1 r.2.2 r') : Ev (.loop k x) s b r' := by
  obtain ⟨f, h'⟩ := h'
  obtain ⟨f', h2⟩ := h2
  exact ⟨max f f' + 1, by rw [rd, if_neg h, rd_mono (Nat.le_max_left f f') h', Option.bind_some, rd_mono (Nat.le_max_right f f') h2]⟩
theorem Ev.not {s : List UInt8} {b : Bool} {r : Rr} (h : (signM [33, 40] s b).1 = 33) (h' : Ev .one (signM [33, 40] s b).2 b r) : Ev .one s b (.no r.1, r.2.1, r.2.2) := by
  obtain ⟨f, h'⟩ := h'
  exact ⟨f + 1, by rw [rd, if_pos h, h', Option.bind_some]⟩
/-! The reader comes to an end. -/
theorem sign_some {set s : List UInt8} {b : Bool} (h : (signM set s b).1 ≠ 0) : (signM set s b).2.length < s.length := by
  have hd := trimM_len s
  unfold signM at h ⊢
  split at h
  · exact absurd rfl h
  · next c t e =>
    rw [e] at hd
    split at h
    · next e2 =>
      simp only [if_pos e2]
      simp at hd
      omega
    · exact absurd rfl h
theorem termM_len (s : List UInt8) (b : Bool) : (termM s b).s.length ≤ s.length := by
  have h1 := (wordM_len s).1
  unfold termM
  split
  · exact h1
  · have h2 := signM_len [61, 60] (wordM s).2 b
    have h3 := signM_len [45] (signM [61, 60] (wordM s).2 b).2 b
    have h4 := (wordM_len (signM [45] (signM [61, 60] (wordM s).2 b).2 b).2).1
    dsimp only
    omega
def Md.cost (n : Nat) : Md → Nat
  | .cond k => 6 * n + 3 - k
  | .loop _ _ => 6 * n + 1
  | .one => 6 * n + 1
def Md.fine : Md → Prop
  | .cond k => k ≤ 1
  | .loop k _ => k ≤ 1
  | .one => True
theorem next_fine (k : Nat) : (nextQ k).fine := by
  match k with
  | 0 => exact Nat.le_refl _
  | k + 1 => trivial
theorem next_cost (k n : Nat) (hk : k ≤ 1) : (nextQ k).cost n + 1 ≤ (Md.cond k).cost n := by
  match k, hk with
  | 0, _ => simp [nextQ, Md.cost]
  | 1, _ => simp [nextQ, Md.cost]
theorem rd_total : ∀ (f : Nat) (m : Md) (s : List UInt8) (b : Bool), m.fine → m.cost s.length ≤ f → ∃ x t b', rd f m s b = some (x, t, b') ∧ t.length ≤ s.length := by
  intro f
  induction f with
  | zero => intro m s b hm hc; cases m <;> simp [Md.cost, Md.fine] at hc hm <;> omega
  | succ f ih =>
    intro m s b hm hc
    cases m with
    | cond k =>
      have hm' : k ≤ 1 := hm
      have hn := next_cost k s.length hm'
      obtain ⟨x, t, b', h1, h2⟩ := ih (nextQ k) s b (next_fine k) (by omega)
      simp only [Md.cost] at hc
      obtain ⟨y, t2, b2, h3, h4⟩ := ih (.loop k x) t b' hm' (by simp only [Md.cost]; omega)
      exact ⟨y, t2, b2, by rw [rd, h1, Option.bind_some]; exact h3, by omega⟩
    | loop k x =>
      have hm' : k ≤ 1 := hm
      simp only [Md.cost] at hc
      have hs := signM_len (sgQ k) s b
      by_cases h0 : (signM (sgQ k) s b).1 = 0
      · exact ⟨x, _, b, by rw [rd, if_pos h0], hs⟩
      · have hl := sign_some h0
        have hn := next_cost k (signM (sgQ k) s b).2.length hm'
        have hcc : (Md.cond k).cost (signM (sgQ k) s b).2.length ≤ 6 * (signM (sgQ k) s b).2.length + 3 := by simp only [Md.cost]; omega
        obtain ⟨y, t, b', h1, h2⟩ := ih (nextQ k) (signM (sgQ k) s b).2 b (next_fine k) (by omega)
        obtain ⟨z, t2, b2, h3, h4⟩ := ih (.loop k (.bin (signM (sgQ k) s b).1 x y)) t b' hm (by simp only [Md.cost]; omega)
        exact ⟨z, t2, b2, by rw [rd, if_neg h0, h1, Option.bind_some]; exact h3, by omega⟩
    | one =>
      simp only [Md.cost] at hc
      have hs := signM_len [33, 40] s b
      by_cases h1 : (signM [33, 40] s b).1 = 33
      · have hl := sign_some (set := [33, 40]) (s := s) (b := b) (by rw [h1]; decide)
        obtain ⟨x, t, b', h2, h3⟩ := ih .one (signM [33, 40] s b).2 b trivial (by simp only [Md.cost]; omega)
        exact ⟨_, t, b', by rw [rd, if_pos h1, h2, Option.bind_some], by omega⟩
      · by_cases h2 : (signM [33, 40] s b).1 = 40
        · have hl := sign_some (set := [33, 40]) (s := s) (b := b) (by rw [h2]; decide)
          obtain ⟨x, t, b', h4, h5⟩ := ih (.cond 0) (signM [33, 40] s b).2 b (Nat.zero_le _) (by simp only [Md.cost]; omega)
          have hs3 := signM_len [41] t false
          cases b' with
          | true => exact ⟨x, t, true, by rw [rd, if_neg h1, if_pos h2, h4, Option.bind_some]; rfl, by omega⟩
          | false => exact ⟨x, _, _, by rw [rd, if_neg h1, if_pos h2, h4, Option.bind_some]; rfl, by dsimp only; omega⟩
        · have h3 := termM_len (signM [33, 40] s b).2 b
          exact ⟨_, _, _, by rw [rd, if_neg h1, if_neg h2], by omega⟩
def Md.deepIn : Md → Nat
  | .loop _ c => c.deep
  | _ => 1
theorem rd_len : ∀ (f : Nat) (m : Md) (s : List UInt8) (b : Bool) (r : Rr), rd f m s b = some r → r.2.1.length ≤ s.length := by
  intro f
  induction f with
  | zero => intro m s b r h; cases h
  | succ f ih =>
    intro m s b r h
    cases m with
    | cond k =>
      rw [rd] at h
      obtain ⟨r1, h1, h2⟩ := Option.bind_eq_some_iff.1 h
      have := ih _ _ _ _ h1
      have := ih _ _ _ _ h2
      omega
    | loop k x =>
      have hs := signM_len (sgQ k) s b
      rw [rd] at h
      split at h
      · cases h; exact hs
      · obtain ⟨r1, h1, h2⟩ := Option.bind_eq_some_iff.1 h
        have := ih _ _ _ _ h1
        have := ih _ _ _ _ h2
        omega
    | one =>
      have hs := signM_len [33, 40] s b
      rw [rd] at h
      split at h
      · obtain ⟨r1, h1, h2⟩ := Option.bind_eq_some_iff.1 h
        have := ih _ _ _ _ h1
        cases h2
        dsimp only; omega
      · split at h
        · obtain ⟨r1, h1, h2⟩ := Option.bind_eq_some_iff.1 h
          have h3 := ih _ _ _ _ h1
          have := signM_len [41] r1.2.1 false
          split at h2
          · cases h2; dsimp only; omega
          · cases h2; dsimp only; omega
        · cases h
          have := termM_len (signM [33, 40] s b).2 b
          dsimp only; omega
/-- It is no deeper than its text is long. -/
theorem rd_deep : ∀ (f : Nat) (m : Md) (s : List UInt8) (b : Bool) (r : Rr), rd f m s b = some r → r.1.deep + r.2.1.length ≤ max (m.deepIn + s.length) (1 + s.length) := by
  have hlen := rd_len
  intro f
  induction f with
  | zero => intro m s b r h; cases h
  | succ f ih =>
    intro m s b r h
    cases m with
    | cond k =>
      rw [rd] at h
      obtain ⟨r1, h1, h2⟩ := Option.bind_eq_some_iff.1 h
      have e1 := ih _ _ _ _ h1
      have e2 := ih _ _ _ _ h2
      have e3 := hlen _ _ _ _ _ h1
      have e4 : (nextQ k).deepIn = 1 := by cases k <;> rfl
      simp only [Md.deepIn] at e2 ⊢
      omega
    | loop k x =>
      have hs := signM_len (sgQ k) s b
      rw [rd] at h
      split at h
      · cases h; simp only [Md.deepIn]; omega
      · next h0 =>
        have hl := sign_some h0
        obtain ⟨r1, h1, h2⟩ := Option.bind_eq_some_iff.1 h
        have e1 := ih _ _ _ _ h1
        have e2 := ih _ _ _ _ h2
        have e3 := hlen _ _ _ _ _ h1
        have e4 : (nextQ k).deepIn = 1 := by cases k <;> rfl
        simp only [Md.deepIn, Cd.deep] at e2 ⊢
        omega
    | one =>
      have hs := signM_len [33, 40] s b
      rw [rd] at h
      split at h
      · next h0 =>
        have hl := sign_some (set := [33, 40]) (s := s) (b := b) (by rw [h0]; decide)
        obtain ⟨r1, h1, h2⟩ := Option.bind_eq_some_iff.1 h
        have e1 := ih _ _ _ _ h1
        cases h2
        simp only [Md.deepIn, Cd.deep] at e1 ⊢
        omega
      · split at h
        · next h0 =>
          have hl := sign_some (set := [33, 40]) (s := s) (b := b) (by rw [h0]; decide)
          obtain ⟨r1, h1, h2⟩ := Option.bind_eq_some_iff.1 h
          have e1 := ih _ _ _ _ h1
          have := signM_len [41] r1.2.1 false
          simp only [Md.deepIn] at e1 ⊢
          split at h2
          · cases h2; dsimp only; omega
          · cases h2; dsimp only; omega
        · cases h
          have := termM_len (signM [33, 40] s b).2 b
          simp only [Md.deepIn, Cd.deep]; omega
/-- What is parsed: which of all, the condition, 0 or what is wrong. -/
abbrev firstT : List UInt8 := [102, 105, 114, 115, 116]
abbrev lastT : List UInt8 := [108, 97, 115, 116]
def wordQ (text : List UInt8) : List UInt8 × List UInt8 := if (wordM text).1 = firstT ∨ (wordM text).1 = lastT then wordM text else ([], text)
def parseM (text : List UInt8) : List UInt8 × Cd × Int :=
  if 200 < text.length then ([], .bad, 2) else
  match rd (6 * (wordQ text).2.length + 3) (.cond 0) (wordQ text).2 false with
  | none => ([], .bad, 0)
  | some (x, s, b) => if b || !(trimM s).isEmpty then ([], .bad, 4) else if 20 < x.deep then ([], .bad, 2) else ((wordQ text).1, x, 0)
end Go.Proofs.YtenlhfmchhljdaaDoor
end

section
namespace Go.Proofs.YtenlhfmchhljdaaDoor

/-- What is read without fault. -/
inductive Rd : Md → List UInt8 → Cd → List UInt8 → Prop
  | cond {k : Nat} {s t u : List UInt8} {x y : Cd} (h : Rd (nextQ k) s x t) (h' : Rd (.loop k x) t y u) : Rd (.cond k) s y u
  | stop {k : Nat} {s t : List UInt8} {x : Cd} (h : signM (sgQ k) s false = (0, t)) : Rd (.loop k x) s x t
  | more {k : Nat} {s t u v : List UInt8} {x y z : Cd} {c : UInt8} (h : signM (sgQ k) s false = (c, t)) (hc : c ≠ 0) (h' : Rd (nextQ k) t y u) (h2 : Rd (.loop k (.bin c x y)) u z v) : Rd (.loop k x) s z v
  | not {s t u : List UInt8} {x : Cd} (h : signM [33, 40] s false = (33, t)) (h' : Rd .one t x u) : Rd .one s (.no x) u
  | par {s u v w : List UInt8} {x : Cd} {c : UInt8} (h : signM [33, 40] s false = (40, u)) (h3 : Rd (.cond 0) u x v) (h4 : signM [41] v false = (c, w)) (hc : c ≠ 0) : Rd .one s x w
  | leaf {s t v : List UInt8} {f n : Int} {g : UInt8} (h : signM [33, 40] s false = (0, t)) (h2 : termM t false = ⟨f, n, g, v, false⟩) : Rd .one s (.t f n g) v
theorem sign_bad (set s : List UInt8) : (signM set s true).1 = 0 := by
  unfold signM; split <;> simp
theorem term_bad (s : List UInt8) : (termM s true).b = true := by
  unfold termM; split <;> simp
theorem bad_stays : ∀ (f : Nat) (m : Md) (s : List UInt8) (r : Rr), rd f m s true = some r → r.2.2 = true := by
  intro f
  induction f with
  | zero => intro m s r h; cases h
  | succ f ih =>
    intro m s r h
    cases m with
    | cond k =>
      rw [rd] at h
      obtain ⟨r1, h1, h2⟩ := Option.bind_eq_some_iff.1 h
      have := ih _ _ _ h1
      rw [this] at h2
      exact ih _ _ _ h2
    | loop k x =>
      rw [rd, if_pos (sign_bad _ _)] at h
      cases h; rfl
    | one =>
      rw [rd, if_neg (by rw [sign_bad]; decide), if_neg (by rw [sign_bad]; decide)] at h
      cases h; exact term_bad _
theorem sign_mem {set s t : List UInt8} {b : Bool} {c : UInt8} (h : signM set s b = (c, t)) (hc : c ≠ 0) : c ∈ set ∧ trimM s = c :: t := by
  unfold signM at h
  split at h
  · cases h; exact absurd rfl hc
  · next d u e =>
    split at h
    · next hh => cases h; exact ⟨by simpa using hh.2, e⟩
    · cases h; exact absurd rfl hc
theorem rd_of : ∀ (f : Nat) (m : Md) (s : List UInt8) (x : Cd) (t : List UInt8), rd f m s false = some (x, t, false) → Rd m s x t := by
  intro f
  induction f with
  | zero => intro m s x t h; cases h
  | succ f ih =>
    intro m s x t h
    cases m with
    | cond k =>
      rw [rd] at h
      obtain ⟨⟨y, u, b⟩, h1, h2⟩ := Option.bind_eq_some_iff.1 h
      cases b with
      | true => exact absurd (bad_stays _ _ _ _ h2) (by simp)
      | false => exact .cond (ih _ _ _ _ h1) (ih _ _ _ _ h2)
    | loop k y =>
      rw [rd] at h
      generalize hg : signM (sgQ k) s false = g at h
      obtain ⟨c, u⟩ := g
      dsimp only at h
      split at h
      · next h0 => subst h0; cases h; exact .stop hg
      · next h0 =>
        obtain ⟨⟨z, v, b⟩, h1, h2⟩ := Option.bind_eq_some_iff.1 h
        cases b with
        | true => exact absurd (bad_stays _ _ _ _ h2) (by simp)
        | false => exact .more hg h0 (ih _ _ _ _ h1) (ih _ _ _ _ h2)
    | one =>
      rw [rd] at h
      generalize hg : signM [33, 40] s false = g at h
      obtain ⟨c, u⟩ := g
      dsimp only at h
      split at h
      · next h0 =>
        subst h0
        obtain ⟨⟨z, v, b⟩, h1, h2⟩ := Option.bind_eq_some_iff.1 h
        cases h2
        exact .not hg (ih _ _ _ _ h1)
      · next h0 =>
        split at h
        · next h2 =>
          subst h2
          obtain ⟨⟨z, v', b⟩, h3, h4⟩ := Option.bind_eq_some_iff.1 h
          dsimp only at h4
          cases b with
          | true => rw [if_pos rfl] at h4; cases h4
          | false =>
            rw [if_neg (by decide)] at h4
            generalize hg3 : signM [41] v' false = g at h4
            obtain ⟨c3, w⟩ := g
            dsimp only at h4
            simp only [Option.some.injEq, Prod.mk.injEq, decide_eq_false_iff_not] at h4
            obtain ⟨rfl, rfl, h5⟩ := h4
            exact .par hg (ih _ _ _ _ h3) hg3 h5
        · next h1 =>
          have hc0 : c = 0 := by
            by_cases hc : c = 0
            · exact hc
            · have := (sign_mem hg hc).1
              simp only [List.mem_cons, List.not_mem_nil, or_false] at this
              rcases this with h2 | h2
              · exact absurd h2 h0
              · exact absurd h2 h1
          subst hc0
          generalize hT : termM u false = T at h
          obtain ⟨f0, n, g, v, b⟩ := T
          cases h
          exact .leaf hg hT
theorem Rd.ev {m : Md} {s t : List UInt8} {x : Cd} (h : Rd m s x t) : Ev m s false (x, t, false) := by
  induction h with
  | cond _ _ ih ih' => exact Ev.cond ih ih'
  | @stop k s t x h => have := Ev.stop (x := x) (show (signM (sgQ k) s false).1 = 0 by rw [h]); rwa [h] at this
  | @more k s t u v x y z c h hc _ _ ih ih2 => exact Ev.more (x := x) (r := (y, u, false)) (by rw [h]; exact hc) (by rw [h]; exact ih) (by rw [h]; exact ih2)
  | @not s t u x h _ ih => exact Ev.not (r := (x, u, false)) (by rw [h]) (by rw [h]; exact ih)
  | @par s u v w x c h _ h4 hc ih =>
    obtain ⟨f, hf⟩ := ih
    refine ⟨f + 1, ?_⟩
    rw [rd, h]
    dsimp only
    rw [if_neg (by decide), if_pos rfl, hf, Option.bind_some]
    dsimp only
    rw [if_neg (by decide), h4]
    simp [hc]
  | @leaf s t v f n g h h2 =>
    refine ⟨1, ?_⟩
    rw [rd, h]
    dsimp only
    rw [if_neg (by decide), if_neg (by decide), h2]
theorem Rd.det {m : Md} {s t t' : List UInt8} {x x' : Cd} (h : Rd m s x t) (h' : Rd m s x' t') : x = x' ∧ t = t' := by
  have := h.ev.det h'.ev
  simpa using this
/-! A blank ahead is free. -/
theorem trim_blank (s : List UInt8) : trimM (32 :: s) = trimM s := by
  unfold trimM; rw [List.dropWhile_cons]; rfl
theorem sign_blank (set s : List UInt8) (b : Bool) : signM set (32 :: s) b = signM set s b := by
  unfold signM; rw [trim_blank]
theorem Rd.blank {m : Md} {s t : List UInt8} {x : Cd} (h : Rd m s x t) : Rd m (32 :: s) x t := by
  induction h with
  | cond _ h' ih _ => exact .cond ih h'
  | stop h => exact .stop (by rw [sign_blank]; exact h)
  | more h hc h' h2 _ _ => exact .more (by rw [sign_blank]; exact h) hc h' h2
  | not h h' _ => exact .not (by rw [sign_blank]; exact h) h'
  | par h h3 h4 hc _ => exact .par (by rw [sign_blank]; exact h) h3 h4 hc
  | leaf h h2 => exact .leaf (by rw [sign_blank]; exact h) h2
/-! In brackets. -/
theorem trim_app (s z : List UInt8) : trimM (s ++ 41 :: z) = trimM s ++ 41 :: z := by
  induction s with
  | nil => rfl
  | cons c s ih =>
    unfold trimM at ih ⊢
    rw [List.cons_append, List.dropWhile_cons, List.dropWhile_cons]
    cases hc : (c == 32) with
    | true => simpa using ih
    | false => simp
theorem sign_app {set s t : List UInt8} {c : UInt8} (z : List UInt8) (h41 : (41 : UInt8) ∉ set) (h : signM set s false = (c, t)) : signM set (s ++ 41 :: z) false = (c, t ++ 41 :: z) := by
  unfold signM at h ⊢
  rw [trim_app]
  split at h
  · next e =>
    cases h
    rw [e]
    simp [h41]
  · next d u e =>
    rw [e, List.cons_append]
    dsimp only
    split at h
    · next hh => cases h; rw [if_pos hh]
    · next hh => cases h; rw [if_neg hh]; rfl
theorem sign_close {s t : List UInt8} {c : UInt8} (z : List UInt8) (h : signM [41] s false = (c, t)) (hc : c ≠ 0) : signM [41] (s ++ 41 :: z) false = (c, t ++ 41 :: z) := by
  obtain ⟨-, e⟩ := sign_mem h hc
  unfold signM at h ⊢
  rw [trim_app, e]
  rw [e] at h
  rw [List.cons_append]
  dsimp only at h ⊢
  split at h
  · next hh => cases h; rw [if_pos hh]
  · next hh => exact absurd (congrArg Prod.fst h).symm hc
theorem tw_app (s z : List UInt8) : (s ++ 41 :: z).takeWhile alQ = s.takeWhile alQ := by
  induction s with
  | nil => simp [alQ]
  | cons c s ih => rw [List.cons_append, List.takeWhile_cons, List.takeWhile_cons, ih]
theorem word_app (s z : List UInt8) : wordM (s ++ 41 :: z) = ((wordM s).1, (wordM s).2 ++ 41 :: z) := by
  have hl : ((trimM s).takeWhile alQ).length ≤ (trimM s).length := (List.takeWhile_sublist _).length_le
  unfold wordM
  rw [trim_app, tw_app, List.drop_append_of_le_length hl]
theorem sign_app' (set s z : List UInt8) (h41 : (41 : UInt8) ∉ set) : signM set (s ++ 41 :: z) false = ((signM set s false).1, (signM set s false).2 ++ 41 :: z) := sign_app z h41 rfl
theorem term_app {s v : List UInt8} {f n : Int} {g : UInt8} (z : List UInt8) (h : termM s false = ⟨f, n, g, v, false⟩) : termM (s ++ 41 :: z) false = ⟨f, n, g, v ++ 41 :: z, false⟩ := by
  unfold termM at h ⊢
  rw [word_app]
  split at h
  · next hk => cases h; rw [if_pos hk]
  · next hk =>
    rw [if_neg hk]
    dsimp only at h ⊢
    rw [sign_app' _ _ _ (by decide)]
    dsimp only
    rw [sign_app' _ _ _ (by decide)]
    dsimp only
    rw [word_app]
    dsimp only
    injection h with e1 e2 e3 e4 e5
    rw [e5, e1, e2, e3, e4]
theorem sg_41 (k : Nat) : (41 : UInt8) ∉ sgQ k := by
  match k with
  | 0 => decide
  | k + 1 => simp [sgQ]
theorem Rd.app {m : Md} {s t : List UInt8} {x : Cd} (h : Rd m s x t) (z : List UInt8) : Rd m (s ++ 41 :: z) x (t ++ 41 :: z) := by
  induction h with
  | cond _ _ ih ih' => exact .cond ih ih'
  | stop h => exact .stop (sign_app z (sg_41 _) h)
  | more h hc _ _ ih ih2 => exact .more (sign_app z (sg_41 _) h) hc ih ih2
  | not h _ ih => exact .not (sign_app z (by decide) h) ih
  | par h _ h4 hc ih => exact .par (sign_app z (by decide) h) ih (sign_close z h4 hc) hc
  | leaf h h2 => exact .leaf (sign_app z (by decide) h) (term_app z h2)
theorem sign_one (set : List UInt8) (c : UInt8) (t : List UInt8) (hc : c ≠ 32) (hm : c ∈ set) : signM set (c :: t) false = (c, t) := by
  unfold signM trimM
  rw [List.dropWhile_cons, if_neg (by simpa using hc)]
  simp [hm]
theorem sign_no (set : List UInt8) (c : UInt8) (t : List UInt8) (hc : c ≠ 32) (hm : c ∉ set) : signM set (c :: t) false = (0, c :: t) := by
  unfold signM trimM
  rw [List.dropWhile_cons, if_neg (by simpa using hc)]
  simp [hm]
theorem sign_nil (set : List UInt8) : signM set [] false = (0, []) := rfl
/-- One between brackets. -/
theorem Rd.between {a t : List UInt8} {x : Cd} (h : Rd (.cond 0) a x t) (ht : trimM t = []) (z : List UInt8) : Rd .one (40 :: (a ++ 41 :: z)) x z := by
  refine .par (sign_one _ _ _ (by decide) (by decide)) (h.app z) (c := 41) ?_ (by decide)
  unfold signM
  rw [trim_app, ht]
  rfl
/-! What is read is right. -/
theorem sg_mem {k : Nat} {c : UInt8} (h : c ∈ sgQ k) : (c = 124 ∨ c = 38) ∧ (k ≤ 1 → c = if k = 0 then 124 else 38) := by
  match k, h with
  | 0, h => simp [sgQ] at h; subst h; exact ⟨.inl rfl, fun _ => rfl⟩
  | k + 1, h => simp [sgQ] at h; subst h; exact ⟨.inr rfl, fun _ => by simp⟩
def okT (f n : Int) (g : UInt8) : Prop := (f = -1 ∧ 1 ≤ n ∧ n ≤ 17 ∧ g = 0) ∨ (0 ≤ f ∧ f ≤ 8 ∧ (g = 61 ∨ g = 60) ∧ -999999999 ≤ n ∧ n ≤ 999999999)
def Cd.ok : Cd → Prop
  | .bad => False
  | .t f n g => okT f n g
  | .no c => c.ok
  | .bin op a b => (op = 124 ∨ op = 38) ∧ a.ok ∧ b.ok
theorem puL_lt : ∀ (l : List UInt8) (acc u : Nat), puL acc l = (u, 0) → u < (acc + 1) * 10 ^ l.length
  | [], acc, u, h => by
    rw [puL] at h; cases h; simp
  | c :: l, acc, u, h => by
    rw [puL] at h
    split at h
    · split at h
      · simp at h
      · have := puL_lt l _ u h
        rw [List.length_cons, Nat.pow_succ]
        refine Nat.lt_of_lt_of_le this ?_
        rw [Nat.mul_comm (10 ^ l.length) 10, ← Nat.mul_assoc]
        exact Nat.mul_le_mul_right _ (by omega)
    · simp at h
theorem puM_lt {d : List UInt8} (h : (puM d).2 = 0) (h9 : d.length ≤ 9) : (puM d).1 ≤ 999999999 := by
  have h2 : puL 0 d = ((puM d).1, 0) := by
    unfold puM at h ⊢
    split
    · next e => rw [if_pos e] at h; cases h
    · next e =>
      rw [if_neg e] at h
      generalize puL 0 d = q at h ⊢
      obtain ⟨q1, q2⟩ := q
      cases h; rfl
  have := puL_lt d 0 _ h2
  have h3 : 10 ^ d.length ≤ 10 ^ 9 := Nat.pow_le_pow_right (by decide) h9
  omega
theorem term_ok {s v : List UInt8} {f n : Int} {g : UInt8} (h : termM s false = ⟨f, n, g, v, false⟩) : okT f n g := by
  have hkb := idxM_bd (wordM s).1 kindsL 0
  have hfb := idxM_bd (wordM s).1 fieldsL 0
  rw [show kindsL.length = 17 from by rw [kindsL_eq]; rfl] at hkb
  rw [show fieldsL.length = 9 from by rw [fieldsL_eq]; rfl] at hfb
  unfold termM at h
  split at h
  · next hk => cases h; exact .inl ⟨rfl, by omega, by omega, rfl⟩
  · next hk =>
    dsimp only at h
    generalize hg : signM [61, 60] (wordM s).2 false = gg at h
    obtain ⟨c, s1⟩ := gg
    dsimp only at h
    injection h with e1 e2 e3 e4 e5
    simp only [Bool.or_eq_false_iff, decide_eq_false_iff_not, Bool.false_or, beq_eq_false_iff_ne, bne_eq_false_iff_eq] at e5
    obtain ⟨⟨⟨h1, h2⟩, h3⟩, h4⟩ := e5
    have hm := puM_lt h3 (by omega)
    have hmem := (sign_mem hg h2).1
    simp only [List.mem_cons, List.not_mem_nil, or_false] at hmem
    subst e1 e2 e3
    refine .inr ⟨by omega, by omega, hmem, ?_, ?_⟩
    · unfold minusI; split <;> omega
    · unfold minusI; split <;> omega
def Md.okIn : Md → Prop
  | .loop _ x => x.ok
  | _ => True
theorem Rd.ok {m : Md} {s t : List UInt8} {x : Cd} (h : Rd m s x t) : m.okIn → x.ok := by
  induction h with
  | @cond k s t u x y _ _ ih ih' => exact fun _ => ih' (ih (by cases k <;> trivial))
  | stop h => exact id
  | @more k s t u v x y z c h hc _ _ ih ih2 => exact fun hx => ih2 ⟨(sg_mem (sign_mem h hc).1).1, hx, ih (by cases k <;> trivial)⟩
  | not h _ ih => exact fun _ => ih trivial
  | par h _ h4 hc ih => exact fun _ => ih trivial
  | leaf h h2 => exact fun _ => term_ok h2
end Go.Proofs.YtenlhfmchhljdaaDoor
end

section
namespace Go.Proofs.YtenlhfmchhljdaaDoor

def rkM (op : UInt8) : Nat := if op = 124 then 0 else 1
def brM (r least : Nat) (out : List UInt8) : List UInt8 := if r < least then 40 :: (out ++ [41]) else out
def wrT (f n : Int) (g : UInt8) : List UInt8 := if f < 0 then kindsL.getD (n - 1).toNat [] else fieldsL.getD f.toNat [] ++ (g :: Lib.itoa n)
def Cd.wr : Cd → Nat → List UInt8
  | .bad, _ => []
  | .t f n g, _ => wrT f n g
  | .no c, _ => 33 :: c.wr 3
  | .bin op a b, least => brM (rkM op) least (a.wr (rkM op) ++ op :: b.wr (rkM op + 1))
/-- Whether reading of a side of rank k ends ahead of it. -/
def Stops (k : Nat) (t : List UInt8) : Prop := match t with
  | [] => True
  | c :: _ => c ≠ 32 ∧ alQ c = false ∧ ∀ j, k ≤ j → j ≤ 1 → c ∉ sgQ j
theorem Stops.up {k j : Nat} {t : List UInt8} (h : Stops k t) (hj : k ≤ j) : Stops j t := by
  unfold Stops at h ⊢
  split
  · trivial
  · exact ⟨h.1, h.2.1, fun i hi => h.2.2 i (by omega)⟩
theorem Stops.sign {k j : Nat} {t : List UInt8} (h : Stops k t) (hj : k ≤ j) (h4 : j ≤ 1) : signM (sgQ j) t false = (0, t) := by
  unfold Stops at h
  split at h
  · rfl
  · next c u => exact sign_no _ _ _ h.1 (h.2.2 j hj h4)
def nx : Nat → Md
  | 0 => .cond 0
  | 1 => .cond 1
  | _ => .one
theorem next_nx (k : Nat) : nextQ k = nx (k + 1) := by
  match k with
  | 0 => rfl
  | k + 1 => rfl
theorem nx_one {k : Nat} (h : 2 ≤ k) : nx k = .one := by
  match k, h with
  | k + 2, _ => rfl
theorem nx_cond {k : Nat} (h : k ≤ 1) : nx k = .cond k := by
  match k, h with
  | 0, _ => rfl
  | 1, _ => rfl
/-- Down to the single ones. -/
theorem Rd.down {s t : List UInt8} {x : Cd} (h : Rd .one s x t) (k : Nat) (hs : Stops k t) : Rd (nx k) s x t := by
  have h1 : Stops 1 t → Rd (.cond 1) s x t := fun h1 => .cond h (.stop (h1.sign (Nat.le_refl _) (by decide)))
  match k, hs with
  | 0, hs => exact .cond (h1 (hs.up (by decide))) (.stop (hs.sign (Nat.le_refl _) (by decide)))
  | 1, hs => exact h1 hs
  | k + 2, hs => exact h
theorem Rd.lower {s t : List UInt8} {x : Cd} (h : Rd (.cond 1) s x t) (hs : Stops 0 t) : Rd (.cond 0) s x t := .cond h (.stop (hs.sign (Nat.le_refl _) (by decide)))
theorem stops_close (k : Nat) (t : List UInt8) : Stops k (41 :: t) := ⟨by decide, by decide, fun j _ _ => sg_41 j⟩
theorem stops_op {c : UInt8} {k : Nat} (h : c ∈ sgQ k) (hk : k ≤ 1) (t : List UInt8) : Stops (k + 1) (c :: t) := by
  have h1 := (sg_mem h).2 hk
  obtain ⟨h0, -⟩ := sg_mem h
  refine ⟨by rintro rfl; simp at h0, by rcases h0 with rfl | rfl <;> decide, fun j hj hj4 hm => ?_⟩
  have := (sg_mem hm).2 hj4
  rw [h1] at this
  obtain rfl : k = 0 := by omega
  obtain rfl : j = 1 := by omega
  exact absurd this (by decide)
theorem tw_left {w t : List UInt8} (ha : ∀ b ∈ w, alQ b = true) (ht : Stops 2 t) : (w ++ t).takeWhile alQ = w := by
  induction w with
  | nil =>
    unfold Stops at ht
    split at ht
    · rfl
    · rw [List.nil_append, List.takeWhile_cons, ht.2.1]; rfl
  | cons c w ih =>
    rw [List.cons_append, List.takeWhile_cons, ha c (by simp)]
    exact congrArg (c :: ·) (ih fun b hb => ha b (by simp [hb]))
theorem trim_al {w t : List UInt8} (hw : w ≠ []) (ha : ∀ b ∈ w, alQ b = true) : trimM (w ++ t) = w ++ t := by
  match w, hw with
  | c :: u, _ =>
    have hc := ha c (by simp)
    unfold trimM
    rw [List.cons_append, List.dropWhile_cons, if_neg]
    intro h
    have : c = 32 := by simpa using h
    subst this
    exact absurd hc (by decide)
theorem word_left {w t : List UInt8} (hw : w ≠ []) (ha : ∀ b ∈ w, alQ b = true) (ht : Stops 2 t) : wordM (w ++ t) = (w, t) := by
  unfold wordM
  rw [trim_al hw ha, tw_left ha ht, List.drop_left]
theorem al_no {w t : List UInt8} (hw : w ≠ []) (ha : ∀ b ∈ w, alQ b = true) (set : List UInt8) (hs : ∀ c ∈ set, alQ c = false) : signM set (w ++ t) false = (0, w ++ t) := by
  match w, hw with
  | c :: u, _ =>
    have hc := ha c (by simp)
    refine sign_no _ _ _ (by rintro rfl; exact absurd hc (by decide)) fun hm => ?_
    rw [hs c hm] at hc; cases hc
/-! Numbers. -/
def digQ (b : UInt8) : Bool := decide (48 ≤ b.toNat) && decide (b.toNat ≤ 57)
theorem dig_al {b : UInt8} (h : digQ b = true) : alQ b = true := by
  unfold digQ at h
  unfold alQ
  simp only [Bool.and_eq_true, decide_eq_true_eq] at h ⊢
  omega
theorem dec_dig : ∀ (m n : Nat), n ≤ m → (∀ b ∈ Lib.decDigits n, digQ b = true) ∧ Lib.decDigits n ≠ [] := by
  intro m
  induction m with
  | zero =>
    intro n hn
    obtain rfl : n = 0 := by omega
    rw [Lib.decDigits, dif_pos (by decide)]
    exact ⟨by simp; decide, by simp⟩
  | succ m ih =>
    intro n hn
    have key : ∀ d, d < 10 → digQ (UInt8.ofNat (48 + d)) = true := fun d hd => by
      have : ∀ d : Fin 10, digQ (UInt8.ofNat (48 + d.val)) = true := by decide
      exact this ⟨d, hd⟩
    rw [Lib.decDigits]
    split
    · next h => exact ⟨by simpa using key n h, by simp⟩
    · next h =>
      have := ih (n / 10) (by omega)
      refine ⟨fun b hb => ?_, by simp⟩
      rcases List.mem_append.1 hb with hb | hb
      · exact this.1 b hb
      · obtain rfl := List.mem_singleton.1 hb
        exact key _ (by omega)
theorem dec_len : ∀ (k n : Nat), 1 ≤ k → n < 10 ^ k → (Lib.decDigits n).length ≤ k := by
  intro k
  induction k with
  | zero => intro n h; omega
  | succ k ih =>
    intro n _ hn
    rw [Lib.decDigits]
    split
    · simp
    · next h10 =>
      have hk : 1 ≤ k := by
        rcases Nat.eq_zero_or_pos k with rfl | h
        · simp at hn; omega
        · exact h
      have := ih (n / 10) hk (by rw [Nat.pow_succ] at hn; omega)
      simp; omega
theorem puL_app : ∀ (l : List UInt8) (acc u : Nat) (c : UInt8), puL acc l = (u, 0) → digQ c = true → u * 10 + (c.toNat - 48) ≤ 1099511627775 → puL acc (l ++ [c]) = (u * 10 + (c.toNat - 48), 0)
  | [], acc, u, c, h, hc, hb => by
    unfold digQ at hc
    simp only [Bool.and_eq_true, decide_eq_true_eq] at hc
    rw [puL] at h
    cases h
    rw [List.nil_append, puL, if_pos hc, if_neg (by omega), puL]
  | d :: l, acc, u, c, h, hc, hb => by
    rw [puL] at h
    rw [List.cons_append, puL]
    split at h
    · next hd =>
      rw [if_pos hd]
      split at h
      · simp at h
      · next h2 =>
        rw [if_neg h2]
        exact puL_app l _ u c h hc hb
    · simp at h
theorem dec_pu : ∀ (m n : Nat), n ≤ m → n ≤ 999999999 → puL 0 (Lib.decDigits n) = (n, 0) := by
  have ofn : ∀ d, d < 10 → (UInt8.ofNat (48 + d)).toNat = 48 + d := fun d hd => by simp; omega
  intro m
  induction m with
  | zero =>
    intro n hn _
    obtain rfl : n = 0 := by omega
    rw [Lib.decDigits, dif_pos (by decide)]
    rfl
  | succ m ih =>
    intro n hn h9
    have hd := (dec_dig n n (Nat.le_refl _)).1
    rw [Lib.decDigits] at hd ⊢
    split
    · next h =>
      rw [dif_pos h] at hd
      have hc := hd (UInt8.ofNat (48 + n)) (by simp)
      unfold digQ at hc
      simp only [Bool.and_eq_true, decide_eq_true_eq] at hc
      rw [puL, if_pos hc, ofn n h, if_neg (by omega), puL]
      simp
    · next h =>
      rw [dif_neg h] at hd
      have h1 := ih (n / 10) (by omega) (by omega)
      have := puL_app _ 0 (n / 10) (UInt8.ofNat (48 + n % 10)) h1 (hd _ (by simp)) (by rw [ofn _ (by omega)]; omega)
      rw [this, ofn _ (by omega)]
      congr 1
      omega
theorem dec_puM {n : Nat} (h : n ≤ 999999999) : puM (Lib.decDigits n) = (n, 0) := by
  unfold puM
  rw [if_neg (dec_dig n n (Nat.le_refl _)).2, dec_pu n n (Nat.le_refl _) h]
/-! Terms. -/
theorem itoa_cases (n : Int) : (0 ≤ n ∧ Lib.itoa n = Lib.decDigits n.natAbs) ∨ (n < 0 ∧ Lib.itoa n = 45 :: Lib.decDigits n.natAbs) := by
  unfold Lib.itoa
  by_cases h : n < 0
  · rw [if_pos h]
    exact .inr ⟨h, by congr 2⟩
  · rw [if_neg h]
    exact .inl ⟨by omega, by congr 1; omega⟩
theorem kinds_all : ∀ i : Fin 17, (kindsL.getD i.val []) ≠ [] ∧ (kindsL.getD i.val []).all alQ = true ∧ idxM (kindsL.getD i.val []) kindsL 0 = i.val ∧ kindsL.getD i.val [] ≠ firstT ∧ kindsL.getD i.val [] ≠ lastT := by
  rw [kindsL_eq]; decide +kernel
theorem fields_all : ∀ i : Fin 9, (fieldsL.getD i.val []) ≠ [] ∧ (fieldsL.getD i.val []).all alQ = true ∧ idxM (fieldsL.getD i.val []) kindsL 0 = -1 ∧ idxM (fieldsL.getD i.val []) fieldsL 0 = i.val ∧ fieldsL.getD i.val [] ≠ firstT ∧ fieldsL.getD i.val [] ≠ lastT := by
  rw [kindsL_eq, fieldsL_eq]; decide +kernel
theorem kinds_at {n : Int} (h1 : 1 ≤ n) (h2 : n ≤ 17) : ∃ w, kindsL.getD (n - 1).toNat [] = w ∧ w ≠ [] ∧ (∀ b ∈ w, alQ b = true) ∧ idxM w kindsL 0 = n - 1 ∧ w ≠ firstT ∧ w ≠ lastT := by
  have := kinds_all ⟨(n - 1).toNat, by omega⟩
  dsimp only at this
  obtain ⟨k1, k2, k3, k4, k5⟩ := this
  exact ⟨_, rfl, k1, List.all_eq_true.1 k2, by rw [k3]; omega, k4, k5⟩
theorem fields_at {f : Int} (h1 : 0 ≤ f) (h2 : f ≤ 8) : ∃ w, fieldsL.getD f.toNat [] = w ∧ w ≠ [] ∧ (∀ b ∈ w, alQ b = true) ∧ idxM w kindsL 0 = -1 ∧ idxM w fieldsL 0 = f ∧ w ≠ firstT ∧ w ≠ lastT := by
  have := fields_all ⟨f.toNat, by omega⟩
  dsimp only at this
  obtain ⟨k1, k2, k3, k4, k5, k6⟩ := this
  exact ⟨_, rfl, k1, List.all_eq_true.1 k2, k3, by rw [k4]; omega, k5, k6⟩
theorem stops_sg {g : UInt8} (hg : g = 61 ∨ g = 60) (t : List UInt8) : Stops 2 (g :: t) :=
  ⟨by rcases hg with rfl | rfl <;> decide, by rcases hg with rfl | rfl <;> decide, fun j h1 h2 => by omega⟩
/-- A term's first word. -/
theorem wrT_word {f n : Int} {g : UInt8} (h : okT f n g) : ∃ w u, wrT f n g = w ++ u ∧ w ≠ [] ∧ (∀ b ∈ w, alQ b = true) ∧ w ≠ firstT ∧ w ≠ lastT ∧ ∀ t, Stops 2 t → Stops 2 (u ++ t) := by
  unfold wrT
  rcases h with ⟨rfl, h1, h2, rfl⟩ | ⟨h1, h2, hg, h3, h4⟩
  · rw [if_pos (by decide)]
    obtain ⟨w, e, k1, k2, k3, k4, k5⟩ := kinds_at h1 h2
    rw [e]
    exact ⟨w, [], by simp, k1, k2, k4, k5, fun t ht => ht⟩
  · rw [if_neg (by omega)]
    obtain ⟨w, e, k1, k2, k3, k4, k5, k6⟩ := fields_at h1 h2
    rw [e]
    exact ⟨w, _, rfl, k1, k2, k5, k6, fun t _ => stops_sg hg _⟩
theorem term_wr {f n : Int} {g : UInt8} (h : okT f n g) {t : List UInt8} (ht : Stops 2 t) : termM (wrT f n g ++ t) false = ⟨f, n, g, t, false⟩ := by
  unfold wrT
  rcases h with ⟨rfl, h1, h2, rfl⟩ | ⟨h1, h2, hg, h3, h4⟩
  · rw [if_pos (by decide)]
    obtain ⟨w, e, k1, k2, k3, -, -⟩ := kinds_at h1 h2
    rw [e]
    unfold termM
    rw [word_left k1 k2 ht]
    dsimp only
    rw [k3, if_pos (by omega)]
    congr 1
    omega
  · rw [if_neg (by omega)]
    obtain ⟨w, e, k1, k2, k3, k4, -, -⟩ := fields_at h1 h2
    rw [e, List.append_assoc, List.cons_append]
    unfold termM
    rw [word_left k1 k2 (stops_sg hg _)]
    dsimp only
    rw [k3, k4, if_neg (by decide), sign_one _ g _ (by rcases hg with rfl | rfl <;> decide) (by rcases hg with rfl | rfl <;> decide)]
    dsimp only
    obtain ⟨hd, hne⟩ := dec_dig n.natAbs n.natAbs (Nat.le_refl _)
    have ha : ∀ b ∈ Lib.decDigits n.natAbs, alQ b = true := fun b hb => dig_al (hd b hb)
    have hp := dec_puM (n := n.natAbs) (by omega)
    have hl := dec_len 9 n.natAbs (by decide) (by omega)
    have h0 : (g == 0) = false := by rcases hg with rfl | rfl <;> rfl
    have hf : decide (f < 0) = false := decide_eq_false (by omega)
    have hl9 : decide (9 < (Lib.decDigits n.natAbs).length) = false := decide_eq_false (by omega)
    rcases itoa_cases n with ⟨hn, e2⟩ | ⟨hn, e2⟩
    · rw [e2, al_no hne ha _ (by decide)]
      dsimp only
      rw [word_left hne ha ht]
      dsimp only
      rw [hp, h0, hf, hl9]
      unfold minusI
      rw [if_pos rfl]
      congr 1
      simp only; omega
    · rw [e2, List.cons_append, sign_one _ 45 _ (by decide) (by decide)]
      dsimp only
      rw [word_left hne ha ht]
      dsimp only
      rw [hp, h0, hf, hl9]
      unfold minusI
      rw [if_neg (by decide)]
      congr 1
      simp only; omega
theorem rd_term {f n : Int} {g : UInt8} (h : okT f n g) {t : List UInt8} (ht : Stops 2 t) : Rd .one (wrT f n g ++ t) (.t f n g) t := by
  refine .leaf (t := wrT f n g ++ t) ?_ (term_wr h ht)
  obtain ⟨w, u, e, k1, k2, -⟩ := wrT_word h
  rw [e, List.append_assoc]
  exact al_no k1 k2 _ (by decide)
/-! Conditions. -/
theorem rk_le (op : UInt8) : rkM op ≤ 1 := by unfold rkM; split <;> decide
theorem wr_same (x : Cd) (k : Nat) (h : ∀ op a b, x = .bin op a b → rkM op ≠ k) : x.wr k = x.wr (k + 1) := by
  cases x with
  | bad => rfl
  | t f n g => rfl
  | no c => rfl
  | bin op a b =>
    have h' := h op a b rfl
    rw [Cd.wr, Cd.wr]
    unfold brM
    by_cases h1 : rkM op < k
    · rw [if_pos h1, if_pos (by omega)]
    · rw [if_neg h1, if_neg (by omega)]
/-- A side of a rank, read. -/
def RdR (x : Cd) : Prop := ∀ k t, Stops k t → Rd (nx k) (x.wr k ++ t) x t
/-- A side, read as the first one of more. -/
def RdL (x : Cd) : Prop := ∀ k t y u, k ≤ 1 → Stops (k + 1) t → Rd (.loop k x) t y u → Rd (.cond k) (x.wr k ++ t) y u
theorem rdl_of {x : Cd} (hR : RdR x) {k : Nat} (hr : ∀ op a b, x = .bin op a b → rkM op ≠ k) {t u : List UInt8} {y : Cd} (hs : Stops (k + 1) t) (hl : Rd (.loop k x) t y u) : Rd (.cond k) (x.wr k ++ t) y u := by
  rw [wr_same x k hr]
  refine .cond ?_ hl
  rw [next_nx]
  exact hR (k + 1) t hs
theorem rdr_of {x : Cd} (h : ∀ t, Stops 2 t → Rd .one (x.wr 3 ++ t) x t) (hw : ∀ k, x.wr k = x.wr 3) : RdR x := fun k t hs => by
  by_cases hk : k ≤ 2
  · rw [hw k]; exact Rd.down (h t (hs.up hk)) k hs
  · rw [hw k, nx_one (by omega)]
    refine h t ?_
    unfold Stops at hs ⊢
    split
    · trivial
    · exact ⟨hs.1, hs.2.1, fun j h1 h2 => by omega⟩
theorem rd_wr : ∀ x : Cd, x.ok → RdR x ∧ RdL x
  | .bad, h => h.elim
  | .t f n g, h => by
    have hR : RdR (.t f n g) := rdr_of (fun t ht => rd_term h ht) fun _ => rfl
    exact ⟨hR, fun k t y u _ hs hl => rdl_of hR (fun _ _ _ e => by cases e) hs hl⟩
  | .no c, h => by
    obtain ⟨ih, -⟩ := rd_wr c h
    have hR : RdR (.no c) := rdr_of (fun t ht => .not (sign_one _ 33 _ (by decide) (by decide)) (ih 3 t (ht.up (by decide)))) fun _ => rfl
    exact ⟨hR, fun k t y u _ hs hl => rdl_of hR (fun _ _ _ e => by cases e) hs hl⟩
  | .bin op a b, h => by
    obtain ⟨ho, ha, hb⟩ := h
    obtain ⟨aR, aL⟩ := rd_wr a ha
    obtain ⟨bR, -⟩ := rd_wr b hb
    have hr1 := rk_le op
    have hmem : op ∈ sgQ (rkM op) := by rcases ho with rfl | rfl <;> decide
    have h32 : op ≠ 32 := by rcases ho with rfl | rfl <;> decide
    have h0 : op ≠ 0 := by rcases ho with rfl | rfl <;> decide
    have hwr0 : (Cd.bin op a b).wr (rkM op) = a.wr (rkM op) ++ op :: b.wr (rkM op + 1) := by rw [Cd.wr]; simp [brM]
    have hwr : ∀ k, (Cd.bin op a b).wr k = brM (rkM op) k ((Cd.bin op a b).wr (rkM op)) := fun k => by rw [hwr0, Cd.wr]
    have hL : ∀ t y u, Stops (rkM op + 1) t → Rd (.loop (rkM op) (.bin op a b)) t y u → Rd (.cond (rkM op)) ((Cd.bin op a b).wr (rkM op) ++ t) y u := fun t y u hs hl => by
      rw [hwr0, List.append_assoc, List.cons_append]
      exact aL (rkM op) _ y u hr1 (stops_op hmem hr1 _) (.more (sign_one _ op _ h32 hmem) h0 (by rw [next_nx]; exact bR (rkM op + 1) t hs) hl)
    have hO : ∀ t, Stops (rkM op) t → Rd (.cond (rkM op)) ((Cd.bin op a b).wr (rkM op) ++ t) (.bin op a b) t := fun t hs => hL t _ _ (hs.up (by omega)) (.stop (hs.sign (Nat.le_refl _) hr1))
    have hO0 : ∀ t, Stops 0 t → Rd (.cond 0) ((Cd.bin op a b).wr (rkM op) ++ t) (.bin op a b) t := fun t hs => by
      have h1 := hO t (hs.up (Nat.zero_le _))
      rcases Nat.eq_zero_or_pos (rkM op) with e | e
      · rw [e] at h1 ⊢; exact h1
      · have e1 : rkM op = 1 := by omega
        rw [e1] at h1 ⊢; exact h1.lower hs
    have hU : ∀ t, Rd .one (40 :: ((Cd.bin op a b).wr (rkM op) ++ 41 :: t)) (.bin op a b) t := fun t =>
      .par (sign_one _ _ _ (by decide) (by decide)) (hO0 _ (stops_close _ _)) (sign_one _ 41 _ (by decide) (by decide)) (by decide)
    have hR : RdR (.bin op a b) := fun k t hs => by
      rw [hwr k]
      unfold brM
      by_cases hrk : rkM op < k
      · rw [if_pos hrk, List.cons_append, List.append_assoc]
        exact Rd.down (hU t) k hs
      · rw [if_neg hrk, nx_cond (by omega)]
        rcases Nat.eq_zero_or_pos k with rfl | e
        · exact hO0 t hs
        · obtain rfl : k = rkM op := by omega
          exact hO t hs
    refine ⟨hR, fun k t y u hk hs hl => ?_⟩
    by_cases hrk : rkM op = k
    · subst hrk; exact hL t y u hs hl
    · exact rdl_of hR (fun _ _ _ e => by cases e; exact hrk) hs hl
end Go.Proofs.YtenlhfmchhljdaaDoor
end

section
namespace Go.Proofs.YtenlhfmchhljdaaDoor

structure Evt where
  (k st t f at_ ln A B vk vn ok on : Int)
abbrev iD (n : Int) : D := .v (.int .i64 n)
abbrev nD (n : Nat) : D := iD (n : Int)
abbrev evD (e : Evt) : D := .agg [iD e.k, iD e.st, iD e.t, iD e.f, iD e.at_, iD e.ln, iD e.A, iD e.B, iD e.vk, iD e.vn, iD e.ok, iD e.on]
abbrev evsD (l : List Evt) : D := .sl 12 (l.map evD)
def Evt.fl (e : Evt) : List Int := [e.st, e.t, e.f, e.at_, e.ln, e.A, e.B, e.vn, e.on]
def termH (f n : Int) (g : UInt8) (e : Evt) : Bool :=
  if f < 0 then e.k == n else (g == 61 && e.fl.getD f.toNat 0 == n) || (g == 60 && decide (e.fl.getD f.toNat 0 < n))
def Cd.hold : Cd → Evt → Bool
  | .bad, _ => false
  | .t f n g, e => termH f n g e
  | .no c, e => !c.hold e
  | .bin op a b, e => if op = 124 then a.hold e || b.hold e else a.hold e && b.hold e
/-- Where it holds, from a number on. -/
def selF (c : Cd) : List Evt → Nat → List Nat
  | [], _ => []
  | e :: l, i => if c.hold e = true then i :: selF c l (i + 1) else selF c l (i + 1)
theorem selF_len (c : Cd) : ∀ (l : List Evt) (i : Nat), (selF c l i).length ≤ l.length
  | [], i => Nat.le_refl _
  | e :: l, i => by
    have := selF_len c l (i + 1)
    rw [selF]
    split <;> simp <;> omega
def cutF (w : List UInt8) (R : List Nat) : List Nat := if 0 < R.length ∧ w = firstT then R.take 1 else if 0 < R.length ∧ w = lastT then R.drop (R.length - 1) else R
def askM (l : List Evt) (text : List UInt8) : List Nat × Int :=
  if (parseM text).2.2 ≠ 0 then ([], (parseM text).2.2) else if 200 < l.length then ([], 2) else (cutF (parseM text).1 (selF (parseM text).2.1 l 0), 0)
end Go.Proofs.YtenlhfmchhljdaaDoor
end

section
namespace Go.Proofs.YtenlhfmchhljdaaDoor

theorem wordQ_three (text : List UInt8) : (wordQ text).1 = firstT ∨ (wordQ text).1 = lastT ∨ (wordQ text).1 = [] := by
  unfold wordQ
  split
  · next h => rcases h with h | h
              · exact .inl h
              · exact .inr (.inl h)
  · exact .inr (.inr rfl)
theorem wordQ_len (text : List UInt8) : (wordQ text).2.length ≤ text.length := by
  unfold wordQ
  split
  · exact (wordM_len text).1
  · exact Nat.le_refl _
theorem parse_ok {text w : List UInt8} {c : Cd} (h : parseM text = (w, c, 0)) : text.length ≤ 200 ∧ c.deep ≤ 20 ∧ c.ok ∧ w = (wordQ text).1 ∧ ∃ t, Rd (.cond 0) (wordQ text).2 c t ∧ trimM t = [] := by
  unfold parseM at h
  split at h
  · simp at h
  · next hl =>
    obtain ⟨x, s, b, h1, h2⟩ := rd_total (6 * (wordQ text).2.length + 3) (.cond 0) (wordQ text).2 false (Nat.zero_le _) (by simp only [Md.cost]; omega)
    rw [h1] at h
    dsimp only at h
    split at h
    · simp at h
    · next hb =>
      split at h
      · simp at h
      · next hd =>
        simp only [Prod.mk.injEq] at h
        obtain ⟨rfl, rfl, -⟩ := h
        simp only [Bool.or_eq_true, Bool.not_eq_true', not_or, Bool.not_eq_true, Bool.not_eq_false] at hb
        obtain ⟨rfl, hb⟩ := hb
        have hR := rd_of _ _ _ _ _ h1
        exact ⟨by omega, by omega, hR.ok trivial, rfl, s, hR, by simpa using hb⟩
theorem parse_of {text t : List UInt8} {c : Cd} (hl : text.length ≤ 200) (hR : Rd (.cond 0) (wordQ text).2 c t) (ht : trimM t = []) : parseM text = if 20 < c.deep then ([], .bad, 2) else ((wordQ text).1, c, 0) := by
  obtain ⟨x, s, b, h1, h2⟩ := rd_total (6 * (wordQ text).2.length + 3) (.cond 0) (wordQ text).2 false (Nat.zero_le _) (by simp only [Md.cost]; omega)
  have h3 : Ev (.cond 0) (wordQ text).2 false (x, s, b) := ⟨_, h1⟩
  have h4 := hR.ev.det h3
  simp only [Prod.mk.injEq] at h4
  obtain ⟨rfl, rfl, rfl⟩ := h4
  unfold parseM
  rw [if_neg (by omega), h1]
  dsimp only
  rw [ht]
  rfl
theorem parse_three {text w : List UInt8} {c : Cd} (h : parseM text = (w, c, 0)) : w = firstT ∨ w = lastT ∨ w = [] := by
  rw [(parse_ok h).2.2.2.1]; exact wordQ_three text
/-- Of what is not parsed nothing is told. -/
theorem parse_bad {text w : List UInt8} {c : Cd} {e : Int} (h : parseM text = (w, c, e)) (he : e ≠ 0) : w = [] ∧ c = .bad ∧ (e = 2 ∨ e = 4) := by
  unfold parseM at h
  split at h
  · cases h; exact ⟨rfl, rfl, .inl rfl⟩
  · obtain ⟨x, s, b, h1, h2⟩ := rd_total (6 * (wordQ text).2.length + 3) (.cond 0) (wordQ text).2 false (Nat.zero_le _) (by simp only [Md.cost]; omega)
    rw [h1] at h
    dsimp only at h
    split at h
    · cases h; exact ⟨rfl, rfl, .inr rfl⟩
    · split at h
      · cases h; exact ⟨rfl, rfl, .inl rfl⟩
      · cases h; exact absurd rfl he
/-! The plain condition. -/
def Cd.plain : Cd → Bool → Cd
  | .bad, _ => .bad
  | .t f n g, b => if b then .no (.t f n g) else .t f n g
  | .no c, b => c.plain (!b)
  | .bin op x y, b => .bin (if b then (if op = 124 then 38 else 124) else op) (x.plain b) (y.plain b)
theorem plain_ok : ∀ (c : Cd) (b : Bool), c.ok → (c.plain b).ok
  | .bad, _, h => h.elim
  | .t f n g, b, h => by cases b <;> exact h
  | .no c, b, h => plain_ok c (!b) h
  | .bin op x y, b, h => by
    refine ⟨?_, plain_ok x b h.2.1, plain_ok y b h.2.2⟩
    rcases h.1 with rfl | rfl <;> cases b <;> simp
theorem plain_hold : ∀ (c : Cd) (b : Bool) (e : Evt), c.ok → (c.plain b).hold e = (b != c.hold e)
  | .bad, _, _, h => h.elim
  | .t f n g, b, e, h => by cases b <;> simp [Cd.plain, Cd.hold]
  | .no c, b, e, h => by
    have := plain_hold c (!b) e h
    rw [Cd.plain, this, Cd.hold]
    cases b <;> cases c.hold e <;> rfl
  | .bin op x y, b, e, h => by
    have h1 := plain_hold x b e h.2.1
    have h2 := plain_hold y b e h.2.2
    rw [Cd.plain, Cd.hold, Cd.hold, h1, h2]
    rcases h.1 with rfl | rfl <;> cases b <;> cases x.hold e <;> cases y.hold e <;> rfl
theorem plain_plain : ∀ (c : Cd) (b : Bool), (c.plain b).plain false = c.plain b
  | .bad, _ => rfl
  | .t f n g, b => by cases b <;> rfl
  | .no c, b => plain_plain c (!b)
  | .bin op x y, b => by
    rw [Cd.plain, Cd.plain, plain_plain x b, plain_plain y b]; rfl
theorem plain_deep : ∀ (c : Cd) (b : Bool), (c.plain b).deep ≤ c.deep + (if b then 1 else 0)
  | .bad, b => by cases b <;> simp [Cd.plain, Cd.deep]
  | .t f n g, b => by cases b <;> simp [Cd.plain, Cd.deep]
  | .no c, b => by
    have := plain_deep c (!b)
    rw [Cd.plain, Cd.deep]
    cases b <;> simp at this ⊢ <;> omega
  | .bin op x y, b => by
    have h1 := plain_deep x b
    have h2 := plain_deep y b
    rw [Cd.plain, Cd.deep, Cd.deep]
    omega
def writeQ (w : List UInt8) (c : Cd) : List UInt8 := if w = [] then (c.plain false).wr 0 else w ++ 32 :: (c.plain false).wr 0
def plainM (text : List UInt8) : List UInt8 × Int := if (parseM text).2.2 ≠ 0 then ([], (parseM text).2.2) else (writeQ (parseM text).1 (parseM text).2.1, 0)
/-- The first word of what is written. -/
theorem wr_word : ∀ (c : Cd), c.ok → ∀ (k : Nat) (t : List UInt8), Stops 2 t → (wordM (c.wr k ++ t)).1 ≠ firstT ∧ (wordM (c.wr k ++ t)).1 ≠ lastT
  | .bad, h, _, _, _ => h.elim
  | .t f n g, h, k, t, ht => by
    obtain ⟨w, u, e, k1, k2, k3, k4, k5⟩ := wrT_word h
    rw [Cd.wr, e, List.append_assoc, word_left k1 k2 (k5 t ht)]
    exact ⟨k3, k4⟩
  | .no c, h, k, t, ht => by
    rw [Cd.wr, List.cons_append]
    exact ⟨(fun e => by cases e), (fun e => by cases e)⟩
  | .bin op a b, h, k, t, ht => by
    rw [Cd.wr]
    unfold brM
    split
    · exact ⟨(fun e => by cases e), (fun e => by cases e)⟩
    · rw [List.append_assoc]
      refine wr_word a h.2.1 _ _ ?_
      have hm : op ∈ sgQ (rkM op) := by rcases h.1 with rfl | rfl <;> decide
      exact (stops_op hm (rk_le op) _).up (by have := rk_le op; omega)
theorem wordQ_wr {w : List UInt8} {c : Cd} (hc : c.ok) (hw : w = firstT ∨ w = lastT ∨ w = []) : wordQ (writeQ w c) = if w = [] then ([], (c.plain false).wr 0) else (w, 32 :: (c.plain false).wr 0) := by
  have hp := plain_ok c false hc
  have hal : ∀ w, w = firstT ∨ w = lastT → ∀ t, wordM (w ++ 32 :: t) = (w, 32 :: t) := by
    intro w hw t
    unfold wordM
    have h1 : trimM (w ++ 32 :: t) = w ++ 32 :: t := by rcases hw with rfl | rfl <;> rfl
    have h2 : (w ++ 32 :: t).takeWhile alQ = w := by rcases hw with rfl | rfl <;> rfl
    rw [h1, h2, List.drop_left]
  unfold writeQ
  by_cases h0 : w = []
  · rw [if_pos h0, if_pos h0]
    have h1 := wr_word _ hp 0 [] trivial
    rw [List.append_nil] at h1
    unfold wordQ
    rw [if_neg (fun h => h.elim h1.1 h1.2)]
  · have hw2 : w = firstT ∨ w = lastT := by
      rcases hw with h | h | h
      · exact .inl h
      · exact .inr h
      · exact absurd h h0
    rw [if_neg h0, if_neg h0]
    unfold wordQ
    rw [hal w hw2, if_pos hw2]
theorem parse_writeQ {w : List UInt8} {c : Cd} (hc : c.ok) (hd : c.deep ≤ 20) (hw : w = firstT ∨ w = lastT ∨ w = []) (hl : (writeQ w c).length ≤ 200) : parseM (writeQ w c) = (w, c.plain false, 0) := by
  have hp := plain_ok c false hc
  have h1 := wordQ_wr hc hw
  have hR : Rd (.cond 0) ((c.plain false).wr 0) (c.plain false) [] := by
    have := (rd_wr _ hp).1 0 [] trivial
    rwa [List.append_nil] at this
  have hdp : (c.plain false).deep ≤ 20 := by
    have := plain_deep c false
    simp only [Bool.false_eq_true, if_false] at this
    omega
  have h2 : Rd (.cond 0) (wordQ (writeQ w c)).2 (c.plain false) [] := by
    rw [h1]; split
    · exact hR
    · exact hR.blank
  rw [parse_of hl h2 rfl, if_neg (by omega), h1]
  split
  · next h => rw [h]
  · rfl
theorem sel_plain (c : Cd) (hc : c.ok) : ∀ (l : List Evt) (i : Nat), selF (c.plain false) l i = selF c l i
  | [], _ => rfl
  | e :: l, i => by
    rw [selF, selF, sel_plain c hc l (i + 1), plain_hold c false e hc]
    simp
/-- The plain question asks the same; asked plainly again it is the same text. -/
theorem plain_law (l : List Evt) (text s : List UInt8) (h : plainM text = (s, 0)) :
    ((askM l s).2 = 2 ∨ (plainM s).2 = 2 → 200 < s.length ∨ 200 < l.length) ∧ (¬ ((askM l s).2 = 2 ∨ (plainM s).2 = 2) → askM l text = askM l s ∧ plainM s = (s, 0)) := by
  unfold plainM at h
  split at h
  · next he => simp only [Prod.mk.injEq] at h; exact absurd h.2 he
  · next he =>
    simp only [Prod.mk.injEq, and_true] at h
    rcases hp : parseM text with ⟨w, c, e⟩
    rw [hp] at he h
    dsimp only at he h
    have he0 : e = 0 := by simpa using he
    subst he0
    obtain ⟨-, hd, hc, -, -⟩ := parse_ok hp
    have hw := parse_three hp
    by_cases hl : 200 < s.length
    · have hs : parseM s = ([], .bad, 2) := by unfold parseM; rw [if_pos hl]
      refine ⟨fun _ => .inl hl, fun hn => absurd (.inr ?_) hn⟩
      unfold plainM; rw [hs]; rfl
    · subst h
      have hs := parse_writeQ hc hd hw (by omega)
      have hask : askM l text = askM l (writeQ w c) := by
        unfold askM
        rw [hp, hs]
        dsimp only
        rw [sel_plain c hc]
      have hpl : plainM (writeQ w c) = (writeQ w c, 0) := by
        unfold plainM
        rw [hs]
        dsimp only
        rw [if_neg (by simp)]
        unfold writeQ
        rw [plain_plain]
      refine ⟨fun h => ?_, fun _ => ⟨hask, hpl⟩⟩
      rw [hpl] at h
      rcases h with h | h
      · right
        unfold askM at h
        rw [hs] at h
        dsimp only at h
        rw [if_neg (by simp)] at h
        split at h
        · assumption
        · cases h
      · cases h
end Go.Proofs.YtenlhfmchhljdaaDoor
end

section
namespace Go.Proofs.YtenlhfmchhljdaaDoor

theorem wordM_cons {c : UInt8} (t : List UInt8) (h1 : c ≠ 32) (h2 : alQ c = false) : (wordM (c :: t)).1 = [] := by
  unfold wordM trimM
  rw [List.dropWhile_cons, if_neg (by simpa using h1), List.takeWhile_cons, h2]; rfl
theorem wordQ_cons {c : UInt8} (t : List UInt8) (h1 : c ≠ 32) (h2 : alQ c = false) : wordQ (c :: t) = ([], c :: t) := by
  unfold wordQ
  rw [wordM_cons t h1 h2, if_neg (by decide)]
theorem trim_trim (s : List UInt8) : trimM (trimM s) = trimM s := by
  induction s with
  | nil => rfl
  | cons c s ih =>
    unfold trimM at ih ⊢
    rw [List.dropWhile_cons]
    split
    · exact ih
    · next h => rw [List.dropWhile_cons, if_neg h]
theorem sign_zero {set s t : List UInt8} (h0 : (0 : UInt8) ∉ set) (h : signM set s false = (0, t)) : t = trimM s := by
  unfold signM at h
  split at h
  · next e => cases h; exact e.symm
  · next c u e =>
    split at h
    · next hh =>
      simp only [Prod.mk.injEq] at h
      rw [h.1] at hh
      exact absurd (by simpa using hh.2) h0
    · cases h; exact e.symm
theorem first_bad : ∀ w, w = firstT ∨ w = lastT → idxM w kindsL 0 = -1 ∧ idxM w fieldsL 0 = -1 := by
  rw [kindsL_eq, fieldsL_eq]
  intro w h
  rcases h with rfl | rfl
  · exact ⟨by decide +kernel, by decide +kernel⟩
  · exact ⟨by decide +kernel, by decide +kernel⟩
theorem rd_word {m : Md} {s t : List UInt8} {x : Cd} (h : Rd m s x t) : (∀ k c, m ≠ .loop k c) → ¬ ((wordM s).1 = firstT ∨ (wordM s).1 = lastT) := by
  induction h with
  | @cond k s t u x y _ _ ih _ => exact fun _ => ih (by intro j c; cases k <;> (intro e; cases e))
  | @stop k s t x h => exact fun h => absurd rfl (h _ _)
  | @more k s t u v x y z c h hc _ _ _ _ => exact fun h => absurd rfl (h _ _)
  | @not s t u x h _ _ =>
    intro _ hw
    obtain ⟨-, e⟩ := sign_mem h (by decide)
    unfold wordM at hw
    rw [e, List.takeWhile_cons] at hw
    dsimp only at hw
    exact absurd hw (by first | (rw [if_neg (by decide : ¬ alQ 33 = true)]; decide) | (rw [if_neg (by decide : ¬ alQ 40 = true)]; decide))
  | @par s u v w x c h _ _ _ _ =>
    intro _ hw
    obtain ⟨-, e⟩ := sign_mem h (by decide)
    unfold wordM at hw
    rw [e, List.takeWhile_cons] at hw
    dsimp only at hw
    exact absurd hw (by first | (rw [if_neg (by decide : ¬ alQ 33 = true)]; decide) | (rw [if_neg (by decide : ¬ alQ 40 = true)]; decide))
  | @leaf s t v f n g h h2 =>
    intro _ hw
    have e := sign_zero (by decide) h
    have hw2 : (wordM t).1 = (wordM s).1 := by unfold wordM; rw [e, trim_trim]
    rw [← hw2] at hw
    obtain ⟨k1, k2⟩ := first_bad _ hw
    unfold termM at h2
    rw [k1, k2, if_neg (by decide)] at h2
    injection h2 with _ _ _ _ e5
    simp at e5
def parT (x : List UInt8) : List UInt8 := [40] ++ x ++ [41]
theorem parT_eq (x : List UInt8) : parT x = 40 :: (x ++ 41 :: []) := by simp [parT]
theorem rd_par {x t : List UInt8} {c : Cd} (h : Rd (.cond 0) (40 :: (x ++ 41 :: [])) c t) : ¬ ((wordM x).1 = firstT ∨ (wordM x).1 = lastT) := by
  have key : ∀ {c t}, Rd .one (40 :: (x ++ 41 :: [])) c t → ¬ ((wordM x).1 = firstT ∨ (wordM x).1 = lastT) := by
    intro c t h
    have hs := sign_one [33, 40] 40 (x ++ 41 :: []) (by decide) (by decide)
    cases h with
    | not h _ => rw [hs] at h; cases h
    | par h h3 _ _ =>
      rw [hs] at h
      cases h
      have := rd_word h3 (by intro k c e; cases e)
      rwa [word_app] at this
    | leaf h _ => rw [hs] at h; cases h
  cases h with
  | cond h _ =>
    change Rd (.cond 1) _ _ _ at h
    cases h with
    | cond h _ => exact key h
/-- What is right by itself and in brackets. -/
theorem par_ok {x : List UInt8} (h : (parseM x).2.2 = 0) (hp : (parseM (parT x)).2.2 = 0) : ∃ c t, c.ok ∧ Rd (.cond 0) x c t ∧ trimM t = [] := by
  rcases hx : parseM x with ⟨w, c, e⟩
  rcases hq : parseM (parT x) with ⟨w', c', e'⟩
  rw [hx] at h
  rw [hq] at hp
  obtain rfl : e = 0 := h
  obtain rfl : e' = 0 := hp
  obtain ⟨-, -, hc, -, t, hR, ht⟩ := parse_ok hx
  obtain ⟨-, -, -, -, t', hR', -⟩ := parse_ok hq
  rw [parT_eq, wordQ_cons _ (by decide) (by decide)] at hR'
  have hn := rd_par hR'
  have e : wordQ x = ([], x) := by unfold wordQ; rw [if_neg hn]
  rw [e] at hR
  exact ⟨c, t, hc, hR, ht⟩
theorem ask_ok {l : List Evt} {t : List UInt8} (h : (askM l t).2 = 0) : ∃ w c, parseM t = (w, c, 0) ∧ l.length ≤ 200 ∧ (askM l t).1 = cutF w (selF c l 0) := by
  rcases hp : parseM t with ⟨w, c, e⟩
  unfold askM at h ⊢
  rw [hp] at h ⊢
  dsimp only at h ⊢
  split at h
  · next he => exact absurd h he
  · next he =>
    have e0 : e = 0 := by simpa using he
    subst e0
    split at h
    · cases h
    · next hl => exact ⟨w, c, rfl, by omega, by rw [if_neg (by simp), if_neg hl]⟩
theorem cutF_nil (R : List Nat) : cutF [] R = R := by
  unfold cutF; rw [if_neg (fun h => by cases h.2), if_neg (fun h => by cases h.2)]
theorem ask_of {l : List Evt} {t u : List UInt8} {c : Cd} (hw : wordQ t = ([], t)) (hR : Rd (.cond 0) t c u) (h : (askM l t).2 = 0) : (askM l t).1 = selF c l 0 := by
  obtain ⟨w, c', hp, -, ha⟩ := ask_ok h
  obtain ⟨-, -, -, e, t', hR', -⟩ := parse_ok hp
  rw [hw] at e hR'
  subst e
  obtain ⟨rfl, -⟩ := hR.det hR'
  rw [ha, cutF_nil]
theorem rd_op {k : Nat} {c : UInt8} {xa xb : Cd} {s t u : List UInt8} (hk : k ≤ 1) (hc : c ∈ sgQ k) (hl : Rd .one s xa (c :: t)) (hr : Rd .one t xb u) (hs : Stops 0 u) : Rd (.cond 0) s (.bin c xa xb) u := by
  have h0 := (sg_mem hc).1
  have h32 : c ≠ 32 := by rintro rfl; simp at h0
  have hc0 : c ≠ 0 := by rintro rfl; simp at h0
  have h1 := Rd.down hl (k + 1) (stops_op hc hk t)
  have h2 := Rd.down hr (k + 1) (hs.up (Nat.zero_le _))
  have h3 : Rd (.cond k) s (.bin c xa xb) u := .cond (by rw [next_nx]; exact h1) (.more (sign_one _ c t h32 hc) hc0 (by rw [next_nx]; exact h2) (.stop (hs.sign (Nat.zero_le _) hk)))
  rcases Nat.eq_zero_or_pos k with rfl | e
  · exact h3
  · obtain rfl : k = 1 := by omega
    exact h3.lower hs
theorem sel_mem (c : Cd) : ∀ (l : List Evt) (i k : Nat), i + k ∈ selF c l i ↔ ∃ h : k < l.length, c.hold l[k] = true
  | [], i, k => by simp [selF]
  | e :: l, i, k => by
    have ih := sel_mem c l (i + 1)
    have hlow : ∀ j, j ∈ selF c l (i + 1) → i + 1 ≤ j := by
      have : ∀ (l : List Evt) (i j : Nat), j ∈ selF c l i → i ≤ j := by
        intro l
        induction l with
        | nil => intro i j h; simp [selF] at h
        | cons e l ih =>
          intro i j h
          rw [selF] at h
          split at h
          · rcases List.mem_cons.1 h with rfl | h
            · exact Nat.le_refl _
            · have := ih _ _ h; omega
          · have := ih _ _ h; omega
      exact fun j h => this l _ _ h
    rw [selF]
    cases k with
    | zero =>
      simp only [Nat.add_zero, List.length_cons, Nat.zero_lt_succ, List.getElem_cons_zero, exists_true_left]
      constructor
      · intro h
        split at h
        · assumption
        · have := hlow _ h; omega
      · intro h; rw [if_pos h]; simp
    | succ k =>
      have := ih k
      rw [show i + 1 + k = i + (k + 1) from by omega] at this
      simp only [List.length_cons, List.getElem_cons_succ, Nat.succ_lt_succ_iff]
      constructor
      · intro h
        apply this.1
        split at h
        · rcases List.mem_cons.1 h with h | h
          · omega
          · exact h
        · exact h
      · intro h
        have := this.2 h
        split
        · exact List.mem_cons_of_mem _ this
        · exact this
theorem sel_has (c : Cd) (l : List Evt) (k : Nat) (h : k < l.length) : decide (k ∈ selF c l 0) = c.hold l[k] := by
  have := sel_mem c l 0 k
  rw [Nat.zero_add] at this
  cases hb : c.hold l[k] with
  | true => exact decide_eq_true (this.2 ⟨h, hb⟩)
  | false => exact decide_eq_false fun hm => by obtain ⟨_, h2⟩ := this.1 hm; rw [hb] at h2; cases h2
def bothT (x y : List UInt8) : List UInt8 := [40] ++ x ++ [41, 38, 40] ++ y ++ [41]
def eithT (x y : List UInt8) : List UInt8 := [40] ++ x ++ [41, 124, 40] ++ y ++ [41]
def noneT (x : List UInt8) : List UInt8 := [33, 40] ++ x ++ [41]
theorem boole_law (l : List Evt) (x y : List UInt8) (hx : (parseM x).2.2 = 0) (hy : (parseM y).2.2 = 0) (h1 : (askM l (parT x)).2 = 0) (h2 : (askM l (parT y)).2 = 0) (h3 : (askM l (bothT x y)).2 = 0) (h4 : (askM l (eithT x y)).2 = 0) (h5 : (askM l (noneT x)).2 = 0) :
    ∃ P Q : Nat → Bool, ∀ k, k < l.length → decide (k ∈ (askM l (parT x)).1) = P k ∧ decide (k ∈ (askM l (parT y)).1) = Q k ∧ decide (k ∈ (askM l (bothT x y)).1) = (P k && Q k) ∧ decide (k ∈ (askM l (eithT x y)).1) = (P k || Q k) ∧ decide (k ∈ (askM l (noneT x)).1) = !P k := by
  obtain ⟨w1, c1, hp1, -, -⟩ := ask_ok h1
  obtain ⟨w2, c2, hp2, -, -⟩ := ask_ok h2
  obtain ⟨cx, tx, okx, Rx, htx⟩ := par_ok hx (by rw [hp1])
  obtain ⟨cy, ty, oky, Ry, hty⟩ := par_ok hy (by rw [hp2])
  have bx := Rx.between htx
  have by_ := Ry.between hty
  have e1 : (askM l (parT x)).1 = selF cx l 0 := ask_of (u := []) (by rw [parT_eq]; exact wordQ_cons _ (by decide) (by decide)) (by rw [parT_eq]; exact Rd.down (bx []) 0 trivial) h1
  have e2 : (askM l (parT y)).1 = selF cy l 0 := ask_of (u := []) (by rw [parT_eq]; exact wordQ_cons _ (by decide) (by decide)) (by rw [parT_eq]; exact Rd.down (by_ []) 0 trivial) h2
  have t3 : bothT x y = 40 :: (x ++ 41 :: (38 :: (40 :: (y ++ 41 :: [])))) := by simp [bothT]
  have t4 : eithT x y = 40 :: (x ++ 41 :: (124 :: (40 :: (y ++ 41 :: [])))) := by simp [eithT]
  have t5 : noneT x = 33 :: (40 :: (x ++ 41 :: [])) := by simp [noneT]
  have e3 : (askM l (bothT x y)).1 = selF (.bin 38 cx cy) l 0 := ask_of (u := []) (by rw [t3]; exact wordQ_cons _ (by decide) (by decide)) (by rw [t3]; exact rd_op (k := 1) (by decide) (by decide) (bx _) (by_ []) trivial) h3
  have e4 : (askM l (eithT x y)).1 = selF (.bin 124 cx cy) l 0 := ask_of (u := []) (by rw [t4]; exact wordQ_cons _ (by decide) (by decide)) (by rw [t4]; exact rd_op (k := 0) (by decide) (by decide) (bx _) (by_ []) trivial) h4
  have e5 : (askM l (noneT x)).1 = selF (.no cx) l 0 := ask_of (u := []) (by rw [t5]; exact wordQ_cons _ (by decide) (by decide)) (by rw [t5]; exact Rd.down (.not (sign_one _ 33 _ (by decide) (by decide)) (bx [])) 0 trivial) h5
  rw [e1, e2, e3, e4, e5]
  refine ⟨fun k => if h : k < l.length then cx.hold l[k] else false, fun k => if h : k < l.length then cy.hold l[k] else false, fun k hk => ?_⟩
  rw [sel_has _ _ _ hk, sel_has _ _ _ hk, sel_has _ _ _ hk, sel_has _ _ _ hk, sel_has _ _ _ hk]
  exact ⟨by simp [hk], by simp [hk], by simp [hk, Cd.hold], by simp [hk, Cd.hold], by simp [hk, Cd.hold]⟩
/-! The first and the last. -/
theorem sel_app (c : Cd) (e : Evt) : ∀ (l : List Evt) (i : Nat), selF c (l ++ [e]) i = selF c l i ++ (if c.hold e = true then [i + l.length] else [])
  | [], i => by
    rw [List.nil_append, selF, selF, selF]
    split <;> simp
  | x :: l, i => by
    have := sel_app c e l (i + 1)
    rw [List.cons_append, selF, selF, this, List.length_cons, show i + 1 + l.length = i + (l.length + 1) from by omega]
    split <;> simp
theorem sel_shift (c : Cd) : ∀ (l : List Evt) (i : Nat), selF c l (i + 1) = (selF c l i).map (· + 1)
  | [], i => rfl
  | x :: l, i => by
    rw [selF, selF, sel_shift c l (i + 1)]
    split <;> simp
theorem sel_last_lt (c : Cd) (l : List Evt) : ∀ m ∈ selF c l 0, m < l.length := fun m hm => by
  have := (sel_mem c l 0 m).1 (by simpa using hm)
  exact this.1
theorem sel_rev (c : Cd) (l : List Evt) : (selF c l 0 = [] → selF c l.reverse 0 = []) ∧ ∀ O m, selF c l 0 = O ++ [m] → ∃ O', selF c l.reverse 0 = (l.length - 1 - m) :: O' := by
  induction hn : l.length generalizing l with
  | zero =>
    obtain rfl := List.length_eq_zero_iff.1 hn
    exact ⟨fun _ => rfl, fun O m h => by simp [selF] at h⟩
  | succ n ih =>
    obtain ⟨l', e, rfl⟩ : ∃ l' e, l = l' ++ [e] := ⟨l.dropLast, l.getLast (by rintro rfl; simp at hn), (List.dropLast_concat_getLast _).symm⟩
    have hl : l'.length = n := by simpa using hn
    obtain ⟨ih1, ih2⟩ := ih l' hl
    rw [sel_app, List.reverse_append, List.reverse_singleton, List.singleton_append, selF, sel_shift]
    cases hb : c.hold e with
    | true =>
      simp only [if_true, Nat.zero_add]
      refine ⟨fun h => by simp at h, fun O m h => ?_⟩
      have := List.append_inj_right' h rfl
      obtain rfl : l'.length = m := by simpa using this
      exact ⟨_, by rw [show n + 1 - 1 - l'.length = 0 from by omega]⟩
    | false =>
      simp only [Bool.false_eq_true, if_false, List.append_nil]
      refine ⟨fun h => by rw [ih1 h]; rfl, fun O m h => ?_⟩
      obtain ⟨O', h2⟩ := ih2 O m h
      have hm : m < l'.length := sel_last_lt c l' m (by rw [h]; simp)
      refine ⟨O'.map (· + 1), ?_⟩
      rw [h2, List.map_cons]
      congr 1
      omega
def firT (x : List UInt8) : List UInt8 := [102, 105, 114, 115, 116, 32, 40] ++ x ++ [41]
def lasT (x : List UInt8) : List UInt8 := [108, 97, 115, 116, 40] ++ x ++ [41]
theorem ask_of2 {l : List Evt} {t s u w : List UInt8} {c : Cd} (hw : wordQ t = (w, s)) (hR : Rd (.cond 0) s c u) (h : (askM l t).2 = 0) : (askM l t).1 = cutF w (selF c l 0) := by
  obtain ⟨w', c', hp, -, ha⟩ := ask_ok h
  obtain ⟨-, -, -, e, t', hR', -⟩ := parse_ok hp
  rw [hw] at e hR'
  subst e
  obtain ⟨rfl, -⟩ := hR.det hR'
  exact ha
/-- What is asked first and last is of all. -/
theorem ends_law (l : List Evt) (x : List UInt8) (hx : (parseM x).2.2 = 0) (h1 : (askM l (parT x)).2 = 0) (h2 : (askM l (firT x)).2 = 0) (h3 : (askM l (lasT x)).2 = 0) (h4 : (askM l.reverse (firT x)).2 = 0) :
    ((askM l (parT x)).1 = [] ∧ (askM l (firT x)).1 = [] ∧ (askM l (lasT x)).1 = [] ∧ (askM l.reverse (firT x)).1 = []) ∨
    ∃ (u m : Nat) (R : List Nat), (askM l (parT x)).1 = R ∧ R.length ≤ l.length ∧ R[0]? = some u ∧ 0 < R.length ∧ R[R.length - 1]? = some m ∧ m < l.length ∧ (askM l (firT x)).1 = [u] ∧ (askM l (lasT x)).1 = [m] ∧ (askM l.reverse (firT x)).1 = [l.length - 1 - m] := by
  obtain ⟨w1, c1, hp1, -, -⟩ := ask_ok h1
  obtain ⟨cx, tx, okx, Rx, htx⟩ := par_ok hx (by rw [hp1])
  have bx := Rx.between htx []
  have dx : Rd (.cond 0) (40 :: (x ++ 41 :: [])) cx [] := Rd.down bx 0 trivial
  have e1 : (askM l (parT x)).1 = selF cx l 0 := ask_of (u := []) (by rw [parT_eq]; exact wordQ_cons _ (by decide) (by decide)) (by rw [parT_eq]; exact dx) h1
  have wf : wordQ (firT x) = (firstT, 32 :: (40 :: (x ++ 41 :: []))) := by
    have e : firT x = 102 :: 105 :: 114 :: 115 :: 116 :: 32 :: 40 :: (x ++ 41 :: []) := by simp [firT]
    rw [e]; rfl
  have wl : wordQ (lasT x) = (lastT, 40 :: (x ++ 41 :: [])) := by
    have e : lasT x = 108 :: 97 :: 115 :: 116 :: 40 :: (x ++ 41 :: []) := by simp [lasT]
    rw [e]; rfl
  have e2 := ask_of2 (l := l) wf dx.blank h2
  have e3 := ask_of2 (l := l) wl dx h3
  have e4 := ask_of2 (l := l.reverse) wf dx.blank h4
  obtain ⟨r1, r2⟩ := sel_rev cx l
  have hlt := sel_last_lt cx l
  have hln := selF_len cx l 0
  rw [e1, e2, e3, e4]
  generalize selF cx l 0 = R at *
  by_cases h0 : R = []
  · subst h0
    rw [r1 rfl]
    exact .inl ⟨rfl, rfl, rfl, rfl⟩
  · right
    obtain ⟨O, m, rfl⟩ : ∃ O m, R = O ++ [m] := ⟨R.dropLast, R.getLast h0, (List.dropLast_concat_getLast _).symm⟩
    obtain ⟨O', h5⟩ := r2 O m rfl
    rw [h5]
    obtain ⟨u, R', hu⟩ : ∃ u R', O ++ [m] = u :: R' := by cases O <;> simp
    refine ⟨u, m, _, rfl, hln, by rw [hu]; rfl, by simp, by simp, hlt m (by simp), ?_, ?_, ?_⟩
    · unfold cutF; rw [hu, if_pos ⟨by simp, rfl⟩]; rfl
    · unfold cutF; rw [if_neg (fun h => by cases h.2), if_pos ⟨by simp, rfl⟩]; simp
    · unfold cutF; rw [if_pos ⟨by simp, rfl⟩]; rfl
end Go.Proofs.YtenlhfmchhljdaaDoor
end
