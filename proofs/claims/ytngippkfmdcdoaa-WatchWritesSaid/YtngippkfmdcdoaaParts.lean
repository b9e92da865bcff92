/-
  What the package watch computes, in plain Lean.
-/
import Derived.Test.YtngippkfmdcdoaaEv
namespace Go.Proofs.Ytngippkfmdcdoaa

def Ev.isRW (e : Ev) : Bool := e.k == 3 || e.k == 4
def Ev.inSlot (e : Ev) (c p : Int) : Bool := e.isRW && (e.A == c && e.B == p)
def Ev.wr (e : Ev) (c p : Int) : Bool := e.inSlot c p && e.k == 4

def chk (n : Nat) (i : Int) : Int := if 200 < (n : Int) then 2 else if i < 0 ∨ n < i then 1 else 0

theorem chk_zero {n : Nat} {i : Int} (h : chk n i = 0) : 0 ≤ i ∧ i ≤ n ∧ n ≤ 200 := by
  unfold chk at h
  split at h
  · omega
  · split at h <;> omega
theorem chk_of {n : Nat} {i : Int} (h1 : 0 ≤ i) (h2 : i ≤ n) (h3 : n ≤ 200) : chk n i = 0 := by
  unfold chk
  rw [if_neg (by omega), if_neg (by omega)]
theorem chk_two {n : Nat} (i : Int) (h : 200 < n) : chk n i = 2 := by
  unfold chk
  rw [if_pos (by omega)]

/-- The first place from k on, of m places. -/
def firstFrom (p : Nat → Bool) : Nat → Nat → Option Nat
  | _, 0 => none
  | k, m + 1 => if p k then some k else firstFrom p (k + 1) m

/-- The last place below k. -/
def lastBelow (p : Nat → Bool) : Nat → Option Nat
  | 0 => none
  | k + 1 => if p k then some k else lastBelow p k

theorem firstFrom_some {p : Nat → Bool} {k m j : Nat} (h1 : k ≤ j) (h2 : j < k + m) (h3 : ∀ x, k ≤ x → x < j → p x = false) (h4 : p j = true) : firstFrom p k m = some j := by
  induction m generalizing k with
  | zero => omega
  | succ m ih =>
    unfold firstFrom
    by_cases e : k = j
    · subst e; simp [h4]
    · rw [if_neg (by rw [h3 k (by omega) (by omega)]; simp)]
      exact ih (by omega) (by omega) (fun x a b => h3 x (by omega) b)

theorem firstFrom_none {p : Nat → Bool} {k m : Nat} (h3 : ∀ x, k ≤ x → x < k + m → p x = false) : firstFrom p k m = none := by
  induction m generalizing k with
  | zero => rfl
  | succ m ih =>
    unfold firstFrom
    rw [if_neg (by rw [h3 k (by omega) (by omega)]; simp)]
    exact ih (fun x a b => h3 x (by omega) (by omega))

theorem firstFrom_eq {p : Nat → Bool} {k m j : Nat} (h : firstFrom p k m = some j) : k ≤ j ∧ j < k + m ∧ p j = true ∧ ∀ x, k ≤ x → x < j → p x = false := by
  induction m generalizing k with
  | zero => simp [firstFrom] at h
  | succ m ih =>
    unfold firstFrom at h
    split at h
    · next hk =>
      simp only [Option.some.injEq] at h
      subst h
      exact ⟨Nat.le_refl _, by omega, hk, fun x a b => by omega⟩
    · next hk =>
      obtain ⟨a, b, c, d⟩ := ih h
      refine ⟨by omega, by omega, c, fun x hx hy => ?_⟩
      by_cases e : x = k
      · subst e; simpa using hk
      · exact d x (by omega) hy

theorem firstFrom_eq_none {p : Nat → Bool} {k m : Nat} (h : firstFrom p k m = none) : ∀ x, k ≤ x → x < k + m → p x = false := by
  induction m generalizing k with
  | zero => intro x a b; omega
  | succ m ih =>
    unfold firstFrom at h
    split at h
    · cases h
    · next hk =>
      intro x a b
      by_cases e : x = k
      · subst e; simpa using hk
      · exact ih h x (by omega) (by omega)

theorem lastBelow_some {p : Nat → Bool} {k j : Nat} (h2 : j < k) (h3 : ∀ x, j < x → x < k → p x = false) (h4 : p j = true) : lastBelow p k = some j := by
  induction k with
  | zero => omega
  | succ k ih =>
    unfold lastBelow
    by_cases e : j = k
    · subst e; simp [h4]
    · rw [if_neg (by rw [h3 k (by omega) (by omega)]; simp)]
      exact ih (by omega) (fun x a b => h3 x a (by omega))

theorem lastBelow_none {p : Nat → Bool} {k : Nat} (h3 : ∀ x, x < k → p x = false) : lastBelow p k = none := by
  induction k with
  | zero => rfl
  | succ k ih =>
    unfold lastBelow
    rw [if_neg (by rw [h3 k (by omega)]; simp)]
    exact ih (fun x b => h3 x (by omega))

theorem lastBelow_eq {p : Nat → Bool} {k j : Nat} (h : lastBelow p k = some j) : j < k ∧ p j = true ∧ ∀ x, j < x → x < k → p x = false := by
  induction k with
  | zero => simp [lastBelow] at h
  | succ k ih =>
    unfold lastBelow at h
    split at h
    · next hk =>
      simp only [Option.some.injEq] at h
      subst h
      exact ⟨by omega, hk, fun x a b => by omega⟩
    · next hk =>
      obtain ⟨a, b, c⟩ := ih h
      refine ⟨by omega, b, fun x hx hy => ?_⟩
      by_cases e : x = k
      · subst e; simpa using hk
      · exact c x hx (by omega)

theorem lastBelow_eq_none {p : Nat → Bool} {k : Nat} (h : lastBelow p k = none) : ∀ x, x < k → p x = false := by
  induction k with
  | zero => intro x a; omega
  | succ k ih =>
    unfold lastBelow at h
    split at h
    · cases h
    · next hk =>
      intro x a
      by_cases e : x = k
      · subst e; simpa using hk
      · exact ih h x (by omega)

def at_ (l : List Ev) (i : Nat) : Ev := l.getD i .z

/-- Last. -/
def lastM (l : List Ev) (c p i : Int) : Int × Bool × Int :=
  if chk l.length i = 0 then
    match lastBelow (fun j => (at_ l j).wr c p) i.toNat with
    | some j => (j, true, 0)
    | none => (0, false, 0)
  else (0, false, chk l.length i)

/-- Value. -/
def valueM (l : List Ev) (c p i : Int) : (Int × Int) × Bool × Int :=
  if chk l.length i = 0 then
    match lastBelow (fun j => (at_ l j).inSlot c p) i.toNat with
    | some j => (((at_ l j).v1, (at_ l j).v2), true, 0)
    | none =>
      match firstFrom (fun j => (at_ l j).inSlot c p) i.toNat (l.length - i.toNat) with
      | some j => (if (at_ l j).k == 4 then ((at_ l j).o1, (at_ l j).o2) else ((at_ l j).v1, (at_ l j).v2), true, 0)
      | none => ((0, 0), false, 0)
  else ((0, 0), false, chk l.length i)

/-- Writes. -/
def writesUpto (l : List Ev) (c p : Int) (k : Nat) : List Int := ((List.range k).filter fun j => (at_ l j).wr c p).map Int.ofNat
def writesM (l : List Ev) (c p : Int) : List Int × Int := if chk l.length 0 = 0 then (writesUpto l c p l.length, 0) else ([], chk l.length 0)

/-- What an event tells that was in its slot. -/
def Ev.told (e : Ev) : Int × Int := if e.k == 4 then (e.o1, e.o2) else (e.v1, e.v2)
/-- What is known of a slot ahead of i. -/
def known (l : List Ev) (i : Nat) (c p : Int) : Option (Int × Int) :=
  match lastBelow (fun j => (at_ l j).inSlot c p) i with
  | some j => some ((at_ l j).v1, (at_ l j).v2)
  | none => none
def bad (l : List Ev) (i : Nat) : Bool :=
  (at_ l i).isRW && match known l i (at_ l i).A (at_ l i).B with
    | some v => decide (v ≠ (at_ l i).told)
    | none => false
def wholeM (l : List Ev) : Int × Bool × Int :=
  if chk l.length 0 = 0 then
    match firstFrom (bad l) 0 l.length with
    | some j => (j, true, 0)
    | none => (0, false, 0)
  else (0, false, chk l.length 0)
end Go.Proofs.Ytngippkfmdcdoaa
