/-
  What the walks of the package walk compute, in plain Lean: the first place ahead, the last place behind, the top of a call.
-/
namespace Go.Proofs.Ytdnheoelmcmbmaa

structure Mk where
  t : Int
  d : Int
  l : Int
deriving DecidableEq

abbrev Mk.z : Mk := ⟨0, 0, 0⟩

def reachedB (a b : Mk) (how : Int) : Bool :=
  if how = 1 then true else if a.t ≠ b.t then false else if how = 2 then decide (b.d ≤ a.d) else if how = 3 then decide (b.d < a.d)
  else decide (b.d < a.d) || (decide (b.d = a.d) && decide (b.l ≠ a.l))

def chk (n : Nat) (i how : Int) : Int := if 200 < (n : Int) then 2 else if i < 0 ∨ n ≤ i ∨ how < 1 ∨ 4 < how then 1 else 0

theorem chk_zero {n : Nat} {i how : Int} (h : chk n i how = 0) : 0 ≤ i ∧ i < n ∧ n ≤ 200 ∧ 1 ≤ how ∧ how ≤ 4 := by
  unfold chk at h
  split at h
  · omega
  · split at h <;> omega

theorem chk_of {n : Nat} {i how : Int} (h1 : 0 ≤ i) (h2 : i < n) (h3 : n ≤ 200) (h4 : 1 ≤ how) (h5 : how ≤ 4) : chk n i how = 0 := by
  unfold chk
  rw [if_neg (by omega), if_neg (by omega)]

/-- The first place from k on, of m places. -/
def firstFrom (p : Nat → Bool) : Nat → Nat → Option Nat
  | _, 0 => none
  | k, m + 1 => if p k then some k else firstFrom p (k + 1) m

/-- The last place below k. -/
def lastBelow (p : Nat → Bool) : Nat → Option Nat
  | 0 => none
  | k + 1 => if p k then some k else lastBelow p k

theorem firstFrom_some {p : Nat → Bool} {k m j : Nat} (h1 : k ≤ j) (h2 : j < k + m) (h3 : ∀ x, k ≤ x → x < j → p x = false) (h4 : p j = true) : firstFrom p k m = some j := by
  induction m generalizing k with
  | zero => omega
  | succ m ih =>
    unfold firstFrom
    by_cases e : k = j
    · subst e; simp [h4]
    · rw [if_neg (by rw [h3 k (by omega) (by omega)]; simp)]
      exact ih (by omega) (by omega) (fun x a b => h3 x (by omega) b)

theorem firstFrom_none {p : Nat → Bool} {k m : Nat} (h3 : ∀ x, k ≤ x → x < k + m → p x = false) : firstFrom p k m = none := by
  induction m generalizing k with
  | zero => rfl
  | succ m ih =>
    unfold firstFrom
    rw [if_neg (by rw [h3 k (by omega) (by omega)]; simp)]
    exact ih (fun x a b => h3 x (by omega) (by omega))

theorem firstFrom_eq {p : Nat → Bool} {k m j : Nat} (h : firstFrom p k m = some j) : k ≤ j ∧ j < k + m ∧ p j = true ∧ ∀ x, k ≤ x → x < j → p x = false := by
  induction m generalizing k with
  | zero => simp [firstFrom] at h
  | succ m ih =>
    unfold firstFrom at h
    by_cases e : p k = true
    · rw [if_pos e] at h
      obtain rfl : k = j := by simpa using h
      exact ⟨by omega, by omega, e, fun x a b => by omega⟩
    · rw [if_neg e] at h
      have e' : p k = false := by simpa using e
      obtain ⟨a, b, c, d⟩ := ih h
      refine ⟨by omega, by omega, c, fun x h1 h2 => ?_⟩
      by_cases hx : x = k
      · rw [hx]; exact e'
      · exact d x (by omega) h2

theorem firstFrom_eq_none {p : Nat → Bool} {k m : Nat} (h : firstFrom p k m = none) : ∀ x, k ≤ x → x < k + m → p x = false := by
  induction m generalizing k with
  | zero => intro x a b; omega
  | succ m ih =>
    unfold firstFrom at h
    by_cases e : p k = true
    · rw [if_pos e] at h; cases h
    · rw [if_neg e] at h
      have e' : p k = false := by simpa using e
      intro x h1 h2
      by_cases hx : x = k
      · rw [hx]; exact e'
      · exact ih h x (by omega) (by omega)

theorem lastBelow_some {p : Nat → Bool} {k j : Nat} (h1 : j < k) (h3 : ∀ x, j < x → x < k → p x = false) (h4 : p j = true) : lastBelow p k = some j := by
  induction k with
  | zero => omega
  | succ k ih =>
    unfold lastBelow
    by_cases e : k = j
    · subst e; simp [h4]
    · rw [if_neg (by rw [h3 k (by omega) (by omega)]; simp)]
      exact ih (by omega) (fun x a b => h3 x a (by omega))

theorem lastBelow_none {p : Nat → Bool} {k : Nat} (h3 : ∀ x, x < k → p x = false) : lastBelow p k = none := by
  induction k with
  | zero => rfl
  | succ k ih =>
    unfold lastBelow
    rw [if_neg (by rw [h3 k (by omega)]; simp)]
    exact ih (fun x a => h3 x (by omega))

theorem lastBelow_eq {p : Nat → Bool} {k j : Nat} (h : lastBelow p k = some j) : j < k ∧ p j = true ∧ ∀ x, j < x → x < k → p x = false := by
  induction k with
  | zero => simp [lastBelow] at h
  | succ k ih =>
    unfold lastBelow at h
    by_cases e : p k = true
    · rw [if_pos e] at h
      obtain rfl : k = j := by simpa using h
      exact ⟨by omega, e, fun x a b => by omega⟩
    · rw [if_neg e] at h
      have e' : p k = false := by simpa using e
      obtain ⟨a, c, d⟩ := ih h
      refine ⟨by omega, c, fun x h1 h2 => ?_⟩
      by_cases hx : x = k
      · rw [hx]; exact e'
      · exact d x h1 (by omega)

theorem lastBelow_eq_none {p : Nat → Bool} {k : Nat} (h : lastBelow p k = none) : ∀ x, x < k → p x = false := by
  induction k with
  | zero => intro x a; omega
  | succ k ih =>
    unfold lastBelow at h
    by_cases e : p k = true
    · rw [if_pos e] at h; cases h
    · rw [if_neg e] at h
      have e' : p k = false := by simpa using e
      intro x h2
      by_cases hx : x = k
      · rw [hx]; exact e'
      · exact ih h x (by omega)

def reachAt (l : List Mk) (how : Int) (i j : Nat) : Bool := reachedB (l.getD i .z) (l.getD j .z) how

def found (e : Int) : Option Nat → Int × Bool × Int
  | some k => if e ≠ 0 then (0, false, e) else (k, true, 0)
  | none => if e ≠ 0 then (0, false, e) else (0, false, 0)

def nextM (l : List Mk) (i how : Int) : Int × Bool × Int :=
  found (chk l.length i how) (firstFrom (reachAt l how i.toNat) (i.toNat + 1) (l.length - (i.toNat + 1)))

def lastM (l : List Mk) (i how : Int) : Int × Bool × Int :=
  found (chk l.length i how) (lastBelow (fun k => reachAt l how k i.toNat) i.toNat)

def topLoop (l : List Mk) (i : Nat) : Nat → Nat → Nat
  | 0, top => top
  | k + 1, top => if (l.getD k .z).t ≠ (l.getD i .z).t then topLoop l i k top else if (l.getD k .z).d < (l.getD i .z).d then top else topLoop l i k k

def topM (l : List Mk) (i : Int) : Int × Int :=
  if chk l.length i 1 ≠ 0 then (0, chk l.length i 1) else (topLoop l i.toNat i.toNat i.toNat, 0)

theorem found_bad {e : Int} {o : Option Nat} (h : e ≠ 0) : found e o = (0, false, e) := by
  cases o <;> simp [found, h]

theorem nextM_bad {l : List Mk} {i how : Int} (h : chk l.length i how ≠ 0) : nextM l i how = (0, false, chk l.length i how) := found_bad h
theorem lastM_bad {l : List Mk} {i how : Int} (h : chk l.length i how ≠ 0) : lastM l i how = (0, false, chk l.length i how) := found_bad h

theorem nextM_some {l : List Mk} {n k : Nat} {how : Int} (h : chk l.length n how = 0) (h1 : n + 1 ≤ k) (h2 : k < l.length) (h3 : ∀ j, n + 1 ≤ j → j < k → reachAt l how n j = false) (h4 : reachAt l how n k = true) :
    nextM l n how = ((k : Int), true, 0) := by
  unfold nextM
  rw [Int.toNat_natCast, firstFrom_some h1 (by omega) h3 h4]
  simp [found, h]

theorem nextM_none {l : List Mk} {n : Nat} {how : Int} (h : chk l.length n how = 0) (h3 : ∀ j, n + 1 ≤ j → j < l.length → reachAt l how n j = false) : nextM l n how = (0, false, 0) := by
  unfold nextM
  rw [Int.toNat_natCast, firstFrom_none (fun x a b => h3 x a (by omega))]
  simp [found, h]

theorem lastM_some {l : List Mk} {n k : Nat} {how : Int} (h : chk l.length n how = 0) (h2 : k < n) (h3 : ∀ j, k < j → j < n → reachAt l how j n = false) (h4 : reachAt l how k n = true) :
    lastM l n how = ((k : Int), true, 0) := by
  unfold lastM
  rw [Int.toNat_natCast, lastBelow_some h2 h3 h4]
  simp [found, h]

theorem lastM_none {l : List Mk} {n : Nat} {how : Int} (h : chk l.length n how = 0) (h3 : ∀ j, j < n → reachAt l how j n = false) : lastM l n how = (0, false, 0) := by
  unfold lastM
  rw [Int.toNat_natCast, lastBelow_none h3]
  simp [found, h]

theorem topM_bad {l : List Mk} {i : Int} (h : chk l.length i 1 ≠ 0) : topM l i = (0, chk l.length i 1) := by simp [topM, h]
theorem topM_ok {l : List Mk} {n : Nat} (h : chk l.length n 1 = 0) : topM l n = ((topLoop l n n n : Int), 0) := by simp [topM, h]

theorem topLoop_succ_other {l : List Mk} {i k top : Nat} (h : (l.getD k .z).t ≠ (l.getD i .z).t) : topLoop l i (k + 1) top = topLoop l i k top := by rw [topLoop, if_pos h]
theorem topLoop_succ_stop {l : List Mk} {i k top : Nat} (h : (l.getD k .z).t = (l.getD i .z).t) (h2 : (l.getD k .z).d < (l.getD i .z).d) : topLoop l i (k + 1) top = top := by
  rw [topLoop, if_neg (by simpa using h), if_pos h2]
theorem topLoop_succ_on {l : List Mk} {i k top : Nat} (h : (l.getD k .z).t = (l.getD i .z).t) (h2 : ¬ (l.getD k .z).d < (l.getD i .z).d) : topLoop l i (k + 1) top = topLoop l i k k := by
  rw [topLoop, if_neg (by simpa using h), if_neg h2]

end Go.Proofs.Ytdnheoelmcmbmaa
