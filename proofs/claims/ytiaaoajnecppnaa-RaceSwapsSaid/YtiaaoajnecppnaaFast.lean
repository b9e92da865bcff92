/-
  A region whose operations only read, and whose callees leave what was there as it was, walked once in the order of the text: the order's check by bit masks (long regions), and the class 'Below'.
-/
import Derived.Lib.QuietBelow
import Derived.Lib.Hide
import Derived.WalkSmall
namespace Go.Proofs.Ytiaaoajnecppnaa
open Go.RowKit Go.Sort

/-! ### The order's check by masks -/
def maskOf : List Nat → Nat
  | [] => 0
  | t :: l => maskOf l ||| 2 ^ t

theorem testBit_maskOf {l : List Nat} {t : Nat} : (maskOf l).testBit t = decide (t ∈ l) := by
  induction l with
  | nil => simp [maskOf]
  | cons x l ih =>
    simp only [maskOf, Nat.testBit_or, ih, Nat.testBit_two_pow, List.mem_cons, ← Bool.decide_or]
    congr 1
    exact propext ⟨fun h => h.elim .inr fun h => .inl h.symm, fun h => h.elim (fun h => .inr h.symm) .inl⟩

def depMask (o : Oper) : Nat := maskOf (o.after.toList.filterMap fun e => if Region.binds .any e then some e.on else none)
def lookMask (ops : Array Oper) (o : Oper) : Nat := maskOf (o.looksAt ops)
def dstMask (o : Oper) : Nat := match o.dst with | some d => 2 ^ d | none => 0

theorem dep_bit {o : Oper} {k : Nat} (h : (depMask o).testBit k = true) : o.after.any (fun e => Region.binds .any e && e.on == k) = true := by
  unfold depMask at h
  rw [testBit_maskOf] at h
  obtain ⟨e, he, h2⟩ := List.mem_filterMap.1 (of_decide_eq_true h)
  rw [Array.any_eq_true']
  refine ⟨e, by simpa using he, ?_⟩
  split at h2
  · next hb => simp at h2; simp [hb, h2]
  · simp at h2

theorem dep_lt {o : Oper} {k : Nat} (h : depMask o < 2 ^ k) : ∀ e ∈ o.after, Region.binds .any e = true → e.on < k := by
  intro e he hb
  rcases Nat.lt_or_ge e.on k with h1 | h1
  · exact h1
  · have : (depMask o).testBit e.on = true := by
      unfold depMask
      rw [testBit_maskOf]
      exact decide_eq_true (List.mem_filterMap.2 ⟨e, by simpa using he, by simp [hb]⟩)
    rw [Nat.testBit_lt_two_pow (Nat.lt_of_lt_of_le h (Nat.pow_le_pow_right (by omega) h1))] at this
    cases this

theorem and_zero {a b t : Nat} (h : a &&& b = 0) (h1 : a.testBit t = true) : b.testBit t = false := by
  have := congrArg (fun n => n.testBit t) h
  simp [h1] at this
  exact this

theorem apart_of {ops : Array Oper} {x y : Oper} (h1 : dstMask x &&& lookMask ops y = 0) (h2 : dstMask x &&& dstMask y = 0) (h3 : dstMask y &&& lookMask ops x = 0) : x.apart ops y = true := by
  unfold Oper.apart
  have look : ∀ {d : Nat} {z : Oper}, 2 ^ d &&& lookMask ops z = 0 → (z.looksAt ops).contains d = false := by
    intro d z h
    have hb := and_zero (t := d) h (by simp)
    unfold lookMask at hb
    rw [testBit_maskOf] at hb
    simpa using hb
  rw [Bool.and_eq_true]
  constructor
  · split
    · next d hd =>
      simp only [dstMask, hd] at h1 h2
      rw [Bool.and_eq_true, look h1]
      refine ⟨rfl, ?_⟩
      cases hy : y.dst with
      | none => rfl
      | some d' =>
        simp only [hy] at h2
        have hb := and_zero (t := d) h2 (by simp)
        rw [Nat.testBit_two_pow] at hb
        have hne : ¬ d' = d := by simpa using hb
        simpa using hne
    · rfl
  · split
    · next d hd =>
      simp only [dstMask, hd] at h3
      rw [look h3]; rfl
    · rfl

structure OpM where
  dep : Nat
  look : Nat
  dst : Nat

def pairOk (j i : OpM) (k : Nat) : Bool := j.dep.testBit k || ((i.dst &&& j.look) == 0 && ((i.dst &&& j.dst) == 0 && (j.dst &&& i.look) == 0))

/-- 'prev': the masks of the operations ahead, the nearest first; n: how many. -/
def rowOk (j : OpM) : Nat → List OpM → Bool
  | _, [] => true
  | 0, _ => false
  | n + 1, i :: l => pairOk j i n && rowOk j n l

def allOk : Nat → List OpM → List OpM → Bool
  | _, _, [] => true
  | n, prev, j :: l => Nat.blt j.dep (2 ^ n) && (rowOk j n prev && allOk (n + 1) (j :: prev) l)

def masks (ops : Array Oper) (l : List Oper) : List OpM := l.map fun o => ⟨depMask o, lookMask ops o, dstMask o⟩

def lexFast (l : List Oper) : Bool := Region.noSelect l.toArray && allOk 0 [] (masks l.toArray l)

theorem rowOk_spec {j : OpM} {n : Nat} {prev : List OpM} (h : rowOk j n prev = true) (hn : prev.length = n) : ∀ k, k < n → ∃ i, prev[n - 1 - k]? = some i ∧ pairOk j i k = true := by
  induction n generalizing prev with
  | zero => intro k hk; omega
  | succ n ih =>
    match prev, hn with
    | i :: l, hn =>
      simp only [rowOk, Bool.and_eq_true] at h
      intro k hk
      by_cases e : k = n
      · subst e
        exact ⟨i, by simp, h.1⟩
      · obtain ⟨i', h1, h2⟩ := ih h.2 (by simpa using hn) k (by omega)
        refine ⟨i', ?_, h2⟩
        rw [show n + 1 - 1 - k = (n - 1 - k) + 1 from by omega]
        simpa using h1

theorem allOk_spec {l : List OpM} : ∀ {n : Nat} {prev : List OpM}, prev.length = n → allOk n prev l = true →
    ∀ j m, l[j]? = some m → Nat.blt m.dep (2 ^ (n + j)) = true ∧ ∀ k, k < n + j → ∃ i, (prev.reverse ++ l)[k]? = some i ∧ pairOk m i k = true := by
  induction l with
  | nil => intro n prev _ _ j m h; simp at h
  | cons x l ih =>
    intro n prev hn h j m hj
    simp only [allOk, Bool.and_eq_true] at h
    obtain ⟨h1, h2, h3⟩ := h
    cases j with
    | zero =>
      obtain rfl : x = m := by simpa using hj
      refine ⟨h1, fun k hk => ?_⟩
      obtain ⟨i, hi, hp⟩ := rowOk_spec h2 hn k hk
      refine ⟨i, ?_, hp⟩
      rw [List.getElem?_append_left (by simp; omega), List.getElem?_reverse (by omega)]
      rw [hn]; exact hi
    | succ j =>
      have := ih (n := n + 1) (prev := x :: prev) (by simp [hn]) h3 j m (by simpa using hj)
      rw [show n + (j + 1) = n + 1 + j from by omega]
      refine ⟨this.1, fun k hk => ?_⟩
      obtain ⟨i, hi, hp⟩ := this.2 k hk
      exact ⟨i, by simpa using hi, hp⟩

/-- the first k of n are listed -/
def firstK (n k : Nat) : Array Bool := Array.ofFn (n := n) fun i => decide (i.val < k)

theorem firstK_getD {n k j : Nat} {d : Bool} (h : j < n) : (firstK n k).getD j d = decide (j < k) := by
  simp [firstK, Array.getD, h]

theorem firstK_set {n k : Nat} : (firstK n k).setIfInBounds k true = firstK n (k + 1) := by
  apply Array.ext_getElem?
  intro i
  rw [Array.getElem?_setIfInBounds]
  unfold firstK
  by_cases e : k = i
  · subst e
    by_cases hk : k < n
    · simp [hk]
    · simp [hk]
  · rw [if_neg e]
    by_cases hk : i < n
    · simp [hk]; omega
    · simp [hk]

theorem lexFrom_of {l : List Oper} (h : allOk 0 [] (masks l.toArray l) = true) : ∀ fuel k, k + fuel = l.length → Region.lexFrom .any l.toArray fuel k (firstK l.length k) = true := by
  have key := allOk_spec (n := 0) (prev := []) rfl h
  have at_ : ∀ (j : Nat) (o : Oper), l[j]? = some o → (masks l.toArray l)[j]? = some (OpM.mk (depMask o) (lookMask l.toArray o) (dstMask o)) := by
    intro j o hj; simp [masks, hj]
  intro fuel
  induction fuel with
  | zero =>
    intro k hk
    unfold Region.lexFrom
    rw [List.isEmpty_iff]
    apply List.eq_nil_iff_forall_not_mem.2
    intro j hj
    obtain ⟨h1, o, ho, -⟩ := mem_ready.1 hj
    have hjl : j < l.length := by
      rcases Nat.lt_or_ge j l.length with h | h
      · exact h
      · simp [List.getElem?_eq_none h] at ho
    rw [firstK_getD hjl] at h1
    simp at h1; omega
  | succ fuel ih =>
    intro k hk
    have hkl : k < l.length := by omega
    have hko : l[k]? = some l[k] := List.getElem?_eq_getElem hkl
    unfold Region.lexFrom
    rw [Bool.and_eq_true, Bool.and_eq_true]
    refine ⟨⟨?_, ?_⟩, ?_⟩
    · rw [List.contains_iff_mem]
      refine mem_ready.2 ⟨by rw [firstK_getD hkl]; simp, l[k], by simp, fun e he hb => ?_⟩
      have h1 := (key k _ (at_ k _ hko)).1
      have h2 := dep_lt (k := k) (by have := Nat.le_of_ble_eq_true h1; simp at this; omega) e he hb
      rw [firstK_getD (by omega)]
      simpa using h2
    · unfold Region.free
      rw [show l.toArray[k]? = some l[k] from by simp]
      simp only [List.all_eq_true, List.mem_range, List.size_toArray]
      intro j hj
      by_cases e : j = k
      · simp [e]
      · rw [firstK_getD hj]
        by_cases hlt : j < k
        · simp [hlt]
        · have hjo : l[j]? = some l[j] := List.getElem?_eq_getElem hj
          rw [show l.toArray[j]? = some l[j] from by simp]
          obtain ⟨i, hi, hp⟩ := (key j _ (at_ j _ hjo)).2 k (by omega)
          rw [List.reverse_nil, List.nil_append, at_ k _ hko] at hi
          obtain rfl := by simpa using hi
          simp only [Bool.or_eq_true]
          refine .inr ?_
          simp only [pairOk, Bool.or_eq_true, Bool.and_eq_true, beq_iff_eq] at hp
          rcases hp with hp | ⟨h1, h2, h3⟩
          · exact .inl (dep_bit hp)
          · exact .inr (apart_of h1 h2 h3)
    · rw [firstK_set]
      exact ih (k + 1) (by omega)

theorem lexB_of_fast {l : List Oper} (h : lexFast l = true) : Region.lexB .any l.toArray = true := by
  unfold lexFast at h
  rw [Bool.and_eq_true] at h
  unfold Region.lexB
  rw [Bool.and_eq_true]
  refine ⟨h.1, ?_⟩
  have := lexFrom_of h.2 l.length 0 (by omega)
  have e : firstK l.length 0 = Array.replicate l.length false := by
    apply Array.ext
    · simp [firstK]
    · intro i h1 h2; simp [firstK]
  rw [e] at this
  simpa using this

/-! ### The class 'Below' -/
/-- A region that draws its order, only reads, and calls what leaves the old memory alone: one walk, in the order of the text. -/
theorem quiet_below {P : Program} {id : Nat} {Q : Exit → Act → World → Prop} {a : Act} {w : World} {l l' : List Oper} (hl : l = l') (hm : P.follows .mixedOrders = true) (hB : lexFast l = true)
    (h : wpQuiet P l'.toArray (fun w' => ∃ p : Regrown, w' = grow (redrawn w p.d) p.os) (fun a' => ∀ w', Below w.heap.size w w' → Q .normal a' w') l' a) : (Code.region id l.toArray true).wp P Q a w := by
  subst hl
  have h' : wpQuiet P l.toArray (fun w' => ∃ p : Regrown, w' = grow (redrawn w p.d) p.os) (fun a' => ∀ w', (∃ p : Regrown, w' = grow (redrawn w p.d) p.os) → Q .normal a' w') l a := by
    have e : (fun a' => ∀ w', (∃ p : Regrown, w' = grow (redrawn w p.d) p.os) → Q .normal a' w') = (fun a' => ∀ w', Below w.heap.size w w' → Q .normal a' w') := by
      funext a'
      refine propext ⟨fun h w' hb => h w' (regrown_of_below hb), fun h w' ⟨p, hp⟩ => h w' (hp ▸ below_regrown w p.d p.os)⟩
    rw [e]; exact h
  exact wp_region_quiet_below hm (lexB_of_fast hB) h'

end Go.Proofs.Ytiaaoajnecppnaa
