/-
  Stores of versions, in plain words: what Check, Get, Set, Drop and Shared answer, and their laws.
-/
namespace Go.Proofs.Ytcnppcddpcpeoaa

structure Pg where
  a : Int
  b : Int
  c : Int
  d : Int
deriving DecidableEq
def Pg.zero : Pg := ⟨0, 0, 0, 0⟩
instance : Inhabited Pg := ⟨Pg.zero⟩
def Pg.get (p : Pg) : Nat → Int
  | 0 => p.a
  | 1 => p.b
  | 2 => p.c
  | _ => p.d
def Pg.set (p : Pg) (v : Int) : Nat → Pg
  | 0 => { p with a := v }
  | 1 => { p with b := v }
  | 2 => { p with c := v }
  | _ => { p with d := v }
theorem Pg.get_set (p : Pg) (v : Int) {i j : Nat} (hi : i < 4) (hj : j < 4) : (p.set v i).get j = if i = j then v else p.get j := by
  match i, j, hi, hj with
  | 0, 0, _, _ | 0, 1, _, _ | 0, 2, _, _ | 0, 3, _, _ | 1, 0, _, _ | 1, 1, _, _ | 1, 2, _, _ | 1, 3, _, _
  | 2, 0, _, _ | 2, 1, _, _ | 2, 2, _, _ | 2, 3, _, _ | 3, 0, _, _ | 3, 1, _, _ | 3, 2, _, _ | 3, 3, _, _ => rfl
theorem Pg.zero_get (i : Nat) : Pg.zero.get i = 0 := by
  match i with
  | 0 | 1 | 2 => rfl
  | _ + 3 => rfl

structure DsC where
  pages : List Pg
  uses : List Int
  roots : List (List Int)

/-- How often a page's index occurs in the versions. -/
def cnt (roots : List (List Int)) (p : Nat) : Nat := (roots.map fun r => r.count (p : Int)).sum
def rootOk (n : Nat) (r : List Int) : Prop := (r = [] ∨ r.length = 16) ∧ ∀ p ∈ r, p = -1 ∨ (0 ≤ p ∧ p < n)
structure Ok (s : DsC) : Prop where
  np : s.pages.length ≤ 400
  nr : s.roots.length ≤ 40
  form : ∀ r ∈ s.roots, rootOk s.pages.length r
  uses : s.uses = (List.range s.pages.length).map fun p => (cnt s.roots p : Int)
  zero : ∀ i, i < s.pages.length → (s.pages.getD i default = Pg.zero ↔ cnt s.roots i = 0)
/-- A version that is there. -/
def There (s : DsC) (root : Int) : Prop := 0 ≤ root ∧ root < s.roots.length ∧ s.roots.getD root.toNat [] ≠ []
open Classical in
/-- What Check answers where a store is right, and what 'there' answers of one version. -/
noncomputable def thereC (s : DsC) (root : Int) : Int := if There s root then 0 else 5
def pageOf (s : DsC) (p : Int) : Pg := if 0 ≤ p then s.pages.getD p.toNat default else Pg.zero
def valC (s : DsC) (root at_ : Nat) : Int := (pageOf s ((s.roots.getD root []).getD (at_ / 4) (-1))).get (at_ % 4)

theorem cnt_append (l : List (List Int)) (r : List Int) (p : Nat) : cnt (l ++ [r]) p = cnt l p + r.count (p : Int) := by simp [cnt]
theorem cnt_set : ∀ (l : List (List Int)) (i : Nat) (r : List Int) (p : Nat), i < l.length → cnt (l.set i r) p + (l.getD i []).count (p : Int) = cnt l p + r.count (p : Int)
  | [], _, _, _, h => by simp at h
  | x :: l, 0, r, p, _ => by simp [cnt]; omega
  | x :: l, i + 1, r, p, h => by
    have := cnt_set l i r p (by simpa using h)
    simp [cnt] at this ⊢; omega
theorem cnt_zero {l : List (List Int)} {p : Nat} (h : cnt l p = 0) : ∀ r ∈ l, (p : Int) ∉ r := by
  induction l with
  | nil => intro r hr; cases hr
  | cons x l ih =>
    have h' : x.count (p : Int) + cnt l p = 0 := h
    intro r hr
    rcases List.mem_cons.1 hr with rfl | hr
    · exact List.count_eq_zero.1 (by omega)
    · exact ih (by omega) r hr

/-! ### Set -/
/-- The new version's pages, and the store's pages and uses ahead of counting it. -/
structure Mid where
  pages : List Pg
  uses : List Int
  r : List Int
def freshC (pages : List Pg) (uses : List Int) (q : Pg) : List Pg × List Int × Int :=
  if q = Pg.zero then (pages, uses, -1)
  else
    let n := uses.findIdx (· == 0)
    if n < uses.length then (pages.set n q, uses, n) else (pages ++ [q], uses ++ [0], pages.length)
def midC (s : DsC) (root at_ : Nat) (v : Int) : Mid :=
  let r := s.roots.getD root []
  let p := pageOf s (r.getD (at_ / 4) (-1))
  if p.get (at_ % 4) = v then ⟨s.pages, s.uses, r⟩
  else
    let f := freshC s.pages s.uses (p.set v (at_ % 4))
    ⟨f.1, f.2.1, r.set (at_ / 4) f.2.2⟩
/-- Count a version's pages. -/
def countUp (uses : List Int) (r : List Int) : List Int := r.foldl (fun u p => if 0 ≤ p then u.set p.toNat (u.getD p.toNat 0 + 1) else u) uses
def freeRoot (roots : List (List Int)) : Nat := roots.findIdx (·.isEmpty)
def putRoot (roots : List (List Int)) (r : List Int) : List (List Int) := if freeRoot roots < roots.length then roots.set (freeRoot roots) r else roots ++ [r]
def setC (s : DsC) (root at_ : Nat) (v : Int) : DsC :=
  let m := midC s root at_ v
  ⟨m.pages, countUp m.uses m.r, putRoot s.roots m.r⟩
/-! ### Drop -/
def dropStep (x : List Pg × List Int) (p : Int) : List Pg × List Int :=
  if 0 ≤ p then
    let u := x.2.getD p.toNat 0 - 1
    (if u = 0 then x.1.set p.toNat Pg.zero else x.1, x.2.set p.toNat u)
  else x
def dropC (s : DsC) (root : Nat) : DsC :=
  let f := (s.roots.getD root []).foldl dropStep (s.pages, s.uses)
  ⟨f.1, f.2, s.roots.set root []⟩
/-! ### Shared -/
def sharedC (s : DsC) (a b : Nat) : Int := ((List.range (s.roots.getD a []).length).countP fun i => decide (0 ≤ (s.roots.getD a []).getD i 0) && (s.roots.getD a []).getD i 0 == (s.roots.getD b []).getD i 0 : Nat)

theorem countUp_get : ∀ (r : List Int) (u : List Int) (i : Nat), (∀ p ∈ r, p = -1 ∨ (0 ≤ p ∧ p < u.length)) → i < u.length → (countUp u r).length = u.length ∧ (countUp u r).getD i 0 = u.getD i 0 + r.count (i : Int)
  | [], u, i, _, _ => by simp [countUp]
  | p :: r, u, i, h, hi => by
    have hp := h p (by simp)
    have hr := fun q hq => h q (List.mem_cons_of_mem _ hq)
    unfold countUp
    rw [List.foldl_cons]
    by_cases h0 : 0 ≤ p
    · rw [if_pos h0]
      have := countUp_get r (u.set p.toNat (u.getD p.toNat 0 + 1)) i (by simpa using hr) (by simpa using hi)
      unfold countUp at this
      refine ⟨by rw [this.1]; simp, ?_⟩
      rw [this.2, List.count_cons]
      by_cases e : p.toNat = i
      · have e2 : p = (i : Int) := by omega
        subst e2
        simp [hi]; omega
      · have e2 : ¬ p = (i : Int) := by omega
        simp [e, e2]
    · rw [if_neg h0]
      have := countUp_get r u i hr hi
      unfold countUp at this
      refine ⟨this.1, ?_⟩
      rw [this.2, List.count_cons]
      have e2 : ¬ p = (i : Int) := by omega
      simp [e2]

theorem range_map_get (n i : Nat) (f : Nat → Int) (h : i < n) : ((List.range n).map f).getD i 0 = f i := by simp [h]
theorem list_eq_of_getD {l m : List Int} (hl : l.length = m.length) (h : ∀ i, i < l.length → l.getD i 0 = m.getD i 0) : l = m := by
  apply List.ext_getElem? 
  intro i
  by_cases hi : i < l.length
  · have := h i hi
    have hm : i < m.length := by omega
    simp [hi, hm] at this
    simp [hi, hm, this]
  · rw [List.getElem?_eq_none (by omega), List.getElem?_eq_none (by omega)]
theorem list_eq_range {l : List Int} {n : Nat} {f : Nat → Int} (hl : l.length = n) (h : ∀ i, i < n → l.getD i 0 = f i) : l = (List.range n).map f :=
  list_eq_of_getD (by simpa using hl) fun i hi => by rw [h i (by omega), range_map_get _ _ _ (by omega)]
end Go.Proofs.Ytcnppcddpcpeoaa
