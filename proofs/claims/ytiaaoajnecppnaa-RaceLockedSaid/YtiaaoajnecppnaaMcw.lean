/-
  Cp, Ce, Cw, Cl, in one.
-/
import Derived.Test.YtiaaoajnecppnaaGj
import Derived.Test.YtiaaoajnecppnaaSortP
import Derived.Lib.SlicesCompact
import Derived.Test.YtiaaoajnecppnaaSc
section
namespace Go.Proofs.Ytiaaoajnecppnaa

structure Ev where
  (k st t f at_ ln A B vk vn ok on : Int)
/-! ### Lists as maps -/
section
variable {α : Type}
def af : List (Int × α) → Int → Option α
  | [], _ => none
  | (x, y) :: M, k => if k = x then some y else af M k
def ap : List (Int × α) → Int → α → List (Int × α)
  | [], k, v => [(k, v)]
  | (x, y) :: M, k, v => if k = x then (x, v) :: M else (x, y) :: ap M k v
def ad : List (Int × α) → Int → List (Int × α)
  | [], _ => []
  | (x, y) :: M, k => if k = x then M else (x, y) :: ad M k
theorem af_mem : ∀ {M : List (Int × α)} {k : Int} {v : α}, af M k = some v → (k, v) ∈ M
  | (x, y) :: M, k, v, h => by
    rw [af] at h
    split at h
    · next e => cases h; rw [e]; exact List.mem_cons_self
    · exact List.mem_cons_of_mem _ (af_mem h)
theorem af_ap (k : Int) (v : α) (k' : Int) : ∀ M : List (Int × α), af (ap M k v) k' = if k' = k then some v else af M k'
  | [] => rfl
  | (x, y) :: M => by
    rw [ap]
    by_cases h : k = x
    · rw [if_pos h, af, af, h]
      split <;> rfl
    · rw [if_neg h, af, af, af_ap k v k' M]
      by_cases h2 : k' = x
      · rw [if_pos h2, if_pos h2, if_neg (by rw [h2]; exact fun e => h e.symm)]
      · rw [if_neg h2, if_neg h2]
theorem ap_mem {k : Int} {v : α} : ∀ {M : List (Int × α)} {p : Int × α}, p ∈ ap M k v → p ∈ M ∨ p.2 = v
  | [], p, h => by
    have : p = (k, v) := by simpa [ap] using h
    exact .inr (by rw [this])
  | (x, y) :: M, p, h => by
    rw [ap] at h
    split at h
    · rcases List.mem_cons.1 h with h | h
      · exact .inr (by rw [h])
      · exact .inl (List.mem_cons_of_mem _ h)
    · rcases List.mem_cons.1 h with h | h
      · exact .inl (by rw [h]; exact List.mem_cons_self)
      · rcases ap_mem h with h | h
        · exact .inl (List.mem_cons_of_mem _ h)
        · exact .inr h
theorem ad_mem {k : Int} : ∀ {M : List (Int × α)} {p : Int × α}, p ∈ ad M k → p ∈ M
  | (x, y) :: M, p, h => by
    rw [ad] at h
    split at h
    · exact List.mem_cons_of_mem _ h
    · rcases List.mem_cons.1 h with h | h
      · rw [h]; exact List.mem_cons_self
      · exact List.mem_cons_of_mem _ (ad_mem h)
end
/-! ### What leads to what -/
structure WS where
  (last : List (Int × Nat)) (spawns : List (Int × List Nat)) (over : List (Int × Nat)) (frees : List (Int × List Nat)) (out : List (Nat × Nat))
def one? (o : Option Nat) (j : Nat) : List (Nat × Nat) := match o with
  | some i => [(i, j)]
  | none => []
def rowO (o : Option (List Nat)) : List Nat := o.getD []
def wnew (s : WS) (j : Nat) (e : Ev) : List (Nat × Nat) :=
  one? (af s.last e.t) j ++ (rowO (af s.spawns e.t)).map (·, j) ++ (if e.k = 12 then one? (af s.over e.A) j else if e.k = 13 then (rowO (af s.frees e.A)).map (·, j) else [])
def wsp (s : WS) (j : Nat) (e : Ev) : List (Int × List Nat) :=
  if e.k = 11 then ap (ad s.spawns e.t) e.A (rowO (af (ad s.spawns e.t) e.A) ++ [j]) else ad s.spawns e.t
def wfr (s : WS) (j : Nat) (e : Ev) : List (Int × List Nat) :=
  if e.k = 14 then ap s.frees e.A (rowO (af s.frees e.A) ++ [j]) else if e.k = 13 then ad s.frees e.A else s.frees
def wev (s : WS) (j : Nat) (e : Ev) : WS :=
  ⟨ap s.last e.t j, wsp s j e, if e.k = 17 then ap s.over e.t j else s.over, wfr s j e, s.out ++ wnew s j e⟩
def wst (l : List Ev) : Nat → WS
  | 0 => ⟨[], [], [], [], []⟩
  | k + 1 => if h : k < l.length then wev (wst l k) k l[k] else wst l k
theorem wst_take (l : List Ev) (n : Nat) : ∀ k, k ≤ n → wst (l.take n) k = wst l k
  | 0, _ => rfl
  | k + 1, h => by
    rw [wst, wst, wst_take l n k (by omega)]
    by_cases hk : k < l.length
    · rw [dif_pos hk, dif_pos (by rw [List.length_take]; omega)]
      rw [List.getElem_take]
    · rw [dif_neg hk, dif_neg (by rw [List.length_take]; omega)]
structure WB (s : WS) (k : Nat) : Prop where
  last : ∀ p ∈ s.last, p.2 < k
  spawns : ∀ p ∈ s.spawns, ∀ i ∈ p.2, i < k
  over : ∀ p ∈ s.over, p.2 < k
  frees : ∀ p ∈ s.frees, ∀ i ∈ p.2, i < k
  out : ∀ p ∈ s.out, p.1 < p.2 ∧ p.2 < k
theorem one_mem {o : Option Nat} {j : Nat} {p : Nat × Nat} (h : p ∈ one? o j) : o = some p.1 ∧ p.2 = j := by
  unfold one? at h
  split at h
  · next i => have : p = (i, j) := by simpa using h
              rw [this]; exact ⟨rfl, rfl⟩
  · cases h
theorem rowO_mem {M : List (Int × List Nat)} {t : Int} {i : Nat} (h : i ∈ rowO (af M t)) : ∃ l, (t, l) ∈ M ∧ i ∈ l := by
  unfold rowO at h
  cases e : af M t with
  | none => rw [e] at h; cases h
  | some l => rw [e] at h; exact ⟨l, af_mem e, h⟩
theorem wnew_lt {s : WS} {k : Nat} (h : WB s k) {e : Ev} {p : Nat × Nat} (hp : p ∈ wnew s k e) : p.1 < k ∧ p.2 = k := by
  unfold wnew at hp
  have row : ∀ (M : List (Int × List Nat)) (t : Int), (∀ p ∈ M, ∀ i ∈ p.2, i < k) → p ∈ (rowO (af M t)).map (·, k) → p.1 < k ∧ p.2 = k := fun M t hM hp => by
    obtain ⟨i, hi, e⟩ := List.mem_map.1 hp
    obtain ⟨l, h1, h2⟩ := rowO_mem hi
    rw [← e]; exact ⟨hM _ h1 i h2, rfl⟩
  rcases List.mem_append.1 hp with hp | hp
  · rcases List.mem_append.1 hp with hp | hp
    · obtain ⟨h1, h2⟩ := one_mem hp
      exact ⟨h.last _ (af_mem h1), h2⟩
    · exact row _ _ h.spawns hp
  · split at hp
    · obtain ⟨h1, h2⟩ := one_mem hp
      exact ⟨h.over _ (af_mem h1), h2⟩
    · split at hp
      · exact row _ _ h.frees hp
      · cases hp
theorem WB.step {s : WS} {k : Nat} (h : WB s k) (e : Ev) : WB (wev s k e) (k + 1) := by
  have grow : ∀ (M : List (Int × List Nat)) (t : Int), (∀ p ∈ M, ∀ i ∈ p.2, i < k) → ∀ p ∈ ap M t (rowO (af M t) ++ [k]), ∀ i ∈ p.2, i < k + 1 := fun M t hM p hp i hi => by
    rcases ap_mem hp with hp | hp
    · exact Nat.lt_succ_of_lt (hM p hp i hi)
    · rw [hp] at hi
      rcases List.mem_append.1 hi with hi | hi
      · obtain ⟨l, h1, h2⟩ := rowO_mem hi
        exact Nat.lt_succ_of_lt (hM _ h1 i h2)
      · have : i = k := by simpa using hi
        omega
  have hsp : ∀ p ∈ ad s.spawns e.t, ∀ i ∈ p.2, i < k := fun p hp => h.spawns p (ad_mem hp)
  refine ⟨fun p hp => ?_, fun p hp i hi => ?_, fun p hp => ?_, fun p hp i hi => ?_, fun p hp => ?_⟩
  · rcases ap_mem hp with hp | hp
    · exact Nat.lt_succ_of_lt (h.last p hp)
    · omega
  · replace hp : p ∈ wsp s k e := hp
    unfold wsp at hp
    split at hp
    · exact grow _ _ hsp p hp i hi
    · exact Nat.lt_succ_of_lt (hsp p hp i hi)
  · replace hp : p ∈ (if e.k = 17 then ap s.over e.t k else s.over) := hp
    split at hp
    · rcases ap_mem hp with hp | hp
      · exact Nat.lt_succ_of_lt (h.over p hp)
      · omega
    · exact Nat.lt_succ_of_lt (h.over p hp)
  · replace hp : p ∈ wfr s k e := hp
    unfold wfr at hp
    split at hp
    · exact grow _ _ h.frees p hp i hi
    · split at hp
      · exact Nat.lt_succ_of_lt (h.frees p (ad_mem hp) i hi)
      · exact Nat.lt_succ_of_lt (h.frees p hp i hi)
  · rcases List.mem_append.1 hp with hp | hp
    · exact ⟨(h.out p hp).1, Nat.lt_succ_of_lt (h.out p hp).2⟩
    · have := wnew_lt h hp
      omega
theorem wst_b (l : List Ev) : ∀ k, k ≤ l.length → WB (wst l k) k
  | 0, _ => ⟨fun p h => (by cases h), fun p h => (by cases h), fun p h => (by cases h), fun p h => (by cases h), fun p h => (by cases h)⟩
  | k + 1, h => by
    rw [wst, dif_pos (by omega)]
    exact (wst_b l k (by omega)).step _
theorem wst_last (l : List Ev) : ∀ k, k ≤ l.length → (∀ i (h : i < l.length), i < k → ∃ p, af (wst l k).last l[i].t = some p ∧ i ≤ p) ∧ ∀ t p, af (wst l k).last t = some p → ∃ h : p < l.length, l[p].t = t
  | 0, _ => ⟨fun i _ h => (by omega), fun t p h => (by cases h)⟩
  | k + 1, hk => by
    obtain ⟨h1, h2⟩ := wst_last l k (by omega)
    have e : wst l (k + 1) = wev (wst l k) k l[k] := by rw [wst, dif_pos (by omega)]
    have e2 : (wst l (k + 1)).last = ap (wst l k).last l[k].t k := by rw [e]; rfl
    refine ⟨fun i hi hik => ?_, fun t p hp => ?_⟩
    · rw [e2, af_ap]
      split
      · exact ⟨k, rfl, by omega⟩
      · next hne =>
        have : i ≠ k := fun e => hne (by subst e; rfl)
        exact h1 i hi (by omega)
    · rw [e2, af_ap] at hp
      split at hp
      · next ht => cases hp; exact ⟨by omega, ht.symm⟩
      · exact h2 t p hp
theorem out_step {l : List Ev} {k : Nat} (h : k < l.length) : (wst l (k + 1)).out = (wst l k).out ++ wnew (wst l k) k l[k] := by rw [wst, dif_pos h]; rfl
theorem out_pre {l : List Ev} : ∀ {n k : Nat}, k ≤ n → n ≤ l.length → ∃ m, (wst l n).out = (wst l k).out ++ m ∧ ∀ p ∈ m, k ≤ p.2
  | 0, k, h, _ => by obtain rfl : k = 0 := by omega
                     exact ⟨[], by simp, fun p h => by cases h⟩
  | n + 1, k, h, hn => by
    by_cases hk : k = n + 1
    · subst hk; exact ⟨[], by simp, fun p h => by cases h⟩
    · obtain ⟨m, h1, h2⟩ := out_pre (l := l) (n := n) (k := k) (by omega) (by omega)
      refine ⟨m ++ wnew (wst l n) n l[n], by rw [out_step (by omega), h1, List.append_assoc], fun p hp => ?_⟩
      rcases List.mem_append.1 hp with hp | hp
      · exact h2 p hp
      · have := wnew_lt (wst_b l n (by omega)) hp; omega
/-! ### Paths and clocks -/
inductive Pth (es : List (Nat × Nat)) : Nat → Nat → Prop
  | refl (i : Nat) : Pth es i i
  | step {i j k : Nat} (h : Pth es i j) (e : (j, k) ∈ es) : Pth es i k
theorem Pth.trans {es : List (Nat × Nat)} {i j k : Nat} (h : Pth es i j) (h' : Pth es j k) : Pth es i k := by
  induction h' with
  | refl => exact h
  | step _ e ih => exact ih.step e
/-- Of places with threads ts: whoever leads there stands ahead; of a thread one leads to the next. -/
structure Good (ts : List Nat) (es : List (Nat × Nat)) : Prop where
  lt : ∀ p ∈ es, p.1 < p.2 ∧ p.2 < ts.length
  ch : ∀ i j, i < j → j < ts.length → ts[i]? = ts[j]? → ∃ p, i ≤ p ∧ ts[p]? = ts[j]? ∧ (p, j) ∈ es
theorem Pth.le {ts : List Nat} {es : List (Nat × Nat)} (hg : Good ts es) {i j : Nat} (h : Pth es i j) : i ≤ j := by
  induction h with
  | refl => exact Nat.le_refl _
  | step _ e ih => have := (hg.lt _ e).1; omega
theorem Pth.chain {ts : List Nat} {es : List (Nat × Nat)} (hg : Good ts es) {i : Nat} : ∀ (n j : Nat), j ≤ n → i ≤ j → j < ts.length → ts[i]? = ts[j]? → Pth es i j
  | 0, j, h0, hij, _, _ => by obtain rfl : i = j := by omega
                              exact .refl _
  | n + 1, j, hn, hij, hj, ht => by
    by_cases e : i = j
    · subst e; exact .refl _
    · obtain ⟨p, h1, h2, h3⟩ := hg.ch i j (by omega) hj ht
      have := (hg.lt _ h3).1
      exact (Pth.chain hg n p (by omega) h1 (by omega) (ht.trans h2.symm)).step h3
def supv (a b : List Nat) : List Nat := List.zipWith max a b
def bump (c : List Nat) (t : Nat) : List Nat := c.set t (c.getD t 0 + 1)
def preds (es : List (Nat × Nat)) (j : Nat) : List Nat := (es.filter (·.2 == j)).map (·.1)
def supR (rows : List (List Nat)) (c : List Nat) (Is : List Nat) : List Nat := Is.foldl (fun c i => supv c (rows.getD i [])) c
def clkRow (rows : List (List Nat)) (th : Nat) (Is : List Nat) (t : Nat) : List Nat := bump (supR rows (List.replicate th 0) Is) t
def clkTo (ts : List Nat) (th : Nat) (es : List (Nat × Nat)) : Nat → List (List Nat)
  | 0 => []
  | j + 1 => clkTo ts th es j ++ [clkRow (clkTo ts th es j) th (preds es j) (ts.getD j 0)]
theorem clkTo_len (ts : List Nat) (th : Nat) (es : List (Nat × Nat)) : ∀ n, (clkTo ts th es n).length = n
  | 0 => rfl
  | n + 1 => by rw [clkTo, List.length_append, clkTo_len ts th es n]; rfl
def rowAt (ts : List Nat) (th : Nat) (es : List (Nat × Nat)) (j : Nat) : List Nat := clkRow (clkTo ts th es j) th (preds es j) (ts.getD j 0)
theorem clkTo_get (ts : List Nat) (th : Nat) (es : List (Nat × Nat)) : ∀ {n i : Nat}, i < n → (clkTo ts th es n)[i]? = some (rowAt ts th es i)
  | n + 1, i, h => by
    rw [clkTo]
    by_cases e : i = n
    · subst e
      rw [List.getElem?_append_right (by rw [clkTo_len]; exact Nat.le_refl _), clkTo_len]; simp [rowAt]
    · rw [List.getElem?_append_left (by rw [clkTo_len]; omega)]
      exact clkTo_get ts th es (by omega)
theorem supv_len {a b : List Nat} {n : Nat} (ha : a.length = n) (hb : b.length = n) : (supv a b).length = n := by simp [supv, ha, hb]
theorem supv_get {a b : List Nat} {n t : Nat} (ha : a.length = n) (hb : b.length = n) : (supv a b).getD t 0 = max (a.getD t 0) (b.getD t 0) := by
  by_cases h : t < n
  · simp [supv, List.getD, List.getElem?_zipWith, List.getElem?_eq_getElem (show t < a.length by omega), List.getElem?_eq_getElem (show t < b.length by omega)]
  · simp [supv, List.getD, List.getElem?_zipWith, List.getElem?_eq_none (show a.length ≤ t by omega), List.getElem?_eq_none (show b.length ≤ t by omega)]
theorem supR_spec {rows : List (List Nat)} {n t : Nat} : ∀ (Is : List Nat) (c : List Nat), c.length = n → (∀ i ∈ Is, (rows.getD i []).length = n) →
    (supR rows c Is).length = n ∧ c.getD t 0 ≤ (supR rows c Is).getD t 0 ∧ (∀ i ∈ Is, (rows.getD i []).getD t 0 ≤ (supR rows c Is).getD t 0) ∧ ((supR rows c Is).getD t 0 = c.getD t 0 ∨ ∃ i ∈ Is, (supR rows c Is).getD t 0 = (rows.getD i []).getD t 0)
  | [], c, hc, _ => ⟨hc, Nat.le_refl _, fun i h => (by cases h), .inl rfl⟩
  | i :: Is, c, hc, hI => by
    have hi := hI i (by simp)
    have hg := supv_get (t := t) hc hi
    obtain ⟨h1, h2, h3, h4⟩ := supR_spec (t := t) Is (supv c (rows.getD i [])) (supv_len hc hi) fun j hj => hI j (by simp [hj])
    have e : supR rows c (i :: Is) = supR rows (supv c (rows.getD i [])) Is := rfl
    rw [e]
    rw [hg] at h2 h4
    refine ⟨h1, by omega, fun j hj => ?_, ?_⟩
    · rcases List.mem_cons.1 hj with rfl | hj
      · omega
      · exact h3 j hj
    · rcases h4 with h4 | ⟨j, hj, h4⟩
      · by_cases hm : c.getD t 0 ≤ (rows.getD i []).getD t 0
        · exact .inr ⟨i, by simp, by omega⟩
        · exact .inl (by omega)
      · exact .inr ⟨j, by simp [hj], h4⟩
theorem bump_get {c : List Nat} {t u : Nat} (h : t < c.length) : (bump c t).getD u 0 = c.getD u 0 + if u = t then 1 else 0 := by
  unfold bump
  by_cases e : u = t
  · subst e; simp [List.getD, h]
  · rw [if_neg e]; simp [List.getD, Ne.symm e]
theorem preds_mem {es : List (Nat × Nat)} {i j : Nat} : i ∈ preds es j ↔ (i, j) ∈ es := by
  unfold preds
  constructor
  · intro h
    obtain ⟨p, hp, rfl⟩ := List.mem_map.1 h
    obtain ⟨h1, h2⟩ := List.mem_filter.1 hp
    have : p.2 = j := by simpa using h2
    rw [← this]; exact h1
  · intro h
    exact List.mem_map.2 ⟨(i, j), List.mem_filter.2 ⟨h, by simp⟩, rfl⟩
section
variable {ts : List Nat} {th : Nat} {es : List (Nat × Nat)} (hg : Good ts es) (hth : ∀ j, j < ts.length → ts.getD j 0 < th)
include hg hth
theorem row_spec : ∀ (n j : Nat), j < n → j < ts.length → (rowAt ts th es j).length = th ∧ ∀ t, ∃ F, (rowAt ts th es j).getD t 0 = F + (if t = ts.getD j 0 then 1 else 0) ∧
    (∀ i, (i, j) ∈ es → (rowAt ts th es i).getD t 0 ≤ F) ∧ (F = 0 ∨ ∃ i, (i, j) ∈ es ∧ F = (rowAt ts th es i).getD t 0)
  | n + 1, j, hn, hj => by
    have hrow : ∀ i ∈ preds es j, (clkTo ts th es j).getD i [] = rowAt ts th es i ∧ (rowAt ts th es i).length = th := fun i hi => by
      have h1 := (hg.lt _ (preds_mem.1 hi))
      have h2 : i < j := h1.1
      exact ⟨by simp [List.getD, clkTo_get ts th es h2], (row_spec n i (by omega) (by omega)).1⟩
    have hs := fun t => supR_spec (rows := clkTo ts th es j) (n := th) (t := t) (preds es j) (List.replicate th 0) (by simp) (fun i hi => by rw [(hrow i hi).1]; exact (hrow i hi).2)
    have hlen := (hs 0).1
    refine ⟨by unfold rowAt clkRow bump; rw [List.length_set]; exact hlen, fun t => ?_⟩
    obtain ⟨-, h2, h3, h4⟩ := hs t
    refine ⟨(supR (clkTo ts th es j) (List.replicate th 0) (preds es j)).getD t 0, ?_, fun i hi => ?_, ?_⟩
    · unfold rowAt clkRow
      exact bump_get (by rw [hlen]; exact hth j hj)
    · have := h3 i (preds_mem.2 hi)
      rwa [(hrow i (preds_mem.2 hi)).1] at this
    · have e0 : (List.replicate th 0).getD t 0 = 0 := by
        by_cases h : t < th
        · simp [List.getD, h]
        · simp [List.getD, h]
      rcases h4 with h4 | ⟨i, hi, h4⟩
      · exact .inl (h4.trans e0)
      · exact .inr ⟨i, preds_mem.1 hi, by rw [h4, (hrow i hi).1]⟩
theorem clk_mono {i j : Nat} (h : Pth es i j) (t : Nat) : (rowAt ts th es i).getD t 0 ≤ (rowAt ts th es j).getD t 0 := by
  induction h with
  | refl => exact Nat.le_refl _
  | @step j k _ e ih =>
    obtain ⟨F, h1, h2, -⟩ := (row_spec hg hth (k + 1) k (by omega) (hg.lt _ e).2).2 t
    have := h2 j e
    omega
theorem clk_own {j : Nat} (hj : j < ts.length) : 1 ≤ (rowAt ts th es j).getD (ts.getD j 0) 0 := by
  obtain ⟨F, h1, -⟩ := (row_spec hg hth (j + 1) j (by omega) hj).2 (ts.getD j 0)
  rw [h1, if_pos rfl]; omega
theorem clk_up {i j : Nat} (hij : i < j) (hj : j < ts.length) (ht : ts[i]? = ts[j]?) : (rowAt ts th es i).getD (ts.getD j 0) 0 < (rowAt ts th es j).getD (ts.getD j 0) 0 := by
  obtain ⟨p, h1, h2, h3⟩ := hg.ch i j hij hj ht
  have hp := (hg.lt _ h3).1
  obtain ⟨F, e1, e2, -⟩ := (row_spec hg hth (j + 1) j (by omega) hj).2 (ts.getD j 0)
  have := e2 p h3
  have := clk_mono hg hth (Pth.chain hg p p (Nat.le_refl _) h1 (by omega) (ht.trans h2.symm)) (ts.getD j 0)
  rw [e1, if_pos rfl]; omega
theorem clk_from : ∀ (n j : Nat), j < n → j < ts.length → ∀ t, 1 ≤ (rowAt ts th es j).getD t 0 → ∃ i, i < ts.length ∧ ts.getD i 0 = t ∧ Pth es i j ∧ (rowAt ts th es i).getD t 0 = (rowAt ts th es j).getD t 0
  | n + 1, j, hn, hj, t, h => by
    obtain ⟨F, h1, h2, h3⟩ := (row_spec hg hth (j + 1) j (by omega) hj).2 t
    by_cases e : t = ts.getD j 0
    · exact ⟨j, hj, e.symm, .refl _, rfl⟩
    · rw [if_neg e] at h1
      rcases h3 with h3 | ⟨i, hi, h3⟩
      · omega
      · have hl := hg.lt _ hi
        have hl1 : i < j := hl.1
        obtain ⟨q, q1, q2, q3, q4⟩ := clk_from n i (by omega) (by omega) t (by omega)
        exact ⟨q, q1, q2, q3.step hi, by omega⟩
theorem clk_path {i j : Nat} (hi : i < ts.length) (hj : j < ts.length) : (rowAt ts th es i).getD (ts.getD i 0) 0 ≤ (rowAt ts th es j).getD (ts.getD i 0) 0 ↔ Pth es i j := by
  refine ⟨fun h => ?_, fun h => clk_mono hg hth h _⟩
  have h0 := clk_own hg hth hi
  obtain ⟨q, q1, q2, q3, q4⟩ := clk_from hg hth (j + 1) j (by omega) hj (ts.getD i 0) (by omega)
  have hs : ts[q]? = ts[i]? := by
    rw [List.getElem?_eq_getElem q1, List.getElem?_eq_getElem hi]
    simp only [List.getD, List.getElem?_eq_getElem q1, List.getElem?_eq_getElem hi, Option.getD_some] at q2
    rw [q2]
  by_cases hqi : q < i
  · have := clk_up hg hth hqi hi hs
    omega
  · exact (Pth.chain hg q q (Nat.le_refl _) (by omega) q1 hs.symm).trans q3
end
end Go.Proofs.Ytiaaoajnecppnaa
end

section
namespace Go.Proofs.Ytiaaoajnecppnaa
open Go.Sort Go.Lib

section
variable {α : Type} [Inhabited α] [DecidableEq α]
theorem cu_mem (d : Array α) : ∀ (m : Nat) (x : α), x ∈ compactUpTo d m ↔ ∃ j, j < m ∧ d[j]! = x
  | 0, x => by simp [compactUpTo]
  | m + 1, x => by
    rw [compactUpTo_succ, List.mem_append, cu_mem d m x]
    constructor
    · rintro (⟨j, h1, h2⟩ | h)
      · exact ⟨j, by omega, h2⟩
      · split at h
        · exact ⟨m, by omega, (by simpa using h : x = d[m]!).symm⟩
        · cases h
    · rintro ⟨j, h1, h2⟩
      by_cases hj : j = m
      · subst hj
        cases hk : keeps d j with
        | true => right; rw [if_pos rfl, List.mem_singleton]; exact h2.symm
        | false =>
          have : ¬ (j = 0 ∨ d[j]! ≠ d[j - 1]!) := by simpa [keeps] using hk
          left
          have h0 : j ≠ 0 := fun e => this (.inl e)
          have h3 : d[j]! = d[j - 1]! := Classical.byContradiction fun h => this (.inr h)
          exact ⟨j - 1, by omega, by rw [← h3]; exact h2⟩
      · exact .inl ⟨j, by omega, h2⟩
theorem compact_mem (l : List α) (x : α) : x ∈ compact l ↔ x ∈ l := by
  unfold compact
  rw [cu_mem]
  constructor
  · rintro ⟨j, h1, h2⟩
    rw [getElem!_pos _ j (by simpa using h1)] at h2
    rw [← h2]; simp
  · intro h
    obtain ⟨j, hj, e⟩ := List.mem_iff_getElem.1 h
    exact ⟨j, hj, by rw [getElem!_pos _ j (by simpa using hj)]; simpa using e⟩
theorem compact_sub (l : List α) : (compact l).Sublist l := by
  unfold compact compactUpTo
  have h : (List.range l.length).map (l.toArray[·]!) = l := by
    have := range_map_get l.toArray
    simpa using this
  have h2 : (((List.range l.length).filter (keeps l.toArray)).map (l.toArray[·]!)).Sublist ((List.range l.length).map (l.toArray[·]!)) := List.filter_sublist.map _
  rw [h] at h2
  exact h2
end
def toDp (p : Nat × Nat) : Dp := ⟨p.1, p.2⟩
def edD (l : List Ev) : List Dp := compact (sortP ((wst l l.length).out.map toDp))
def edM (l : List Ev) : List (Nat × Nat) := (edD l).map fun d => (d.i.toNat, d.j.toNat)
theorem edD_mem {l : List Ev} {d : Dp} : d ∈ edD l ↔ ∃ p ∈ (wst l l.length).out, toDp p = d := by
  unfold edD
  rw [compact_mem, (sortP_perm _).mem_iff, List.mem_map]
theorem edD_eq (l : List Ev) : edD l = (edM l).map toDp := by
  unfold edM
  rw [List.map_map]
  refine (List.map_id _).symm.trans (List.map_congr_left fun d hd => ?_)
  obtain ⟨p, -, rfl⟩ := edD_mem.1 hd
  rfl
theorem edM_mem {l : List Ev} {p : Nat × Nat} : p ∈ edM l ↔ p ∈ (wst l l.length).out := by
  unfold edM
  rw [List.mem_map]
  constructor
  · rintro ⟨d, hd, rfl⟩
    obtain ⟨q, hq, rfl⟩ := edD_mem.1 hd
    exact hq
  · intro h
    exact ⟨toDp p, edD_mem.2 ⟨p, h, rfl⟩, rfl⟩
theorem edM_sorted (l : List Ev) : (edM l).Pairwise fun p q => p.2 ≤ q.2 := by
  unfold edM
  rw [List.pairwise_map]
  refine List.Pairwise.sublist (compact_sub _) ?_
  have := List.pairwise_mergeSort (le := fun x y => !(ltOf cfP) y x) (fun a b c h1 h2 => by
    rw [ltOf_cfP] at *
    simp at *
    omega) (fun a b => by
    rw [ltOf_cfP]
    simp
    omega) ((wst l l.length).out.map toDp)
  refine List.Pairwise.imp (fun {a b} h => ?_) this
  rw [ltOf_cfP] at h
  simp at h
  omega
/-- Threads as numbers. -/
def tsOf (l : List Ev) : List Nat := l.map fun e => e.t.toNat
theorem tsOf_len (l : List Ev) : (tsOf l).length = l.length := by simp [tsOf]
theorem edM_good {l : List Ev} (h0 : ∀ e ∈ l, 0 ≤ e.t) : Good (tsOf l) (edM l) := by
  refine ⟨fun p hp => ?_, fun i j hij hj ht => ?_⟩
  · have := (wst_b l l.length (Nat.le_refl _)).out p (edM_mem.1 hp)
    rw [tsOf_len]; exact this
  · rw [tsOf_len] at hj
    have hi : i < l.length := by omega
    unfold tsOf at ht ⊢
    rw [List.getElem?_map, List.getElem?_map, List.getElem?_eq_getElem hi, List.getElem?_eq_getElem hj] at ht
    simp only [Option.map_some, Option.some.injEq] at ht
    have t1 := h0 l[i] (List.getElem_mem hi)
    have t2 := h0 l[j] (List.getElem_mem hj)
    have ht' : l[i].t = l[j].t := by omega
    obtain ⟨w1, w2⟩ := wst_last l j (by omega)
    obtain ⟨p, p1, p2⟩ := w1 i hi hij
    rw [ht'] at p1
    obtain ⟨p3, p4⟩ := w2 _ _ p1
    refine ⟨p, p2, ?_, edM_mem.2 ?_⟩
    · rw [List.getElem?_map, List.getElem?_map, List.getElem?_eq_getElem p3, List.getElem?_eq_getElem hj, Option.map_some, Option.map_some, p4]
    · obtain ⟨m, e1, -⟩ := out_pre (l := l) (n := l.length) (k := j + 1) (by omega) (Nat.le_refl _)
      rw [e1, out_step hj]
      refine List.mem_append_left _ (List.mem_append_right _ (List.mem_append_left _ (List.mem_append_left _ ?_)))
      rw [p1]; simp [one?]
/-- More events behind: nothing ahead turns. -/
theorem edM_take {l : List Ev} {n : Nat} (hn : n ≤ l.length) {p : Nat × Nat} : p ∈ edM (l.take n) ↔ p ∈ edM l ∧ p.2 < n := by
  rw [edM_mem, edM_mem]
  have hl : (l.take n).length = n := by rw [List.length_take]; omega
  rw [hl, wst_take l n n (Nat.le_refl _)]
  obtain ⟨m, e1, e2⟩ := out_pre (l := l) (n := l.length) (k := n) hn (Nat.le_refl _)
  rw [e1]
  constructor
  · intro h
    exact ⟨List.mem_append_left _ h, ((wst_b l n hn).out p h).2⟩
  · rintro ⟨h, hp⟩
    rcases List.mem_append.1 h with h | h
    · exact h
    · have := e2 p h; omega
theorem pth_take {l : List Ev} {n : Nat} (hn : n ≤ l.length) {i j : Nat} (hj : j < n) : Pth (edM (l.take n)) i j ↔ Pth (edM l) i j := by
  constructor
  · intro h
    induction h with
    | refl => exact .refl _
    | @step j k _ e ih =>
      have h1 := (edM_take hn).1 e
      have := ((wst_b l l.length (Nat.le_refl _)).out _ (edM_mem.1 h1.1)).1
      exact (ih (by omega)).step h1.1
  · intro h
    induction h with
    | refl => exact .refl _
    | @step j k _ e ih =>
      have := ((wst_b l l.length (Nat.le_refl _)).out _ (edM_mem.1 e)).1
      exact (ih (by omega)).step ((edM_take hn).2 ⟨e, hj⟩)
end Go.Proofs.Ytiaaoajnecppnaa
end

section
namespace Go.Proofs.Ytiaaoajnecppnaa
open Go.RowKit

abbrev iD (n : Int) : D := .v (.int .i64 n)
abbrev key (t : Int) : Value := .int .i64 t
abbrev prD (p : Nat × Nat) : D := .agg [iD (p.1 : Int), iD (p.2 : Int)]
abbrev nD (n : Nat) : D := iD (n : Int)
abbrev nsD (l : List Nat) : List D := l.map nD
section
variable {α β : Type} (f : α → β)
theorem keq_key (a b : Int) : keq (key a) (key b) = decide (a = b) := by
  show ((IntKind.i64 == IntKind.i64) && (a == b)) = _
  have : (IntKind.i64 == IntKind.i64) = true := rfl
  rw [this, Bool.true_and]
  by_cases h : a = b
  · subst h; simp
  · rw [decide_eq_false h]; simpa using h
theorem mfind_map (k : Int) : ∀ M : List (Int × α), mfind (M.map fun p => (key p.1, f p.2)) (key k) = (af M k).map f
  | [] => rfl
  | (x, y) :: M => by
    rw [List.map_cons, mfind, keq_key, af]
    by_cases h : k = x
    · rw [decide_eq_true h, if_pos h]; rfl
    · rw [decide_eq_false h, if_neg h]; exact mfind_map k M
theorem mput_map (k : Int) (v : α) : ∀ M : List (Int × α), mput (M.map fun p => (key p.1, f p.2)) (key k) (f v) = (ap M k v).map fun p => (key p.1, f p.2)
  | [] => rfl
  | (x, y) :: M => by
    rw [List.map_cons, mput, keq_key, ap]
    by_cases h : k = x
    · rw [decide_eq_true h, if_pos h]; rfl
    · rw [decide_eq_false h, if_neg h]; simp only [cond_false]; rw [mput_map k v M]; rfl
theorem mdel_map (k : Int) : ∀ M : List (Int × α), mdel (M.map fun p => (key p.1, f p.2)) (key k) = (ad M k).map fun p => (key p.1, f p.2)
  | [] => rfl
  | (x, y) :: M => by
    rw [List.map_cons, mdel, keq_key, ad]
    by_cases h : k = x
    · rw [decide_eq_true h, if_pos h]; rfl
    · rw [decide_eq_false h, if_neg h]; simp only [cond_false]; rw [mdel_map k M]; rfl
end
def mI (M : List (Int × Nat)) : List (Value × D) := M.map fun p => (key p.1, nD p.2)
def rI (M : List (Int × List Nat)) : List (Value × Option (List D)) := M.map fun p => (key p.1, some (nsD p.2))
theorem mI_find (M : List (Int × Nat)) (k : Int) : mfind (mI M) (key k) = (af M k).map nD := mfind_map nD k M
theorem mI_put (M : List (Int × Nat)) (k : Int) (n : Nat) : mput (mI M) (key k) (nD n) = mI (ap M k n) := mput_map nD k n M
theorem rI_row (M : List (Int × List Nat)) (k : Int) : rowD (mfind (rI M) (key k)) = nsD (rowO (af M k)) := by
  have := mfind_map (fun l : List Nat => some (nsD l)) k M
  unfold rI
  rw [this]
  cases af M k <;> rfl
theorem rI_no (M : List (Int × List Nat)) (k : Int) : noN (mfind (rI M) (key k)) = true := by
  have := mfind_map (fun l : List Nat => some (nsD l)) k M
  unfold rI
  rw [this]
  cases af M k <;> rfl
theorem rI_put (M : List (Int × List Nat)) (k : Int) (l : List Nat) : mput (rI M) (key k) (some (nsD l)) = rI (ap M k l) := mput_map (fun l : List Nat => some (nsD l)) k l M
theorem rI_del (M : List (Int × List Nat)) (k : Int) : mdel (rI M) (key k) = rI (ad M k) := mdel_map (fun l : List Nat => some (nsD l)) k M
theorem nsD_snoc (l : List Nat) (n : Nat) : nsD l ++ [nD n] = nsD (l ++ [n]) := by simp [nsD]
/-- The weaver, and what it points to. -/
abbrev weaO (a b c d e x : Nat) (ver : Nat) (L : List D) (M1 : List (Value × D)) (R1 : List (Value × Option (List D))) (M2 : List (Value × D)) (R2 : List (Value × Option (List D))) : Ob :=
  [(a, .cells 76 [.mp b, .mp c, .mp d, .mp e, .stk x ver .all]), (b, .map (.int .i64) M1), (c, .rmap (.int .i64) 3 1 R1), (d, .map (.int .i64) M2), (e, .rmap (.int .i64) 3 1 R2), (x, .stk 35 2 ver L)]
abbrev WO (ver : Nat) (L : List D) (M1 : List (Value × D)) (R1 : List (Value × Option (List D))) (M2 : List (Value × D)) (R2 : List (Value × Option (List D))) : Ob := weaO 1000 1001 1002 1003 1004 1005 ver L M1 R1 M2 R2
abbrev evD (e : Ev) : D := .agg [iD e.k, iD e.st, iD e.t, iD e.f, iD e.at_, iD e.ln, iD e.A, iD e.B, iD e.vk, iD e.vn, iD e.ok, iD e.on]
abbrev evsD (l : List Ev) : D := .sl 12 (l.map evD)
/-- Rows are short. -/
structure WL (s : WS) (k : Nat) : Prop where
  spawns : ∀ p ∈ s.spawns, p.2.length ≤ k
  frees : ∀ p ∈ s.frees, p.2.length ≤ k
  out : s.out.length ≤ k * 500
theorem rowO_len {M : List (Int × List Nat)} {k : Nat} (h : ∀ p ∈ M, p.2.length ≤ k) (t : Int) : (rowO (af M t)).length ≤ k := by
  unfold rowO
  cases e : af M t with
  | none => exact Nat.zero_le _
  | some l => exact h _ (af_mem e)
theorem one_len (o : Option Nat) (j : Nat) : (one? o j).length ≤ 1 := by cases o <;> simp [one?]
theorem wnew_len {s : WS} {k : Nat} (h : WL s k) (j : Nat) (e : Ev) : (wnew s j e).length ≤ 1 + k + (1 + k) := by
  unfold wnew
  have h1 := one_len (af s.last e.t) j
  have h2 := rowO_len h.spawns e.t
  have h3 := one_len (af s.over e.A) j
  have h4 := rowO_len h.frees e.A
  rw [List.length_append, List.length_append, List.length_map]
  have : (if e.k = 12 then one? (af s.over e.A) j else if e.k = 13 then (rowO (af s.frees e.A)).map (·, j) else []).length ≤ 1 + k := by
    split
    · omega
    · split
      · rw [List.length_map]; omega
      · simp
  omega
theorem WL.step {s : WS} {k : Nat} (h : WL s k) (hk : k ≤ 200) (e : Ev) : WL (wev s k e) (k + 1) := by
  have hsp : ∀ p ∈ ad s.spawns e.t, p.2.length ≤ k := fun p hp => h.spawns p (ad_mem hp)
  refine ⟨fun p hp => ?_, fun p hp => ?_, ?_⟩
  · replace hp : p ∈ wsp s k e := hp
    unfold wsp at hp
    split at hp
    · rcases ap_mem hp with hp | hp
      · exact Nat.le_succ_of_le (hsp p hp)
      · rw [hp, List.length_append]; have := rowO_len hsp e.A; simp; omega
    · exact Nat.le_succ_of_le (hsp p hp)
  · replace hp : p ∈ wfr s k e := hp
    unfold wfr at hp
    split at hp
    · rcases ap_mem hp with hp | hp
      · exact Nat.le_succ_of_le (h.frees p hp)
      · rw [hp, List.length_append]; have := rowO_len h.frees e.A; simp; omega
    · split at hp
      · exact Nat.le_succ_of_le (h.frees p (ad_mem hp))
      · exact Nat.le_succ_of_le (h.frees p hp)
  · show (s.out ++ wnew s k e).length ≤ _
    have := wnew_len h k e
    have := h.out
    rw [List.length_append]; omega
theorem wst_l (l : List Ev) : ∀ k, k ≤ l.length → k ≤ 200 → WL (wst l k) k
  | 0, _, _ => ⟨fun p h => (by cases h), fun p h => (by cases h), by simp [wst]⟩
  | k + 1, h, h4 => by
    rw [wst, dif_pos (by omega)]
    exact (wst_l l k (by omega) (by omega)).step (by omega) _
end Go.Proofs.Ytiaaoajnecppnaa
end

section
namespace Go.Proofs.Ytiaaoajnecppnaa

def zrow (th : Nat) : List Nat := List.replicate th 0
theorem zrow_eq (th : Nat) : List.replicate th (D.v (.int .i64 0)) = nsD (zrow th) := by simp [zrow, nsD]
/-- The first rows, one that is being reckoned, and those behind it. -/
def gridD (cl : List (List Nat)) (c : List Nat) (n th : Nat) : List (List D) := cl.map nsD ++ nsD c :: List.replicate (n - 1 - cl.length) (nsD (zrow th))
def headD (cl : List (List Nat)) (n th : Nat) : List (List D) := cl.map nsD ++ List.replicate (n - cl.length) (nsD (zrow th))
theorem headD_eq {cl : List (List Nat)} {n th : Nat} (h : cl.length < n) : headD cl n th = gridD cl (zrow th) n th := by
  unfold headD gridD
  rw [show n - cl.length = (n - 1 - cl.length) + 1 from by omega, List.replicate_succ]
theorem gridD_step (cl : List (List Nat)) (c : List Nat) (n th : Nat) : gridD cl c n th = headD (cl ++ [c]) n th := by
  unfold headD gridD
  rw [List.map_append, List.append_assoc, List.length_append, List.length_singleton, show n - (cl.length + 1) = n - 1 - cl.length from by omega]; rfl
theorem headD_len {cl : List (List Nat)} {n th : Nat} (h : cl.length ≤ n) : (headD cl n th).length = n := by
  unfold headD; rw [List.length_append, List.length_map, List.length_replicate]; omega
theorem headD_all {cl : List (List Nat)} {n th : Nat} (h : cl.length = n) : headD cl n th = cl.map nsD := by
  unfold headD; rw [h, Nat.sub_self]; simp
theorem gridD_len {cl : List (List Nat)} {c : List Nat} {n th : Nat} (h : cl.length < n) : (gridD cl c n th).length = n := by
  unfold gridD; rw [List.length_append, List.length_map, List.length_cons, List.length_replicate]; omega
theorem gridD_at {cl : List (List Nat)} (c : List Nat) (n th : Nat) {j : Nat} (hj : cl.length = j) : (gridD cl c n th)[j]? = some (nsD c) := by
  unfold gridD
  rw [List.getElem?_append_right (by rw [List.length_map]; omega), List.length_map, hj, Nat.sub_self]; rfl
theorem gridD_lo {cl : List (List Nat)} (c : List Nat) (n th : Nat) {i : Nat} {r : List Nat} (h : cl[i]? = some r) : (gridD cl c n th)[i]? = some (nsD r) := by
  unfold gridD
  have hi := (List.getElem?_eq_some_iff.1 h).1
  rw [List.getElem?_append_left (by rw [List.length_map]; exact hi), List.getElem?_map, h]; rfl
theorem gridD_set {cl : List (List Nat)} (c c' : List Nat) (n th : Nat) {j : Nat} (hj : cl.length = j) : (gridD cl c n th).set j (nsD c') = gridD cl c' n th := by
  unfold gridD
  rw [List.set_append_right _ _ (by rw [List.length_map]; omega), List.length_map, hj, Nat.sub_self]; rfl
theorem nsD_set (c : List Nat) (t m : Nat) : (nsD c).set t (nD m) = nsD (c.set t m) := by simp [nsD, List.map_set]
theorem nsD_get {c : List Nat} {t : Nat} (h : t < c.length) : (nsD c)[t]? = some (nD (c.getD t 0)) := by
  rw [nsD, List.getElem?_map, List.getElem?_eq_getElem h]; simp [List.getD, h]
theorem grid_set {cl : List (List Nat)} (c : List Nat) (n th t m : Nat) {j : Nat} (hj : cl.length = j) : (gridD cl c n th).set j ((nsD c).set t (nD m)) = gridD cl (c.set t m) n th := by rw [nsD_set, gridD_set _ _ _ _ hj]
/-- The greater ones up to t. -/
def supTo (c r : List Nat) (t : Nat) : List Nat := (supv c r).take t ++ c.drop t
theorem supTo_zero (c r : List Nat) : supTo c r 0 = c := by simp [supTo]
theorem supTo_len {c r : List Nat} {n : Nat} (hc : c.length = n) (hr : r.length = n) (t : Nat) (ht : t ≤ n) : (supTo c r t).length = n := by
  unfold supTo
  rw [List.length_append, List.length_take, List.length_drop, supv_len hc hr]; omega
theorem supTo_all {c r : List Nat} {n : Nat} (hc : c.length = n) (hr : r.length = n) : supTo c r n = supv c r := by
  unfold supTo
  rw [List.take_of_length_le (by rw [supv_len hc hr]; exact Nat.le_refl _), List.drop_of_length_le (by omega), List.append_nil]
theorem supTo_get {c r : List Nat} {n t : Nat} (hc : c.length = n) (hr : r.length = n) (ht : t < n) : (supTo c r t).getD t 0 = c.getD t 0 := by
  unfold supTo
  have hl : ((supv c r).take t).length = t := by rw [List.length_take, supv_len hc hr]; omega
  simp only [List.getD]
  rw [List.getElem?_append_right (by omega), hl, Nat.sub_self, List.getElem?_drop, Nat.add_zero]
theorem supTo_step {c r : List Nat} {n t : Nat} (hc : c.length = n) (hr : r.length = n) (ht : t < n) : (supTo c r t).set t (max (c.getD t 0) (r.getD t 0)) = supTo c r (t + 1) := by
  unfold supTo
  have hs := supv_len hc hr
  have hl : ((supv c r).take t).length = t := by rw [List.length_take, hs]; omega
  rw [List.set_append_right _ _ (by omega), hl, Nat.sub_self, List.drop_eq_getElem_cons (show t < c.length by omega), List.set_cons_zero, List.take_succ_eq_append_getElem (show t < (supv c r).length by omega), List.append_assoc]
  have e : (supv c r)[t]'(by omega) = max (c.getD t 0) (r.getD t 0) := by
    have := supv_get (t := t) hc hr
    rw [← this]; simp [List.getD, List.getElem?_eq_getElem (show t < (supv c r).length by omega)]
  rw [e]; rfl
/-- Facts on clocks. -/
structure ClkF (ts : List Nat) (th : Nat) (es : List (Nat × Nat)) (n : Nat) (cl : Nat → List (List Nat)) : Prop where
  len : ∀ j, (cl j).length = j
  step : ∀ j, cl (j + 1) = cl j ++ [bump (supR (cl j) (zrow th) (preds es j)) (ts.getD j 0)]
  row : ∀ i j, i < j → j ≤ n → ∃ r, (cl j)[i]? = some r ∧ r.length = th ∧ ∀ t, r.getD t 0 ≤ i + 1
  zero : cl 0 = []
theorem clk_le {ts : List Nat} {th : Nat} {es : List (Nat × Nat)} (hg : Good ts es) (hth : ∀ j, j < ts.length → ts.getD j 0 < th) : ∀ (n j : Nat), j < n → j < ts.length → ∀ t, (rowAt ts th es j).getD t 0 ≤ j + 1
  | n + 1, j, hn, hj, t => by
    obtain ⟨F, h1, h2, h3⟩ := (row_spec hg hth (j + 1) j (by omega) hj).2 t
    have : F ≤ j := by
      rcases h3 with h3 | ⟨i, hi, h3⟩
      · omega
      · have hl := (hg.lt _ hi).1
        have hl : i < j := hl
        have := clk_le hg hth n i (by omega) (by omega) t
        omega
    split at h1 <;> omega
theorem clkF {ts : List Nat} {th : Nat} {es : List (Nat × Nat)} (hg : Good ts es) (hth : ∀ j, j < ts.length → ts.getD j 0 < th) : ClkF ts th es ts.length (clkTo ts th es) := by
  refine ⟨clkTo_len ts th es, fun j => rfl, fun i j hij hj => ?_, rfl⟩
  exact ⟨_, clkTo_get ts th es hij, (row_spec hg hth (i + 1) i (by omega) (by omega)).1, clk_le hg hth (i + 1) i (by omega) (by omega)⟩
theorem sup_ok {ts : List Nat} {th : Nat} {es : List (Nat × Nat)} {n : Nat} {cl : Nat → List (List Nat)} (F : ClkF ts th es n cl) {j : Nat} (hj : j ≤ n) (Is : List Nat) (h : ∀ i ∈ Is, i < j) :
    (supR (cl j) (zrow th) Is).length = th ∧ ∀ t, (supR (cl j) (zrow th) Is).getD t 0 ≤ j := by
  have hI : ∀ i ∈ Is, ((cl j).getD i []).length = th := fun i hi => by
    obtain ⟨r, h1, h2, -⟩ := F.row i j (h i hi) hj
    simp [List.getD, h1, h2]
  refine ⟨(supR_spec (t := 0) Is (zrow th) (by simp [zrow]) hI).1, fun t => ?_⟩
  obtain ⟨-, -, -, h4⟩ := supR_spec (t := t) Is (zrow th) (by simp [zrow]) hI
  rcases h4 with h4 | ⟨i, hi, h4⟩
  · rw [h4]
    have : (zrow th).getD t 0 = 0 := by
      unfold zrow
      by_cases h : t < th <;> simp [List.getD, h]
    omega
  · obtain ⟨r, h1, -, h3⟩ := F.row i j (h i hi) hj
    rw [h4]
    have e : (cl j).getD i [] = r := by simp [List.getD, h1]
    rw [e]
    have := h3 t
    have := h i hi
    omega
theorem preds_hit {es : List (Nat × Nat)} {q I J : Nat} (h : es[q]? = some (I, J)) : preds (es.take (q + 1)) J = preds (es.take q) J ++ [I] := by
  unfold preds
  have hq := (List.getElem?_eq_some_iff.1 h).1
  have he : es[q] = (I, J) := (List.getElem?_eq_some_iff.1 h).2
  rw [List.take_succ_eq_append_getElem hq, List.filter_append, List.map_append, he]
  simp
theorem preds_done {es : List (Nat × Nat)} {q j : Nat} (h : ∀ p ∈ es.drop q, p.2 ≠ j) : preds (es.take q) j = preds es j := by
  unfold preds
  conv => rhs; rw [← List.take_append_drop q es]
  rw [List.filter_append, List.map_append]
  have : (es.drop q).filter (fun p => p.2 == j) = [] := by
    rw [List.filter_eq_nil_iff]
    intro p hp
    simpa using h p hp
  rw [this]; simp
theorem preds_none {es : List (Nat × Nat)} {j : Nat} (h : ∀ p ∈ es, p.2 < j) : preds es j = [] := by
  unfold preds
  have : es.filter (fun p => p.2 == j) = [] := by
    rw [List.filter_eq_nil_iff]
    intro p hp
    have := h p hp
    simp; omega
  rw [this]; rfl
theorem supR_snoc (rows : List (List Nat)) (c : List Nat) (Is : List Nat) (i : Nat) : supR rows c (Is ++ [i]) = supv (supR rows c Is) (rows.getD i []) := by
  unfold supR; rw [List.foldl_append]; rfl
/-- How far the edges have come. -/
structure QI (es : List (Nat × Nat)) (j q : Nat) : Prop where
  le : q ≤ es.length
  lo : ∀ p ∈ es.take q, p.2 ≤ j
  hi : ∀ p ∈ es.drop q, j ≤ p.2
theorem QI.hit {es : List (Nat × Nat)} {j q I : Nat} (h : QI es j q) (hq : es[q]? = some (I, j)) : QI es j (q + 1) := by
  have hl := (List.getElem?_eq_some_iff.1 hq).1
  have he : es[q] = (I, j) := (List.getElem?_eq_some_iff.1 hq).2
  refine ⟨hl, fun p hp => ?_, fun p hp => h.hi p ?_⟩
  · rw [List.take_succ_eq_append_getElem hl] at hp
    rcases List.mem_append.1 hp with hp | hp
    · exact h.lo p hp
    · have : p = (I, j) := by rw [← he]; simpa using hp
      rw [this]; exact Nat.le_refl _
  · rw [List.drop_eq_getElem_cons hl]; exact List.mem_cons_of_mem _ hp
theorem QI.next {es : List (Nat × Nat)} {j q : Nat} (hs : es.Pairwise fun p r => p.2 ≤ r.2) (h : QI es j q) (hn : ∀ I J, es[q]? = some (I, J) → J ≠ j) : QI es (j + 1) q ∧ ∀ p ∈ es.drop q, p.2 ≠ j := by
  have key : ∀ p ∈ es.drop q, j + 1 ≤ p.2 := fun p hp => by
    have h1 := h.hi p hp
    by_cases hq : q < es.length
    · have hs2 := hs.sublist (List.drop_sublist q es)
      rw [List.drop_eq_getElem_cons hq] at hs2 hp
      rw [List.pairwise_cons] at hs2
      have h2 := hn es[q].1 es[q].2 (by rw [List.getElem?_eq_getElem hq])
      have h3 := h.hi es[q] (by rw [List.drop_eq_getElem_cons hq]; exact List.mem_cons_self)
      rcases List.mem_cons.1 hp with rfl | hp
      · omega
      · have := hs2.1 p hp; omega
    · rw [List.drop_of_length_le (by omega)] at hp; cases hp
  exact ⟨⟨h.le, fun p hp => Nat.le_succ_of_le (h.lo p hp), key⟩, fun p hp => by have := key p hp; omega⟩
end Go.Proofs.Ytiaaoajnecppnaa
end
