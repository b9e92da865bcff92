/-
  Clocks: what leads to what, and what clocks tell, in plain words.
-/
import Derived.Test.YtgadbofnccakgaaGj
namespace Go.Proofs.Ytgadbofnccakgaa

structure Ev where
  (k st t f at_ ln A B vk vn ok on : Int)
/-! ### Lists as maps -/
section
variable {α : Type}
def af : List (Int × α) → Int → Option α
  | [], _ => none
  | (x, y) :: M, k => if k = x then some y else af M k
def ap : List (Int × α) → Int → α → List (Int × α)
  | [], k, v => [(k, v)]
  | (x, y) :: M, k, v => if k = x then (x, v) :: M else (x, y) :: ap M k v
def ad : List (Int × α) → Int → List (Int × α)
  | [], _ => []
  | (x, y) :: M, k => if k = x then M else (x, y) :: ad M k
theorem af_mem : ∀ {M : List (Int × α)} {k : Int} {v : α}, af M k = some v → (k, v) ∈ M
  | (x, y) :: M, k, v, h => by
    rw [af] at h
    split at h
    · next e => cases h; rw [e]; exact List.mem_cons_self
    · exact List.mem_cons_of_mem _ (af_mem h)
theorem af_ap (k : Int) (v : α) (k' : Int) : ∀ M : List (Int × α), af (ap M k v) k' = if k' = k then some v else af M k'
  | [] => rfl
  | (x, y) :: M => by
    rw [ap]
    by_cases h : k = x
    · rw [if_pos h, af, af, h]
      split <;> rfl
    · rw [if_neg h, af, af, af_ap k v k' M]
      by_cases h2 : k' = x
      · rw [if_pos h2, if_pos h2, if_neg (by rw [h2]; exact fun e => h e.symm)]
      · rw [if_neg h2, if_neg h2]
theorem ap_mem {k : Int} {v : α} : ∀ {M : List (Int × α)} {p : Int × α}, p ∈ ap M k v → p ∈ M ∨ p.2 = v
  | [], p, h => by
    have : p = (k, v) := by simpa [ap] using h
    exact .inr (by rw [this])
  | (x, y) :: M, p, h => by
    rw [ap] at h
    split at h
    · rcases List.mem_cons.1 h with h | h
      · exact .inr (by rw [h])
      · exact .inl (List.mem_cons_of_mem _ h)
    · rcases List.mem_cons.1 h with h | h
      · exact .inl (by rw [h]; exact List.mem_cons_self)
      · rcases ap_mem h with h | h
        · exact .inl (List.mem_cons_of_mem _ h)
        · exact .inr h
theorem ad_mem {k : Int} : ∀ {M : List (Int × α)} {p : Int × α}, p ∈ ad M k → p ∈ M
  | (x, y) :: M, p, h => by
    rw [ad] at h
    split at h
    · exact List.mem_cons_of_mem _ h
    · rcases List.mem_cons.1 h with h | h
      · rw [h]; exact List.mem_cons_self
      · exact List.mem_cons_of_mem _ (ad_mem h)
end
/-! ### What leads to what -/
structure WS where
  (last : List (Int × Nat)) (spawns : List (Int × List Nat)) (over : List (Int × Nat)) (frees : List (Int × List Nat)) (out : List (Nat × Nat))
def one? (o : Option Nat) (j : Nat) : List (Nat × Nat) := match o with
  | some i => [(i, j)]
  | none => []
def rowO (o : Option (List Nat)) : List Nat := o.getD []
def wnew (s : WS) (j : Nat) (e : Ev) : List (Nat × Nat) :=
  one? (af s.last e.t) j ++ (rowO (af s.spawns e.t)).map (·, j) ++ (if e.k = 12 then one? (af s.over e.A) j else if e.k = 13 then (rowO (af s.frees e.A)).map (·, j) else [])
def wsp (s : WS) (j : Nat) (e : Ev) : List (Int × List Nat) :=
  if e.k = 11 then ap (ad s.spawns e.t) e.A (rowO (af (ad s.spawns e.t) e.A) ++ [j]) else ad s.spawns e.t
def wfr (s : WS) (j : Nat) (e : Ev) : List (Int × List Nat) :=
  if e.k = 14 then ap s.frees e.A (rowO (af s.frees e.A) ++ [j]) else if e.k = 13 then ad s.frees e.A else s.frees
def wev (s : WS) (j : Nat) (e : Ev) : WS :=
  ⟨ap s.last e.t j, wsp s j e, if e.k = 17 then ap s.over e.t j else s.over, wfr s j e, s.out ++ wnew s j e⟩
def wst (l : List Ev) : Nat → WS
  | 0 => ⟨[], [], [], [], []⟩
  | k + 1 => if h : k < l.length then wev (wst l k) k l[k] else wst l k
theorem wst_take (l : List Ev) (n : Nat) : ∀ k, k ≤ n → wst (l.take n) k = wst l k
  | 0, _ => rfl
  | k + 1, h => by
    rw [wst, wst, wst_take l n k (by omega)]
    by_cases hk : k < l.length
    · rw [dif_pos hk, dif_pos (by rw [List.length_take]; omega)]
      rw [List.getElem_take]
    · rw [dif_neg hk, dif_neg (by rw [List.length_take]; omega)]
structure WB (s : WS) (k : Nat) : Prop where
  last : ∀ p ∈ s.last, p.2 < k
  spawns : ∀ p ∈ s.spawns, ∀ i ∈ p.2, i < k
  over : ∀ p ∈ s.over, p.2 < k
  frees : ∀ p ∈ s.frees, ∀ i ∈ p.2, i < k
  out : ∀ p ∈ s.out, p.1 < p.2 ∧ p.2 < k
theorem one_mem {o : Option Nat} {j : Nat} {p : Nat × Nat} (h : p ∈ one? o j) : o = some p.1 ∧ p.2 = j := by
  unfold one? at h
  split at h
  · next i => have : p = (i, j) := by simpa using h
              rw [this]; exact ⟨rfl, rfl⟩
  · cases h
theorem rowO_mem {M : List (Int × List Nat)} {t : Int} {i : Nat} (h : i ∈ rowO (af M t)) : ∃ l, (t, l) ∈ M ∧ i ∈ l := by
  unfold rowO at h
  cases e : af M t with
  | none => rw [e] at h; cases h
  | some l => rw [e] at h; exact ⟨l, af_mem e, h⟩
theorem wnew_lt {s : WS} {k : Nat} (h : WB s k) {e : Ev} {p : Nat × Nat} (hp : p ∈ wnew s k e) : p.1 < k ∧ p.2 = k := by
  unfold wnew at hp
  have row : ∀ (M : List (Int × List Nat)) (t : Int), (∀ p ∈ M, ∀ i ∈ p.2, i < k) → p ∈ (rowO (af M t)).map (·, k) → p.1 < k ∧ p.2 = k := fun M t hM hp => by
    obtain ⟨i, hi, e⟩ := List.mem_map.1 hp
    obtain ⟨l, h1, h2⟩ := rowO_mem hi
    rw [← e]; exact ⟨hM _ h1 i h2, rfl⟩
  rcases List.mem_append.1 hp with hp | hp
  · rcases List.mem_append.1 hp with hp | hp
    · obtain ⟨h1, h2⟩ := one_mem hp
      exact ⟨h.last _ (af_mem h1), h2⟩
    · exact row _ _ h.spawns hp
  · split at hp
    · obtain ⟨h1, h2⟩ := one_mem hp
      exact ⟨h.over _ (af_mem h1), h2⟩
    · split at hp
      · exact row _ _ h.frees hp
      · cases hp
theorem WB.step {s : WS} {k : Nat} (h : WB s k) (e : Ev) : WB (wev s k e) (k + 1) := by
  have grow : ∀ (M : List (Int × List Nat)) (t : Int), (∀ p ∈ M, ∀ i ∈ p.2, i < k) → ∀ p ∈ ap M t (rowO (af M t) ++ [k]), ∀ i ∈ p.2, i < k + 1 := fun M t hM p hp i hi => by
    rcases ap_mem hp with hp | hp
    · exact Nat.lt_succ_of_lt (hM p hp i hi)
    · rw [hp] at hi
      rcases List.mem_append.1 hi with hi | hi
      · obtain ⟨l, h1, h2⟩ := rowO_mem hi
        exact Nat.lt_succ_of_lt (hM _ h1 i h2)
      · have : i = k := by simpa using hi
        omega
  have hsp : ∀ p ∈ ad s.spawns e.t, ∀ i ∈ p.2, i < k := fun p hp => h.spawns p (ad_mem hp)
  refine ⟨fun p hp => ?_, fun p hp i hi => ?_, fun p hp => ?_, fun p hp i hi => ?_, fun p hp => ?_⟩
  · rcases ap_mem hp with hp | hp
    · exact Nat.lt_succ_of_lt (h.last p hp)
    · omega
  · replace hp : p ∈ wsp s k e := hp
    unfold wsp at hp
    split at hp
    · exact grow _ _ hsp p hp i hi
    · exact Nat.lt_succ_of_lt (hsp p hp i hi)
  · replace hp : p ∈ (if e.k = 17 then ap s.over e.t k else s.over) := hp
    split at hp
    · rcases ap_mem hp with hp | hp
      · exact Nat.lt_succ_of_lt (h.over p hp)
      · omega
    · exact Nat.lt_succ_of_lt (h.over p hp)
  · replace hp : p ∈ wfr s k e := hp
    unfold wfr at hp
    split at hp
    · exact grow _ _ h.frees p hp i hi
    · split at hp
      · exact Nat.lt_succ_of_lt (h.frees p (ad_mem hp) i hi)
      · exact Nat.lt_succ_of_lt (h.frees p hp i hi)
  · rcases List.mem_append.1 hp with hp | hp
    · exact ⟨(h.out p hp).1, Nat.lt_succ_of_lt (h.out p hp).2⟩
    · have := wnew_lt h hp
      omega
theorem wst_b (l : List Ev) : ∀ k, k ≤ l.length → WB (wst l k) k
  | 0, _ => ⟨fun p h => (by cases h), fun p h => (by cases h), fun p h => (by cases h), fun p h => (by cases h), fun p h => (by cases h)⟩
  | k + 1, h => by
    rw [wst, dif_pos (by omega)]
    exact (wst_b l k (by omega)).step _
theorem wst_last (l : List Ev) : ∀ k, k ≤ l.length → (∀ i (h : i < l.length), i < k → ∃ p, af (wst l k).last l[i].t = some p ∧ i ≤ p) ∧ ∀ t p, af (wst l k).last t = some p → ∃ h : p < l.length, l[p].t = t
  | 0, _ => ⟨fun i _ h => (by omega), fun t p h => (by cases h)⟩
  | k + 1, hk => by
    obtain ⟨h1, h2⟩ := wst_last l k (by omega)
    have e : wst l (k + 1) = wev (wst l k) k l[k] := by rw [wst, dif_pos (by omega)]
    have e2 : (wst l (k + 1)).last = ap (wst l k).last l[k].t k := by rw [e]; rfl
    refine ⟨fun i hi hik => ?_, fun t p hp => ?_⟩
    · rw [e2, af_ap]
      split
      · exact ⟨k, rfl, by omega⟩
      · next hne =>
        have : i ≠ k := fun e => hne (by subst e; rfl)
        exact h1 i hi (by omega)
    · rw [e2, af_ap] at hp
      split at hp
      · next ht => cases hp; exact ⟨by omega, ht.symm⟩
      · exact h2 t p hp
theorem out_step {l : List Ev} {k : Nat} (h : k < l.length) : (wst l (k + 1)).out = (wst l k).out ++ wnew (wst l k) k l[k] := by rw [wst, dif_pos h]; rfl
theorem out_pre {l : List Ev} : ∀ {n k : Nat}, k ≤ n → n ≤ l.length → ∃ m, (wst l n).out = (wst l k).out ++ m ∧ ∀ p ∈ m, k ≤ p.2
  | 0, k, h, _ => by obtain rfl : k = 0 := by omega
                     exact ⟨[], by simp, fun p h => by cases h⟩
  | n + 1, k, h, hn => by
    by_cases hk : k = n + 1
    · subst hk; exact ⟨[], by simp, fun p h => by cases h⟩
    · obtain ⟨m, h1, h2⟩ := out_pre (l := l) (n := n) (k := k) (by omega) (by omega)
      refine ⟨m ++ wnew (wst l n) n l[n], by rw [out_step (by omega), h1, List.append_assoc], fun p hp => ?_⟩
      rcases List.mem_append.1 hp with hp | hp
      · exact h2 p hp
      · have := wnew_lt (wst_b l n (by omega)) hp; omega
/-! ### Paths and clocks -/
inductive Pth (es : List (Nat × Nat)) : Nat → Nat → Prop
  | refl (i : Nat) : Pth es i i
  | step {i j k : Nat} (h : Pth es i j) (e : (j, k) ∈ es) : Pth es i k
theorem Pth.trans {es : List (Nat × Nat)} {i j k : Nat} (h : Pth es i j) (h' : Pth es j k) : Pth es i k := by
  induction h' with
  | refl => exact h
  | step _ e ih => exact ih.step e
/-- Of places with threads ts: whoever leads there stands ahead; of a thread one leads to the next. -/
structure Good (ts : List Nat) (es : List (Nat × Nat)) : Prop where
  lt : ∀ p ∈ es, p.1 < p.2 ∧ p.2 < ts.length
  ch : ∀ i j, i < j → j < ts.length → ts[i]? = ts[j]? → ∃ p, i ≤ p ∧ ts[p]? = ts[j]? ∧ (p, j) ∈ es
theorem Pth.le {ts : List Nat} {es : List (Nat × Nat)} (hg : Good ts es) {i j : Nat} (h : Pth es i j) : i ≤ j := by
  induction h with
  | refl => exact Nat.le_refl _
  | step _ e ih => have := (hg.lt _ e).1; omega
theorem Pth.chain {ts : List Nat} {es : List (Nat × Nat)} (hg : Good ts es) {i : Nat} : ∀ (n j : Nat), j ≤ n → i ≤ j → j < ts.length → ts[i]? = ts[j]? → Pth es i j
  | 0, j, h0, hij, _, _ => by obtain rfl : i = j := by omega
                              exact .refl _
  | n + 1, j, hn, hij, hj, ht => by
    by_cases e : i = j
    · subst e; exact .refl _
    · obtain ⟨p, h1, h2, h3⟩ := hg.ch i j (by omega) hj ht
      have := (hg.lt _ h3).1
      exact (Pth.chain hg n p (by omega) h1 (by omega) (ht.trans h2.symm)).step h3
def supv (a b : List Nat) : List Nat := List.zipWith max a b
def bump (c : List Nat) (t : Nat) : List Nat := c.set t (c.getD t 0 + 1)
def preds (es : List (Nat × Nat)) (j : Nat) : List Nat := (es.filter (·.2 == j)).map (·.1)
def supR (rows : List (List Nat)) (c : List Nat) (Is : List Nat) : List Nat := Is.foldl (fun c i => supv c (rows.getD i [])) c
def clkRow (rows : List (List Nat)) (th : Nat) (Is : List Nat) (t : Nat) : List Nat := bump (supR rows (List.replicate th 0) Is) t
def clkTo (ts : List Nat) (th : Nat) (es : List (Nat × Nat)) : Nat → List (List Nat)
  | 0 => []
  | j + 1 => clkTo ts th es j ++ [clkRow (clkTo ts th es j) th (preds es j) (ts.getD j 0)]
theorem clkTo_len (ts : List Nat) (th : Nat) (es : List (Nat × Nat)) : ∀ n, (clkTo ts th es n).length = n
  | 0 => rfl
  | n + 1 => by rw [clkTo, List.length_append, clkTo_len ts th es n]; rfl
def rowAt (ts : List Nat) (th : Nat) (es : List (Nat × Nat)) (j : Nat) : List Nat := clkRow (clkTo ts th es j) th (preds es j) (ts.getD j 0)
theorem clkTo_get (ts : List Nat) (th : Nat) (es : List (Nat × Nat)) : ∀ {n i : Nat}, i < n → (clkTo ts th es n)[i]? = some (rowAt ts th es i)
  | n + 1, i, h => by
    rw [clkTo]
    by_cases e : i = n
    · subst e
      rw [List.getElem?_append_right (by rw [clkTo_len]; exact Nat.le_refl _), clkTo_len]; simp [rowAt]
    · rw [List.getElem?_append_left (by rw [clkTo_len]; omega)]
      exact clkTo_get ts th es (by omega)
theorem supv_len {a b : List Nat} {n : Nat} (ha : a.length = n) (hb : b.length = n) : (supv a b).length = n := by simp [supv, ha, hb]
theorem supv_get {a b : List Nat} {n t : Nat} (ha : a.length = n) (hb : b.length = n) : (supv a b).getD t 0 = max (a.getD t 0) (b.getD t 0) := by
  by_cases h : t < n
  · simp [supv, List.getD, List.getElem?_zipWith, List.getElem?_eq_getElem (show t < a.length by omega), List.getElem?_eq_getElem (show t < b.length by omega)]
  · simp [supv, List.getD, List.getElem?_zipWith, List.getElem?_eq_none (show a.length ≤ t by omega), List.getElem?_eq_none (show b.length ≤ t by omega)]
theorem supR_spec {rows : List (List Nat)} {n t : Nat} : ∀ (Is : List Nat) (c : List Nat), c.length = n → (∀ i ∈ Is, (rows.getD i []).length = n) →
    (supR rows c Is).length = n ∧ c.getD t 0 ≤ (supR rows c Is).getD t 0 ∧ (∀ i ∈ Is, (rows.getD i []).getD t 0 ≤ (supR rows c Is).getD t 0) ∧ ((supR rows c Is).getD t 0 = c.getD t 0 ∨ ∃ i ∈ Is, (supR rows c Is).getD t 0 = (rows.getD i []).getD t 0)
  | [], c, hc, _ => ⟨hc, Nat.le_refl _, fun i h => (by cases h), .inl rfl⟩
  | i :: Is, c, hc, hI => by
    have hi := hI i (by simp)
    have hg := supv_get (t := t) hc hi
    obtain ⟨h1, h2, h3, h4⟩ := supR_spec (t := t) Is (supv c (rows.getD i [])) (supv_len hc hi) fun j hj => hI j (by simp [hj])
    have e : supR rows c (i :: Is) = supR rows (supv c (rows.getD i [])) Is := rfl
    rw [e]
    rw [hg] at h2 h4
    refine ⟨h1, by omega, fun j hj => ?_, ?_⟩
    · rcases List.mem_cons.1 hj with rfl | hj
      · omega
      · exact h3 j hj
    · rcases h4 with h4 | ⟨j, hj, h4⟩
      · by_cases hm : c.getD t 0 ≤ (rows.getD i []).getD t 0
        · exact .inr ⟨i, by simp, by omega⟩
        · exact .inl (by omega)
      · exact .inr ⟨j, by simp [hj], h4⟩
theorem bump_get {c : List Nat} {t u : Nat} (h : t < c.length) : (bump c t).getD u 0 = c.getD u 0 + if u = t then 1 else 0 := by
  unfold bump
  by_cases e : u = t
  · subst e; simp [List.getD, h]
  · rw [if_neg e]; simp [List.getD, Ne.symm e]
theorem preds_mem {es : List (Nat × Nat)} {i j : Nat} : i ∈ preds es j ↔ (i, j) ∈ es := by
  unfold preds
  constructor
  · intro h
    obtain ⟨p, hp, rfl⟩ := List.mem_map.1 h
    obtain ⟨h1, h2⟩ := List.mem_filter.1 hp
    have : p.2 = j := by simpa using h2
    rw [← this]; exact h1
  · intro h
    exact List.mem_map.2 ⟨(i, j), List.mem_filter.2 ⟨h, by simp⟩, rfl⟩
section
variable {ts : List Nat} {th : Nat} {es : List (Nat × Nat)} (hg : Good ts es) (hth : ∀ j, j < ts.length → ts.getD j 0 < th)
include hg hth
theorem row_spec : ∀ (n j : Nat), j < n → j < ts.length → (rowAt ts th es j).length = th ∧ ∀ t, ∃ F, (rowAt ts th es j).getD t 0 = F + (if t = ts.getD j 0 then 1 else 0) ∧
    (∀ i, (i, j) ∈ es → (rowAt ts th es i).getD t 0 ≤ F) ∧ (F = 0 ∨ ∃ i, (i, j) ∈ es ∧ F = (rowAt ts th es i).getD t 0)
  | n + 1, j, hn, hj => by
    have hrow : ∀ i ∈ preds es j, (clkTo ts th es j).getD i [] = rowAt ts th es i ∧ (rowAt ts th es i).length = th := fun i hi => by
      have h1 := (hg.lt _ (preds_mem.1 hi))
      have h2 : i < j := h1.1
      exact ⟨by simp [List.getD, clkTo_get ts th es h2], (row_spec n i (by omega) (by omega)).1⟩
    have hs := fun t => supR_spec (rows := clkTo ts th es j) (n := th) (t := t) (preds es j) (List.replicate th 0) (by simp) (fun i hi => by rw [(hrow i hi).1]; exact (hrow i hi).2)
    have hlen := (hs 0).1
    refine ⟨by unfold rowAt clkRow bump; rw [List.length_set]; exact hlen, fun t => ?_⟩
    obtain ⟨-, h2, h3, h4⟩ := hs t
    refine ⟨(supR (clkTo ts th es j) (List.replicate th 0) (preds es j)).getD t 0, ?_, fun i hi => ?_, ?_⟩
    · unfold rowAt clkRow
      exact bump_get (by rw [hlen]; exact hth j hj)
    · have := h3 i (preds_mem.2 hi)
      rwa [(hrow i (preds_mem.2 hi)).1] at this
    · have e0 : (List.replicate th 0).getD t 0 = 0 := by
        by_cases h : t < th
        · simp [List.getD, h]
        · simp [List.getD, h]
      rcases h4 with h4 | ⟨i, hi, h4⟩
      · exact .inl (h4.trans e0)
      · exact .inr ⟨i, preds_mem.1 hi, by rw [h4, (hrow i hi).1]⟩
theorem clk_mono {i j : Nat} (h : Pth es i j) (t : Nat) : (rowAt ts th es i).getD t 0 ≤ (rowAt ts th es j).getD t 0 := by
  induction h with
  | refl => exact Nat.le_refl _
  | @step j k _ e ih =>
    obtain ⟨F, h1, h2, -⟩ := (row_spec hg hth (k + 1) k (by omega) (hg.lt _ e).2).2 t
    have := h2 j e
    omega
theorem clk_own {j : Nat} (hj : j < ts.length) : 1 ≤ (rowAt ts th es j).getD (ts.getD j 0) 0 := by
  obtain ⟨F, h1, -⟩ := (row_spec hg hth (j + 1) j (by omega) hj).2 (ts.getD j 0)
  rw [h1, if_pos rfl]; omega
theorem clk_up {i j : Nat} (hij : i < j) (hj : j < ts.length) (ht : ts[i]? = ts[j]?) : (rowAt ts th es i).getD (ts.getD j 0) 0 < (rowAt ts th es j).getD (ts.getD j 0) 0 := by
  obtain ⟨p, h1, h2, h3⟩ := hg.ch i j hij hj ht
  have hp := (hg.lt _ h3).1
  obtain ⟨F, e1, e2, -⟩ := (row_spec hg hth (j + 1) j (by omega) hj).2 (ts.getD j 0)
  have := e2 p h3
  have := clk_mono hg hth (Pth.chain hg p p (Nat.le_refl _) h1 (by omega) (ht.trans h2.symm)) (ts.getD j 0)
  rw [e1, if_pos rfl]; omega
theorem clk_from : ∀ (n j : Nat), j < n → j < ts.length → ∀ t, 1 ≤ (rowAt ts th es j).getD t 0 → ∃ i, i < ts.length ∧ ts.getD i 0 = t ∧ Pth es i j ∧ (rowAt ts th es i).getD t 0 = (rowAt ts th es j).getD t 0
  | n + 1, j, hn, hj, t, h => by
    obtain ⟨F, h1, h2, h3⟩ := (row_spec hg hth (j + 1) j (by omega) hj).2 t
    by_cases e : t = ts.getD j 0
    · exact ⟨j, hj, e.symm, .refl _, rfl⟩
    · rw [if_neg e] at h1
      rcases h3 with h3 | ⟨i, hi, h3⟩
      · omega
      · have hl := hg.lt _ hi
        have hl1 : i < j := hl.1
        obtain ⟨q, q1, q2, q3, q4⟩ := clk_from n i (by omega) (by omega) t (by omega)
        exact ⟨q, q1, q2, q3.step hi, by omega⟩
theorem clk_path {i j : Nat} (hi : i < ts.length) (hj : j < ts.length) : (rowAt ts th es i).getD (ts.getD i 0) 0 ≤ (rowAt ts th es j).getD (ts.getD i 0) 0 ↔ Pth es i j := by
  refine ⟨fun h => ?_, fun h => clk_mono hg hth h _⟩
  have h0 := clk_own hg hth hi
  obtain ⟨q, q1, q2, q3, q4⟩ := clk_from hg hth (j + 1) j (by omega) hj (ts.getD i 0) (by omega)
  have hs : ts[q]? = ts[i]? := by
    rw [List.getElem?_eq_getElem q1, List.getElem?_eq_getElem hi]
    simp only [List.getD, List.getElem?_eq_getElem q1, List.getElem?_eq_getElem hi, Option.getD_some] at q2
    rw [q2]
  by_cases hqi : q < i
  · have := clk_up hg hth hqi hi hs
    omega
  · exact (Pth.chain hg q q (Nat.le_refl _) (by omega) q1 hs.symm).trans q3
end
end Go.Proofs.Ytgadbofnccakgaa
