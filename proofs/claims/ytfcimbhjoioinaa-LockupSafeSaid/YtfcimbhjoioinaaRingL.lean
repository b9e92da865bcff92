/-
  The law of Ring: who waits for whom goes round, or has an order.
-/
import Derived.Test.YtfcimbhjoioinaaRankL
import Derived.Test.YtfcimbhjoioinaaDw
namespace Go.Proofs.Ytfcimbhjoioinaa

def thrB (n : Int) : Bool := decide (0 ≤ n) && decide (n < 8)
def rE (l : List Dw) : Nat → Int
  | 0 => 0
  | k + 1 => if rE l k = 0 then (if thrB (l.getD k .z).t = false ∨ thrB (l.getD k .z).f = false then 1 else if (l.take k).any (fun w => w.t == (l.getD k .z).t) then 6 else 0) else rE l k
def ringE (l : List Dw) : Int := if 8 < l.length then 2 else rE l l.length
/-- For whom a thread waits. -/
def nx (l : List Dw) (t : Int) : Option Int := (l.find? fun w => w.t == t).map (·.f)
def ringGo (N : Int → Option Int) (t : Int) : Nat → List Int → Option Int → Option (List Int)
  | 0, _, _ => none
  | _ + 1, _, none => none
  | f + 1, r, some n => if n = t then some r else if n ∈ r then none else ringGo N t f (r ++ [n]) (N n)
def ringFrom (N : Int → Option Int) (t : Int) : Option (List Int) := ringGo N t 9 [t] (N t)
def ringAt (N : Int → Option Int) : Nat → Option (List Int)
  | 0 => none
  | t + 1 => match ringAt N t with
    | some r => some r
    | none => ringFrom N (t : Int)
def ringM (l : List Dw) : (List Int × Bool) × Int := if ringE l = 0 then (((ringAt (nx l) 8).getD [], (ringAt (nx l) 8).isSome), 0) else (([], false), ringE l)

theorem rE_ok {l : List Dw} : ∀ k, k ≤ l.length → rE l k = 0 → (∀ i, i < k → thrB (l.getD i .z).t = true ∧ thrB (l.getD i .z).f = true ∧ ∀ j, j < i → (l.getD j .z).t ≠ (l.getD i .z).t)
  | 0, _, _, i, hi => by omega
  | k + 1, hk, h, i, hi => by
    rw [rE] at h
    split at h
    · next h0 =>
      by_cases e : i < k
      · exact rE_ok k (by omega) h0 i e
      · obtain rfl : i = k := by omega
        split at h
        · omega
        · next c1 =>
          split at h
          · omega
          · next c2 =>
            refine ⟨by cases hb : thrB (l.getD i .z).t <;> simp_all, by cases hb : thrB (l.getD i .z).f <;> simp_all, fun j hj e => c2 ?_⟩
            rw [List.any_eq_true]
            refine ⟨l.getD j .z, ?_, by simpa using e⟩
            rw [List.getD_eq_getElem?_getD, List.getElem?_eq_getElem (by omega)]
            exact List.mem_take_iff_getElem.2 ⟨j, by omega, rfl⟩
    · next h0 => exact absurd h h0
theorem nx_some {l : List Dw} {t n : Int} (h : nx l t = some n) : ∃ w ∈ l, w.t = t ∧ w.f = n := by
  unfold nx at h
  cases hf : l.find? (fun w => w.t == t) with
  | none => rw [hf] at h; cases h
  | some w =>
    rw [hf] at h
    exact ⟨w, List.mem_of_find?_eq_some hf, by simpa using List.find?_some hf, by simpa using h⟩
theorem nx_of {l : List Dw} (hu : ∀ i, i < l.length → ∀ j, j < i → (l.getD j .z).t ≠ (l.getD i .z).t) {w : Dw} (hw : w ∈ l) : nx l w.t = some w.f := by
  unfold nx
  obtain ⟨i, hi, rfl⟩ := List.getElem_of_mem hw
  have : l.find? (fun w => w.t == l[i].t) = some l[i] := by
    rw [List.find?_eq_some_iff_getElem]
    refine ⟨by simp, i, hi, rfl, fun j hj => ?_⟩
    have := hu i hi j hj
    rw [List.getD_eq_getElem?_getD, List.getD_eq_getElem?_getD, List.getElem?_eq_getElem hi, List.getElem?_eq_getElem (by omega)] at this
    simpa using this
  rw [this]; rfl

/-! ### Rings -/
/-- A row in which each leads to the next, and the last to the first. -/
structure Ring (N : Int → Option Int) (r : List Int) : Prop where
  pos : 0 < r.length
  step : ∀ i, i < r.length → N (r.getD i 0) = some (r.getD ((i + 1) % r.length) 0)
theorem getD_app0 (r : List Int) (n : Int) (i : Nat) : (r ++ [n]).getD i 0 = if i < r.length then r.getD i 0 else if i = r.length then n else 0 := by
  rw [List.getD_eq_getElem?_getD]
  split
  · next h => rw [List.getElem?_append_left h, List.getD_eq_getElem?_getD]
  · next h =>
    rw [List.getElem?_append_right (by omega)]
    split
    · next e => rw [e, Nat.sub_self]; rfl
    · next e => rw [List.getElem?_eq_none (by simp; omega)]; rfl
theorem ringGo_ring {N : Int → Option Int} {t : Int} : ∀ (f : Nat) (r : List Int) (o : Option Int), 0 < r.length → r.getD 0 0 = t → (∀ i, i + 1 < r.length → N (r.getD i 0) = some (r.getD (i + 1) 0)) → N (r.getD (r.length - 1) 0) = o → ∀ q, ringGo N t f r o = some q → Ring N q ∧ q.getD 0 0 = t
  | 0, r, o, _, _, _, _, q, h => by rw [ringGo] at h; cases h
  | f + 1, r, none, _, _, _, _, q, h => by rw [ringGo] at h; cases h
  | f + 1, r, some n, h0, ht, hs, hl, q, h => by
    rw [ringGo] at h
    split at h
    · next e =>
      cases h
      refine ⟨⟨h0, fun i hi => ?_⟩, ht⟩
      by_cases hlt : i + 1 < r.length
      · rw [Nat.mod_eq_of_lt hlt]; exact hs i hlt
      · rw [show i = r.length - 1 from by omega, hl, show r.length - 1 + 1 = r.length from by omega, Nat.mod_self, ht, e]
    · split at h
      · cases h
      · refine ringGo_ring f (r ++ [n]) (N n) (by simp) (by rw [getD_app0, if_pos h0]; exact ht) (fun i hi => ?_) ?_ q h
        · rw [List.length_append, List.length_singleton] at hi
          rw [getD_app0, getD_app0, if_pos (by omega)]
          by_cases hlt : i + 1 < r.length
          · rw [if_pos hlt]; exact hs i hlt
          · rw [if_neg hlt, if_pos (by omega), show i = r.length - 1 from by omega, hl]
        · rw [List.length_append, List.length_singleton, Nat.add_sub_cancel, getD_app0, if_neg (by omega), if_pos rfl]
/-- m steps on. -/
def iter (N : Int → Option Int) : Nat → Int → Option Int
  | 0, t => some t
  | m + 1, t => (iter N m t).bind N
theorem iter_add (N : Int → Option Int) (a : Nat) (t : Int) : ∀ b, iter N (a + b) t = (iter N a t).bind (iter N b)
  | 0 => by rw [Nat.add_zero]; cases iter N a t <;> rfl
  | b + 1 => by
    rw [← Nat.add_assoc, iter, iter_add N a t b]
    cases h : iter N a t with
    | none => rfl
    | some x => rfl
/-- Who comes back finds his ring. -/
theorem ringGo_back {N : Int → Option Int} {t : Int} {m : Nat} (hm : iter N m t = some t) (hmin : ∀ k, 0 < k → k < m → iter N k t ≠ some t) :
    ∀ (f k : Nat) (r : List Int), k + f = m → 0 < k → (∀ x, x ∈ r ↔ ∃ j, j < k ∧ iter N j t = some x) → ∃ q, ringGo N t (f + 1) r (iter N k t) = some q
  | 0, k, r, hk, h0, hr => by
    obtain rfl : k = m := by omega
    rw [hm, ringGo, if_pos rfl]
    exact ⟨r, rfl⟩
  | f + 1, k, r, hk, h0, hr => by
    cases hi : iter N k t with
    | none =>
      exfalso
      have := iter_add N k t (f + 1)
      rw [hk, hm, hi] at this
      cases this
    | some n =>
      have hne : n ≠ t := fun e => hmin k h0 (by omega) (by rw [hi, e])
      have hnot : n ∉ r := fun hn => by
        obtain ⟨j, hj, hjn⟩ := (hr n).1 hn
        -- then it would come back sooner
        have h1 := iter_add N k t (f + 1)
        rw [hk, hm, hi] at h1
        have h2 := iter_add N j t (f + 1)
        rw [hjn] at h2
        have h3 : iter N (j + (f + 1)) t = some t := h2.trans h1.symm
        exact hmin (j + (f + 1)) (by omega) (by omega) h3
      rw [ringGo, if_neg hne, if_neg hnot]
      have hs : N n = iter N (k + 1) t := by rw [iter, hi]; rfl
      rw [hs]
      refine ringGo_back hm hmin f (k + 1) (r ++ [n]) (by omega) (by omega) fun x => ?_
      rw [List.mem_append, List.mem_singleton, hr]
      constructor
      · rintro (⟨j, hj, e⟩ | e)
        · exact ⟨j, by omega, e⟩
        · subst e; exact ⟨k, by omega, hi⟩
      · rintro ⟨j, hj, e⟩
        by_cases hjk : j < k
        · exact .inl ⟨j, hjk, e⟩
        · obtain rfl : j = k := by omega
          rw [hi] at e
          exact .inr (by simpa using e.symm)
theorem ringGo_more {N : Int → Option Int} {t : Int} {q : List Int} : ∀ (f : Nat) (r : List Int) (o : Option Int), ringGo N t f r o = some q → ringGo N t (f + 1) r o = some q
  | 0, r, o, h => by rw [ringGo] at h; cases h
  | f + 1, r, none, h => by rw [ringGo] at h; cases h
  | f + 1, r, some n, h => by
    rw [ringGo] at h ⊢
    split
    · next e => rw [if_pos e] at h; exact h
    · next e =>
      rw [if_neg e] at h
      split
      · next e2 => rw [if_pos e2] at h; exact h
      · next e2 => rw [if_neg e2] at h; exact ringGo_more f _ _ h
theorem ringGo_le {N : Int → Option Int} {t : Int} {q : List Int} {r : List Int} {o : Option Int} {f : Nat} (h : ringGo N t f r o = some q) : ∀ d, ringGo N t (f + d) r o = some q
  | 0 => h
  | d + 1 => ringGo_more (f + d) r o (ringGo_le h d)
/-- All lie among the threads. -/
def InT (N : Int → Option Int) : Prop := ∀ x y, N x = some y → (0 ≤ x ∧ x < 8) ∧ 0 ≤ y ∧ y < 8
def eight : List Int := [0, 1, 2, 3, 4, 5, 6, 7]
theorem mem_eight {x : Int} (h0 : 0 ≤ x) (h1 : x < 8) : x ∈ eight := by
  unfold eight
  simp only [List.mem_cons, List.not_mem_nil, or_false]
  omega
theorem iter_some {N : Int → Option Int} {j b : Nat} {t x : Int} (h : iter N (j + b) t = some x) : ∃ y, iter N j t = some y ∧ iter N b y = some x := by
  rw [iter_add] at h
  cases hy : iter N j t with
  | none => rw [hy] at h; cases h
  | some y => rw [hy] at h; exact ⟨y, rfl, h⟩
/-- Nine of eight: two are one. -/
theorem pigeon {N : Int → Option Int} {t : Int} {m : Nat} (hm : 8 < m) (hd : ∀ j, j < m → ∃ y, iter N j t = some y ∧ 0 ≤ y ∧ y < 8) : ∃ i j, i < j ∧ j < m ∧ iter N i t = iter N j t := by
  refine Classical.byContradiction fun hno => ?_
  have hnd : ((List.range m).map fun j => (iter N j t).getD 0).Nodup := by
    rw [List.Nodup, List.pairwise_map]
    refine List.Pairwise.imp_of_mem ?_ List.pairwise_lt_range
    intro i j hi hj hlt e
    rw [List.mem_range] at hi hj
    obtain ⟨x, hx, -⟩ := hd i hi
    obtain ⟨y, hy, -⟩ := hd j hj
    rw [hx, hy] at e
    exact hno ⟨i, j, hlt, hj, by rw [hx, hy]; exact congrArg some e⟩
  have := nodup_len (b := eight) hnd fun x hx => by
    obtain ⟨j, hj, rfl⟩ := List.mem_map.1 hx
    obtain ⟨y, hy, h0, h1⟩ := hd j (List.mem_range.1 hj)
    rw [hy]
    exact mem_eight h0 h1
  rw [List.length_map, List.length_range] at this
  have e : eight.length = 8 := rfl
  omega
theorem least_of {P : Nat → Prop} : ∀ m, 0 < m → P m → ∃ m, 0 < m ∧ P m ∧ ∀ k, 0 < k → k < m → ¬ P k := fun m => by
  induction m using Nat.strongRecOn with
  | ind m ih =>
    intro h0 hp
    by_cases h : ∃ k, 0 < k ∧ k < m ∧ P k
    · obtain ⟨k, k0, km, kp⟩ := h
      exact ih k km k0 kp
    · exact ⟨m, h0, hp, fun k k0 km kp => h ⟨k, k0, km, kp⟩⟩
theorem ringFrom_back {N : Int → Option Int} (hN : InT N) {t : Int} {m : Nat} (h0 : 0 < m) (hm : iter N m t = some t) : ∃ q, ringFrom N t = some q := by
  obtain ⟨n, n0, hn, hmin⟩ := least_of (P := fun k => iter N k t = some t) m h0 hm
  have ht : 0 ≤ t ∧ t < 8 := by
    obtain ⟨y, hy, -⟩ := iter_some (j := 1) (b := n - 1) (by rw [show 1 + (n - 1) = n from by omega]; exact hn)
    exact (hN t y (by simpa [iter] using hy)).1
  have hd : ∀ j, j < n → ∃ y, iter N j t = some y ∧ 0 ≤ y ∧ y < 8 := fun j hj => by
    obtain ⟨y, hy, hb⟩ := iter_some (j := j) (b := n - j) (by rw [show j + (n - j) = n from by omega]; exact hn)
    obtain ⟨z, hz, -⟩ := iter_some (j := 1) (b := n - j - 1) (by rw [show 1 + (n - j - 1) = n - j from by omega]; exact hb)
    exact ⟨y, hy, (hN y z (by simpa [iter] using hz)).1⟩
  have h8 : n ≤ 8 := by
    refine Classical.byContradiction fun hbig => ?_
    obtain ⟨i, j, hij, hj, e⟩ := pigeon (by omega) hd
    obtain ⟨y, hy, hb⟩ := iter_some (j := j) (b := n - j) (by rw [show j + (n - j) = n from by omega]; exact hn)
    rw [hy] at e
    have : iter N (i + (n - j)) t = some t := by rw [iter_add, e]; exact hb
    exact hmin (i + (n - j)) (by omega) (by omega) this
  obtain ⟨q, hq⟩ := ringGo_back hn hmin (n - 1) 1 [t] (by omega) (by omega) fun x => by
    constructor
    · intro hx
      obtain rfl := List.mem_singleton.1 hx
      exact ⟨0, by omega, rfl⟩
    · rintro ⟨j, hj, e⟩
      obtain rfl : j = 0 := by omega
      have : t = x := by simpa [iter] using e
      rw [this]; simp
  have e1 : iter N 1 t = N t := rfl
  rw [e1] at hq
  refine ⟨q, ?_⟩
  unfold ringFrom
  have := ringGo_le hq (8 - (n - 1))
  rwa [show n - 1 + 1 + (8 - (n - 1)) = 9 from by omega] at this
theorem ringFrom_ring {N : Int → Option Int} {t : Int} {q : List Int} (h : ringFrom N t = some q) : Ring N q ∧ q.getD 0 0 = t :=
  ringGo_ring 9 [t] (N t) (by simp) rfl (fun i hi => by simp at hi) rfl q h
theorem ring_iter {N : Int → Option Int} {q : List Int} (h : Ring N q) {i : Nat} (hi : i < q.length) : ∀ k, iter N k (q.getD i 0) = some (q.getD ((i + k) % q.length) 0)
  | 0 => by rw [Nat.add_zero, Nat.mod_eq_of_lt hi]; rfl
  | k + 1 => by
    rw [iter, ring_iter h hi k]
    show N _ = _
    rw [h.step _ (Nat.mod_lt _ h.pos)]
    congr 2
    rw [Nat.mod_add_mod, Nat.add_assoc]
theorem ringAt_none {N : Int → Option Int} : ∀ n, ringAt N n = none → ∀ u, u < n → ringFrom N (u : Int) = none
  | 0, _, u, hu => by omega
  | n + 1, h, u, hu => by
    rw [ringAt] at h
    cases hr : ringAt N n with
    | some r => rw [hr] at h; cases h
    | none =>
      rw [hr] at h
      by_cases e : u < n
      · exact ringAt_none n hr u e
      · rw [show u = n from by omega]; exact h
theorem ringAt_some {N : Int → Option Int} {r : List Int} : ∀ n, ringAt N n = some r → ∃ t, t < n ∧ ringFrom N (t : Int) = some r ∧ ∀ u, u < t → ringFrom N (u : Int) = none
  | 0, h => by cases h
  | n + 1, h => by
    rw [ringAt] at h
    cases hr : ringAt N n with
    | some q =>
      rw [hr] at h
      cases h
      obtain ⟨t, ht, h1, h2⟩ := ringAt_some n hr
      exact ⟨t, by omega, h1, h2⟩
    | none =>
      rw [hr] at h
      exact ⟨n, by omega, h, ringAt_none n hr⟩
/-- The ring's first one is the least. -/
theorem ring_least {N : Int → Option Int} (hN : InT N) {r : List Int} (h : ringAt N 8 = some r) : Ring N r ∧ ∀ i, i < r.length → r.getD 0 0 ≤ r.getD i 0 := by
  obtain ⟨t, ht, h1, h2⟩ := ringAt_some 8 h
  obtain ⟨hr, he⟩ := ringFrom_ring h1
  refine ⟨hr, fun i hi => Classical.byContradiction fun hlt => ?_⟩
  have hb : iter N r.length (r.getD i 0) = some (r.getD i 0) := by
    rw [ring_iter hr hi, Nat.add_mod_right, Nat.mod_eq_of_lt hi]
  have hin := (hN _ _ (hr.step i hi)).1
  obtain ⟨u, hu⟩ := Int.eq_ofNat_of_zero_le hin.1
  obtain ⟨q, hq⟩ := ringFrom_back hN hr.pos hb
  rw [hu] at hq
  rw [he, hu] at hlt
  rw [h2 u (by omega)] at hq
  cases hq

/-! ### Either a ring or an order -/
def pairs (l : List Dw) : List Dp := l.map fun w => ⟨w.f, w.t⟩
theorem nx_in {l : List Dw} (h : ∀ i, i < l.length → thrB (l.getD i .z).t = true ∧ thrB (l.getD i .z).f = true ∧ ∀ j, j < i → (l.getD j .z).t ≠ (l.getD i .z).t) : InT (nx l) := fun x y hxy => by
  obtain ⟨w, hw, rfl, rfl⟩ := nx_some hxy
  obtain ⟨i, hi, rfl⟩ := List.getElem_of_mem hw
  have := h i hi
  rw [List.getD_eq_getElem?_getD, List.getElem?_eq_getElem hi] at this
  have h1 := this.1
  have h2 := this.2.1
  unfold thrB at h1 h2
  simp only [Option.getD_some, Bool.and_eq_true, decide_eq_true_eq] at h1 h2
  exact ⟨h1, h2⟩
theorem either {l : List Dw} (h : ringE l = 0) : (rankL (pairs l)).2 = !(ringAt (nx l) 8).isSome ∧ ∀ a, ringAt (nx l) 8 = some a → ∀ i, i < a.length → a.getD 0 0 ≤ a.getD i 0 ∧ ∃ w ∈ l, w.t = a.getD i 0 ∧ w.f = a.getD ((i + 1) % a.length) 0 := by
  unfold ringE at h
  split at h
  · omega
  have hok := rE_ok l.length (Nat.le_refl _) h
  have hN := nx_in hok
  refine ⟨?_, fun a ha i hi => ?_⟩
  · cases hr : ringAt (nx l) 8 with
    | some a =>
      obtain ⟨hring, -⟩ := ring_least hN hr
      have hs : Stuck (pairs l) (fun x => x ∈ a) := by
        have each : ∀ x, x ∈ a → ∃ p ∈ pairs l, p.j = x ∧ p.i ∈ a := fun x hx => by
          obtain ⟨i, hi, rfl⟩ := List.getElem_of_mem hx
          have := hring.step i hi
          rw [show a.getD i 0 = a[i] from by rw [List.getD_eq_getElem?_getD, List.getElem?_eq_getElem hi]; rfl] at this
          obtain ⟨w, hw, e1, e2⟩ := nx_some this
          refine ⟨⟨w.f, w.t⟩, List.mem_map.2 ⟨w, hw, rfl⟩, e1, ?_⟩
          show w.f ∈ a
          rw [e2, List.getD_eq_getElem?_getD, List.getElem?_eq_getElem (Nat.mod_lt _ hring.pos)]
          exact List.getElem_mem _
        refine ⟨?_, each⟩
        have h0 : a[0]'hring.pos ∈ a := List.getElem_mem _
        obtain ⟨p, hp, e, -⟩ := each _ h0
        exact ⟨_, h0, e ▸ nodes_j hp⟩
      rw [rank_no hs]
      rfl
    | none =>
      rcases rank_spec (pairs l) with ⟨h1, -⟩ | ⟨-, R, ⟨⟨x, hx, hxn⟩, hR⟩⟩
      · rw [h1]; rfl
      · exfalso
        have hnext : ∀ x, R x → ∃ y, nx l x = some y ∧ R y := fun x hx => by
          obtain ⟨p, hp, e, hi⟩ := hR x hx
          obtain ⟨w, hw, rfl⟩ := List.mem_map.1 hp
          have := nx_of (fun i hi => (hok i hi).2.2) hw
          exact ⟨w.f, by rw [← e]; exact this, hi⟩
        have hall : ∀ j, ∃ y, iter (nx l) j x = some y ∧ R y := fun j => by
          induction j with
          | zero => exact ⟨x, rfl, hx⟩
          | succ j ih =>
            obtain ⟨y, hy, hr⟩ := ih
            obtain ⟨z, hz, hr2⟩ := hnext y hr
            exact ⟨z, by rw [iter, hy]; exact hz, hr2⟩
        obtain ⟨i, j, hij, -, e⟩ := pigeon (N := nx l) (t := x) (m := 9) (by omega) fun j _ => by
          obtain ⟨y, hy, hr⟩ := hall j
          obtain ⟨z, hz, -⟩ := hnext y hr
          exact ⟨y, hy, (hN y z hz).1⟩
        obtain ⟨y, hy, hry⟩ := hall i
        have hyy : iter (nx l) (j - i) y = some y := by
          have := iter_add (nx l) i x (j - i)
          rw [show i + (j - i) = j from by omega, ← e, hy] at this
          exact this.symm
        obtain ⟨z, hz, -⟩ := hnext y hry
        have hin := (hN y z hz).1
        obtain ⟨u, rfl⟩ := Int.eq_ofNat_of_zero_le hin.1
        obtain ⟨q, hq⟩ := ringFrom_back hN (show 0 < j - i by omega) hyy
        rw [ringAt_none 8 hr u (by omega)] at hq
        cases hq
  · obtain ⟨hring, hl⟩ := ring_least hN ha
    obtain ⟨w, hw, e1, e2⟩ := nx_some (hring.step i hi)
    exact ⟨hl i hi, w, hw, e1, e2⟩
end Go.Proofs.Ytfcimbhjoioinaa
