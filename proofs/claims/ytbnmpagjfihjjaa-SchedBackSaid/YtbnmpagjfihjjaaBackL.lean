/-
  Lists and runs: one undoes the other.
-/
import Derived.Test.YtbnmpagjfihjjaaPack
import Derived.Test.YtbnmpagjfihjjaaUnpack
namespace Go.Proofs.Ytbnmpagjfihjjaa
open Go.RowKit

def flat (o : List Dr) : List Int := o.flatMap fun r => List.replicate r.m.toNat r.t
theorem flat_app (o p : List Dr) : flat (o ++ p) = flat o ++ flat p := List.flatMap_append
theorem flat_one (y : Dr) : flat [y] = List.replicate y.m.toNat y.t := by simp [flat]
/-- Runs that may be. -/
def Gd (o : List Dr) : Prop := ∀ i, i < o.length → thrB (o.getD i .z).t = true ∧ 1 ≤ (o.getD i .z).m ∧ (0 < i → (o.getD (i - 1) .z).t ≠ (o.getD i .z).t)
theorem dget_app (p : List Dr) (y : Dr) (i : Nat) : (p ++ [y]).getD i .z = if i < p.length then p.getD i .z else if i = p.length then y else .z := by
  rw [List.getD_eq_getElem?_getD]
  split
  · next h => rw [List.getElem?_append_left h, List.getD_eq_getElem?_getD]
  · next h =>
    rw [List.getElem?_append_right (by omega)]
    split
    · next e => rw [e, Nat.sub_self]; rfl
    · next e => rw [List.getElem?_eq_none (by simp; omega)]; rfl
theorem gd_snoc {p : List Dr} {y : Dr} (h : Gd p) (h1 : thrB y.t = true) (h2 : 1 ≤ y.m) (h3 : 0 < p.length → (p.getD (p.length - 1) .z).t ≠ y.t) : Gd (p ++ [y]) := fun i hi => by
  rw [List.length_append, List.length_singleton] at hi
  rw [dget_app, dget_app]
  by_cases hlt : i < p.length
  · rw [if_pos hlt, if_pos (by omega)]
    exact h i hlt
  · rw [if_neg hlt, if_pos (by omega)]
    refine ⟨h1, h2, fun h0 => ?_⟩
    rw [if_pos (by omega), show i = p.length from by omega]
    exact h3 (by omega)
theorem gd_init {p : List Dr} {y : Dr} (h : Gd (p ++ [y])) : Gd p ∧ thrB y.t = true ∧ 1 ≤ y.m ∧ (0 < p.length → (p.getD (p.length - 1) .z).t ≠ y.t) := by
  refine ⟨fun i hi => ?_, ?_⟩
  · have := h i (by rw [List.length_append]; omega)
    rw [dget_app, dget_app, if_pos hi, if_pos (by omega)] at this
    exact this
  · have := h p.length (by rw [List.length_append, List.length_singleton]; omega)
    rw [dget_app, dget_app, if_neg (by omega), if_pos rfl] at this
    refine ⟨this.1, this.2.1, fun h0 => ?_⟩
    have h3 := this.2.2 h0
    rw [if_pos (by omega)] at h3
    exact h3

def pkS (o : List Dr) (x : Int) : List Dr := if 0 < o.length ∧ (o.getD (o.length - 1) .z).t = x then o.set (o.length - 1) ⟨(o.getD (o.length - 1) .z).t, (o.getD (o.length - 1) .z).m + 1⟩ else o ++ [⟨x, 1⟩]
theorem pkS_snoc (p : List Dr) (y : Dr) (x : Int) : pkS (p ++ [y]) x = if y.t = x then p ++ [⟨y.t, y.m + 1⟩] else p ++ [y] ++ [⟨x, 1⟩] := by
  unfold pkS
  have hl : (p ++ [y]).length - 1 = p.length := by rw [List.length_append, List.length_singleton]; omega
  have hy : (p ++ [y]).getD p.length .z = y := by rw [dget_app, if_neg (by omega), if_pos rfl]
  rw [hl, hy]
  have h0 : 0 < (p ++ [y]).length := by rw [List.length_append, List.length_singleton]; omega
  by_cases h : y.t = x
  · rw [if_pos ⟨h0, h⟩, if_pos h]
    rw [List.set_append_right _ _ (Nat.le_refl _), Nat.sub_self]
    rfl
  · rw [if_neg (fun e => h e.2), if_neg h]
theorem pkK_fold (l : List Int) : ∀ k, k ≤ l.length → pkK l k = (l.take k).foldl pkS []
  | 0, _ => rfl
  | k + 1, hk => by
    rw [pkK_succ, List.take_succ_eq_append_getElem (by omega), List.foldl_append, ← pkK_fold l k (by omega)]
    have e : l.getD k 0 = l[k] := by rw [List.getD_eq_getElem?_getD, List.getElem?_eq_getElem (by omega)]; rfl
    rw [e]
    rfl
theorem pk_good (l : List Int) (hl : ∀ x ∈ l, thrB x = true) : ∀ k, k ≤ l.length → Gd ((l.take k).foldl pkS []) ∧ flat ((l.take k).foldl pkS []) = l.take k
  | 0, _ => ⟨fun i hi => by simp at hi, rfl⟩
  | k + 1, hk => by
    obtain ⟨hg, hf⟩ := pk_good l hl k (by omega)
    have hx := hl l[k] (List.getElem_mem _)
    rw [List.take_succ_eq_append_getElem (by omega), List.foldl_append]
    generalize (l.take k).foldl pkS [] = o at *
    show Gd (pkS o l[k]) ∧ flat (pkS o l[k]) = _
    generalize l[k] = x at *
    rcases List.eq_nil_or_concat o with rfl | ⟨p, y, rfl⟩
    · refine ⟨gd_snoc hg hx (by simp) (fun h => by simp at h), ?_⟩
      rw [← hf]
      rfl
    · rw [List.concat_eq_append] at hg hf ⊢
      obtain ⟨g1, g2, g3, g4⟩ := gd_init hg
      rw [pkS_snoc]
      split
      · next e =>
        refine ⟨gd_snoc g1 g2 (by show 1 ≤ y.m + 1; omega) g4, ?_⟩
        rw [← hf, flat_app, flat_app, flat_one, flat_one, List.append_assoc]
        congr 1
        show List.replicate (y.m + 1).toNat y.t = _
        rw [show (y.m + 1).toNat = y.m.toNat + 1 from by omega, List.replicate_succ', e]
      · next e =>
        refine ⟨gd_snoc hg hx (by simp) (fun _ => ?_), ?_⟩
        · rw [show (p ++ [y]).length - 1 = p.length from by simp, dget_app, if_neg (by omega), if_pos rfl]
          exact e
        · rw [flat_app, hf]
          rfl
/-- Packed and unpacked. -/
theorem unp_ok {r : List Dr} (hg : Gd r) (h2 : (flat r).length ≤ 200) : ∀ k, k ≤ r.length → unpK r k = .ok (flat (r.take k))
  | 0, _ => rfl
  | k + 1, hk => by
    rw [unpK_succ (unp_ok hg h2 k (by omega))]
    obtain ⟨g1, g2, g3⟩ := hg k (by omega)
    have e : r.take (k + 1) = r.take k ++ [r.getD k .z] := by
      rw [List.take_succ_eq_append_getElem (by omega), List.getD_eq_getElem?_getD, List.getElem?_eq_getElem (by omega)]; rfl
    have hlen : (flat (r.take (k + 1))).length ≤ 200 := by
      have : flat r = flat (r.take (k + 1)) ++ flat (r.drop (k + 1)) := by rw [← flat_app, List.take_append_drop]
      rw [this, List.length_append] at h2
      omega
    rw [e, flat_app, flat_one] at hlen ⊢
    rw [List.length_append, List.length_replicate] at hlen
    unfold unpStep
    rw [if_neg (by rw [g1]; simp), if_neg (by
      rintro (h | h)
      · omega
      · exact g3 h.1 h.2), if_neg (by omega)]
/-- What may be unpacked. -/
theorem unp_inv {r : List Dr} : ∀ (k : Nat) (o : List Int), k ≤ r.length → unpK r k = .ok o → Gd (r.take k) ∧ o = flat (r.take k) ∧ o.length ≤ 200
  | 0, o, _, h => by
    rw [unpK] at h
    cases h
    exact ⟨fun i hi => by simp at hi, rfl, by simp⟩
  | k + 1, o, hk, h => by
    have e : r.take (k + 1) = r.take k ++ [r.getD k .z] := by
      rw [List.take_succ_eq_append_getElem (by omega), List.getD_eq_getElem?_getD, List.getElem?_eq_getElem (by omega)]; rfl
    cases hu : unpK r k with
    | error c => rw [unpK, hu] at h; cases h
    | ok o' =>
      rw [unpK_succ hu] at h
      obtain ⟨i1, i2, i3⟩ := unp_inv k o' (by omega) hu
      unfold unpStep at h
      split at h
      · cases h
      · next c1 =>
        split at h
        · cases h
        · next c2 =>
          split at h
          · cases h
          · next c3 =>
            cases h
            rw [e]
            refine ⟨gd_snoc i1 (by simpa using c1) (by omega) (fun h0 => ?_), by rw [flat_app, flat_one, i2], by rw [List.length_append, List.length_replicate]; omega⟩
            have hl : (r.take k).length = k := by rw [List.length_take]; omega
            rw [hl] at h0 ⊢
            have : (r.take k).getD (k - 1) .z = r.getD (k - 1) .z := by
              rw [List.getD_eq_getElem?_getD, List.getElem?_take_of_lt (by omega), List.getD_eq_getElem?_getD]
            rw [this]
            exact fun e => c2 (.inr ⟨h0, e⟩)
theorem unp_err {r : List Dr} : ∀ (k : Nat) (e : Int), unpK r k = .error e → e ≠ 0
  | 0, e, h => by cases h
  | k + 1, e, h => by
    cases hu : unpK r k with
    | error c =>
      rw [unpK, hu] at h
      cases h
      exact unp_err k _ hu
    | ok o' =>
      rw [unpK_succ hu] at h
      unfold unpStep at h
      split at h
      · cases h; decide
      · split at h
        · cases h; decide
        · split at h
          · cases h; decide
          · cases h
theorem fold_rep (p : List Dr) (t : Int) : ∀ (n : Nat) (a : Int), (List.replicate n t).foldl pkS (p ++ [⟨t, a⟩]) = p ++ [⟨t, a + n⟩]
  | 0, a => by simp
  | n + 1, a => by
    rw [List.replicate_succ, List.foldl_cons, pkS_snoc, if_pos rfl, fold_rep p t n]
    congr 3
    show a + 1 + (n : Int) = a + ((n + 1 : Nat) : Int)
    omega
theorem pk_flat {r : List Dr} (hg : Gd r) : ∀ k, k ≤ r.length → (flat (r.take k)).foldl pkS [] = r.take k
  | 0, _ => rfl
  | k + 1, hk => by
    have e : r.take (k + 1) = r.take k ++ [r.getD k .z] := by
      rw [List.take_succ_eq_append_getElem (by omega), List.getD_eq_getElem?_getD, List.getElem?_eq_getElem (by omega)]; rfl
    obtain ⟨g1, g2, g3⟩ := hg k (by omega)
    rw [e, flat_app, flat_one, List.foldl_append, pk_flat hg k (by omega)]
    generalize hy : r.getD k .z = y at *
    obtain ⟨n, hn⟩ : ∃ n, y.m.toNat = n + 1 := ⟨y.m.toNat - 1, by omega⟩
    rw [hn, List.replicate_succ, List.foldl_cons]
    have hs : pkS (r.take k) y.t = r.take k ++ [⟨y.t, 1⟩] := by
      unfold pkS
      have hl : (r.take k).length = k := by rw [List.length_take]; omega
      rw [if_neg]
      rintro ⟨h0, h1⟩
      rw [hl] at h0 h1
      have : (r.take k).getD (k - 1) .z = r.getD (k - 1) .z := by
        rw [List.getD_eq_getElem?_getD, List.getElem?_take_of_lt (by omega), List.getD_eq_getElem?_getD]
      rw [this] at h1
      exact g3 h0 h1
    rw [hs, fold_rep]
    obtain ⟨t, m⟩ := y
    dsimp only at hn ⊢
    congr 3
    dsimp only at g2
    omega
/-- A list: packed and unpacked. -/
theorem back_list {l : List Int} (h : (packM l).2 = 0) : unpM (packM l).1 = (l, 0) := by
  unfold packM at *
  split at h
  · exact absurd h (by simp)
  · next h1 =>
    rw [if_neg h1]
    split at h
    · exact absurd h (by simp)
    · next h2 =>
      rw [if_neg h2]
      dsimp only
      rw [Bool.not_eq_true, List.any_eq_false] at h2
      have hg := pk_good l (fun x hx => by simpa using h2 x hx) l.length (Nat.le_refl _)
      rw [pkK_fold l l.length (Nat.le_refl _)]
      rw [List.take_length] at hg ⊢
      generalize l.foldl pkS [] = r at *
      unfold unpM
      rw [unp_ok hg.1 (by rw [hg.2]; omega) r.length (Nat.le_refl _), List.take_length, hg.2]
/-- Runs: unpacked and packed. -/
theorem back_runs {r : List Dr} (h : (unpM r).2 = 0) : packM (unpM r).1 = (r, 0) := by
  unfold unpM at *
  split at h
  · next o ho =>
    obtain ⟨h1, h2, h3⟩ := unp_inv r.length o (Nat.le_refl _) ho
    rw [List.take_length] at h1 h2
    have hall : (o.any fun n => !thrB n) = false := by
      rw [List.any_eq_false]
      intro x hx
      rw [h2] at hx
      obtain ⟨y, hy, hxy⟩ := List.mem_flatMap.1 hx
      obtain ⟨i, hi, rfl⟩ := List.getElem_of_mem hy
      have e := List.eq_of_mem_replicate hxy
      have := (h1 i hi).1
      rw [List.getD_eq_getElem?_getD, List.getElem?_eq_getElem hi] at this
      rw [e]
      simpa using this
    unfold packM
    rw [if_neg (by show ¬ 200 < o.length; omega), if_neg (by rw [hall]; simp)]
    have := pk_flat h1 r.length (Nat.le_refl _)
    rw [List.take_length, ← h2] at this
    dsimp only
    rw [pkK_fold o o.length (Nat.le_refl _), List.take_length, this]
  · next e he => exact absurd h (unp_err _ _ he)
theorem unp_none {r : List Dr} (h : (unpM r).2 ≠ 0) : (unpM r).1 = [] := by
  unfold unpM at *
  split at h
  · exact absurd rfl h
  · next e he => rfl
end Go.Proofs.Ytbnmpagjfihjjaa
