/-
  Clocks: what the weaver has, as ghost data.
-/
import Derived.Test.YtgadbofnccakgaaSc
import Derived.Test.YtgadbofnccakgaaCe
namespace Go.Proofs.Ytgadbofnccakgaa
open Go.RowKit

abbrev iD (n : Int) : D := .v (.int .i64 n)
abbrev key (t : Int) : Value := .int .i64 t
abbrev prD (p : Nat × Nat) : D := .agg [iD (p.1 : Int), iD (p.2 : Int)]
abbrev nD (n : Nat) : D := iD (n : Int)
abbrev nsD (l : List Nat) : List D := l.map nD
section
variable {α β : Type} (f : α → β)
theorem keq_key (a b : Int) : keq (key a) (key b) = decide (a = b) := by
  show ((IntKind.i64 == IntKind.i64) && (a == b)) = _
  have : (IntKind.i64 == IntKind.i64) = true := rfl
  rw [this, Bool.true_and]
  by_cases h : a = b
  · subst h; simp
  · rw [decide_eq_false h]; simpa using h
theorem mfind_map (k : Int) : ∀ M : List (Int × α), mfind (M.map fun p => (key p.1, f p.2)) (key k) = (af M k).map f
  | [] => rfl
  | (x, y) :: M => by
    rw [List.map_cons, mfind, keq_key, af]
    by_cases h : k = x
    · rw [decide_eq_true h, if_pos h]; rfl
    · rw [decide_eq_false h, if_neg h]; exact mfind_map k M
theorem mput_map (k : Int) (v : α) : ∀ M : List (Int × α), mput (M.map fun p => (key p.1, f p.2)) (key k) (f v) = (ap M k v).map fun p => (key p.1, f p.2)
  | [] => rfl
  | (x, y) :: M => by
    rw [List.map_cons, mput, keq_key, ap]
    by_cases h : k = x
    · rw [decide_eq_true h, if_pos h]; rfl
    · rw [decide_eq_false h, if_neg h]; simp only [cond_false]; rw [mput_map k v M]; rfl
theorem mdel_map (k : Int) : ∀ M : List (Int × α), mdel (M.map fun p => (key p.1, f p.2)) (key k) = (ad M k).map fun p => (key p.1, f p.2)
  | [] => rfl
  | (x, y) :: M => by
    rw [List.map_cons, mdel, keq_key, ad]
    by_cases h : k = x
    · rw [decide_eq_true h, if_pos h]; rfl
    · rw [decide_eq_false h, if_neg h]; simp only [cond_false]; rw [mdel_map k M]; rfl
end
def mI (M : List (Int × Nat)) : List (Value × D) := M.map fun p => (key p.1, nD p.2)
def rI (M : List (Int × List Nat)) : List (Value × Option (List D)) := M.map fun p => (key p.1, some (nsD p.2))
theorem mI_find (M : List (Int × Nat)) (k : Int) : mfind (mI M) (key k) = (af M k).map nD := mfind_map nD k M
theorem mI_put (M : List (Int × Nat)) (k : Int) (n : Nat) : mput (mI M) (key k) (nD n) = mI (ap M k n) := mput_map nD k n M
theorem rI_row (M : List (Int × List Nat)) (k : Int) : rowD (mfind (rI M) (key k)) = nsD (rowO (af M k)) := by
  have := mfind_map (fun l : List Nat => some (nsD l)) k M
  unfold rI
  rw [this]
  cases af M k <;> rfl
theorem rI_no (M : List (Int × List Nat)) (k : Int) : noN (mfind (rI M) (key k)) = true := by
  have := mfind_map (fun l : List Nat => some (nsD l)) k M
  unfold rI
  rw [this]
  cases af M k <;> rfl
theorem rI_put (M : List (Int × List Nat)) (k : Int) (l : List Nat) : mput (rI M) (key k) (some (nsD l)) = rI (ap M k l) := mput_map (fun l : List Nat => some (nsD l)) k l M
theorem rI_del (M : List (Int × List Nat)) (k : Int) : mdel (rI M) (key k) = rI (ad M k) := mdel_map (fun l : List Nat => some (nsD l)) k M
theorem nsD_snoc (l : List Nat) (n : Nat) : nsD l ++ [nD n] = nsD (l ++ [n]) := by simp [nsD]
/-- The weaver, and what it points to. -/
abbrev weaO (a b c d e x : Nat) (ver : Nat) (L : List D) (M1 : List (Value × D)) (R1 : List (Value × Option (List D))) (M2 : List (Value × D)) (R2 : List (Value × Option (List D))) : Ob :=
  [(a, .cells 56 [.mp b, .mp c, .mp d, .mp e, .stk x ver .all]), (b, .map (.int .i64) M1), (c, .rmap (.int .i64) 3 1 R1), (d, .map (.int .i64) M2), (e, .rmap (.int .i64) 3 1 R2), (x, .stk 38 2 ver L)]
abbrev WO (ver : Nat) (L : List D) (M1 : List (Value × D)) (R1 : List (Value × Option (List D))) (M2 : List (Value × D)) (R2 : List (Value × Option (List D))) : Ob := weaO 1000 1001 1002 1003 1004 1005 ver L M1 R1 M2 R2
abbrev evD (e : Ev) : D := .agg [iD e.k, iD e.st, iD e.t, iD e.f, iD e.at_, iD e.ln, iD e.A, iD e.B, iD e.vk, iD e.vn, iD e.ok, iD e.on]
abbrev evsD (l : List Ev) : D := .sl 12 (l.map evD)
/-- Rows are short. -/
structure WL (s : WS) (k : Nat) : Prop where
  spawns : ∀ p ∈ s.spawns, p.2.length ≤ k
  frees : ∀ p ∈ s.frees, p.2.length ≤ k
  out : s.out.length ≤ k * 500
theorem rowO_len {M : List (Int × List Nat)} {k : Nat} (h : ∀ p ∈ M, p.2.length ≤ k) (t : Int) : (rowO (af M t)).length ≤ k := by
  unfold rowO
  cases e : af M t with
  | none => exact Nat.zero_le _
  | some l => exact h _ (af_mem e)
theorem one_len (o : Option Nat) (j : Nat) : (one? o j).length ≤ 1 := by cases o <;> simp [one?]
theorem wnew_len {s : WS} {k : Nat} (h : WL s k) (j : Nat) (e : Ev) : (wnew s j e).length ≤ 1 + k + (1 + k) := by
  unfold wnew
  have h1 := one_len (af s.last e.t) j
  have h2 := rowO_len h.spawns e.t
  have h3 := one_len (af s.over e.A) j
  have h4 := rowO_len h.frees e.A
  rw [List.length_append, List.length_append, List.length_map]
  have : (if e.k = 12 then one? (af s.over e.A) j else if e.k = 13 then (rowO (af s.frees e.A)).map (·, j) else []).length ≤ 1 + k := by
    split
    · omega
    · split
      · rw [List.length_map]; omega
      · simp
  omega
theorem WL.step {s : WS} {k : Nat} (h : WL s k) (hk : k ≤ 200) (e : Ev) : WL (wev s k e) (k + 1) := by
  have hsp : ∀ p ∈ ad s.spawns e.t, p.2.length ≤ k := fun p hp => h.spawns p (ad_mem hp)
  refine ⟨fun p hp => ?_, fun p hp => ?_, ?_⟩
  · replace hp : p ∈ wsp s k e := hp
    unfold wsp at hp
    split at hp
    · rcases ap_mem hp with hp | hp
      · exact Nat.le_succ_of_le (hsp p hp)
      · rw [hp, List.length_append]; have := rowO_len hsp e.A; simp; omega
    · exact Nat.le_succ_of_le (hsp p hp)
  · replace hp : p ∈ wfr s k e := hp
    unfold wfr at hp
    split at hp
    · rcases ap_mem hp with hp | hp
      · exact Nat.le_succ_of_le (h.frees p hp)
      · rw [hp, List.length_append]; have := rowO_len h.frees e.A; simp; omega
    · split at hp
      · exact Nat.le_succ_of_le (h.frees p (ad_mem hp))
      · exact Nat.le_succ_of_le (h.frees p hp)
  · show (s.out ++ wnew s k e).length ≤ _
    have := wnew_len h k e
    have := h.out
    rw [List.length_append]; omega
theorem wst_l (l : List Ev) : ∀ k, k ≤ l.length → k ≤ 200 → WL (wst l k) k
  | 0, _, _ => ⟨fun p h => (by cases h), fun p h => (by cases h), by simp [wst]⟩
  | k + 1, h, h4 => by
    rw [wst, dif_pos (by omega)]
    exact (wst_l l k (by omega) (by omega)).step (by omega) _
end Go.Proofs.Ytgadbofnccakgaa
