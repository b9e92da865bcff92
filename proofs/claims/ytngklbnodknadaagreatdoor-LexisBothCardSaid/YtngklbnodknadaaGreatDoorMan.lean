/-
  Dm, Dl, Dr, Dt, Tr, Px, Tb, in one.
-/
import Derived.Lib.ItoaNum
import Derived.Test.YtngklbnodknadaaGreatDoorMam
import Derived.Test.YtngklbnodknadaaGreatDoorMal
section
namespace Go.Proofs.YtngklbnodknadaaGreatDoor

/-- Digits, how many, the point, whether others are lost. -/
structure Dm where
  (a : List UInt8) (nd : Nat) (dp : Int) (tr : Bool)
def dig (c : UInt8) : Nat := c.toNat - 48
def isDg (c : UInt8) : Prop := 48 ≤ c.toNat ∧ c.toNat ≤ 57
def chr (n : Nat) : UInt8 := UInt8.ofNat (n + 48)
theorem chr_dig {n : Nat} (h : n < 10) : isDg (chr n) ∧ dig (chr n) = n := by
  have e : (chr n).toNat = n + 48 := by unfold chr; rw [UInt8.toNat_ofNat']; omega
  unfold isDg dig
  omega
def vald : List UInt8 → Nat
  | [] => 0
  | c :: l => dig c * 10 ^ l.length + vald l
theorem dig_lt {c : UInt8} (h : isDg c) : dig c < 10 := by unfold isDg at h; unfold dig; omega
theorem vald_lt : ∀ {l : List UInt8}, (∀ c ∈ l, isDg c) → vald l < 10 ^ l.length
  | [], _ => by simp [vald]
  | c :: l, h => by
    have ih := vald_lt (l := l) fun x hx => h x (by simp [hx])
    have hc := dig_lt (h c (by simp))
    rw [vald, List.length_cons, Nat.pow_succ]
    have : dig c * 10 ^ l.length ≤ 9 * 10 ^ l.length := Nat.mul_le_mul_right _ (by omega)
    omega
theorem vald_app (a b : List UInt8) : vald (a ++ b) = vald a * 10 ^ b.length + vald b := by
  induction a with
  | nil => simp [vald]
  | cons c a ih => rw [List.cons_append, vald, ih, vald, List.length_append, Nat.pow_add, Nat.add_mul, Nat.mul_assoc]; omega
/-! ### Less, by digits -/
def pless : List UInt8 → List UInt8 → Bool
  | _, [] => false
  | [], _ :: _ => true
  | b :: l, s :: m => if b = s then pless l m else decide (b.toNat < s.toNat)
theorem dig_mono {b s : UInt8} (hb : isDg b) (h : b.toNat < s.toNat) : dig b + 1 ≤ dig s := by unfold isDg at hb; unfold dig; omega
theorem pless_lt : ∀ {l m : List UInt8}, (∀ c ∈ l, isDg c) → (∀ c ∈ m, isDg c) → (∀ x, m.getLast? = some x → 1 ≤ dig x) → pless l m = true → vald l * 10 ^ m.length < vald m * 10 ^ l.length
  | _, [], _, _, _, h => by simp [pless] at h
  | [], s :: m, _, hm, hl, _ => by
    have : 1 ≤ vald (s :: m) := by
      have e : s :: m = (s :: m).dropLast ++ [(s :: m).getLast (List.cons_ne_nil _ _)] := (List.dropLast_concat_getLast _).symm
      have h2 := hl _ (List.getLast?_eq_some_getLast (List.cons_ne_nil s m))
      rw [e, vald_app]
      simp only [vald, List.length_nil, Nat.pow_zero, Nat.mul_one, Nat.add_zero]
      omega
    simp only [vald, Nat.zero_mul, List.length_nil, Nat.pow_zero, Nat.mul_one]
    exact this
  | b :: l, s :: m, hl, hm, hL, h => by
    have hb := hl b (by simp)
    have hl' : ∀ c ∈ l, isDg c := fun c hc => hl c (by simp [hc])
    have hm' : ∀ c ∈ m, isDg c := fun c hc => hm c (by simp [hc])
    rw [pless] at h
    simp only [vald, List.length_cons, Nat.pow_succ]
    have p1 : 0 < 10 ^ l.length := Nat.pow_pos (by decide)
    have p2 : 0 < 10 ^ m.length := Nat.pow_pos (by decide)
    split at h
    · next e =>
      subst e
      have hL' : ∀ x, m.getLast? = some x → 1 ≤ dig x := fun x hx => by
        cases m with
        | nil => simp at hx
        | cons y m => exact hL x (by rw [List.getLast?_cons_cons]; exact hx)
      have ih := pless_lt hl' hm' hL' h
      have e1 : (dig b * 10 ^ l.length + vald l) * (10 ^ m.length * 10) = dig b * (10 ^ l.length * 10 ^ m.length) * 10 + vald l * 10 ^ m.length * 10 := by
        rw [Nat.add_mul]; congr 1
        · simp only [Nat.mul_assoc]
        · simp only [Nat.mul_assoc]
      have e2 : (dig b * 10 ^ m.length + vald m) * (10 ^ l.length * 10) = dig b * (10 ^ l.length * 10 ^ m.length) * 10 + vald m * 10 ^ l.length * 10 := by
        rw [Nat.add_mul]; congr 1
        · rw [Nat.mul_comm (10 ^ l.length) (10 ^ m.length)]; simp only [Nat.mul_assoc]
        · simp only [Nat.mul_assoc]
      rw [e1, e2]
      omega
    · have hlt := of_decide_eq_true h
      have h1 := dig_mono hb hlt
      have h2 := vald_lt hl'
      have e1 : (dig b * 10 ^ l.length + vald l) * (10 ^ m.length * 10) < ((dig b + 1) * 10 ^ l.length) * (10 ^ m.length * 10) := by
        refine Nat.mul_lt_mul_of_pos_right ?_ (by omega)
        rw [Nat.add_mul, Nat.one_mul]; omega
      have e2 : ((dig b + 1) * 10 ^ l.length) * (10 ^ m.length * 10) ≤ (dig s * 10 ^ m.length + vald m) * (10 ^ l.length * 10) := by
        have : ((dig b + 1) * 10 ^ l.length) * (10 ^ m.length * 10) = ((dig b + 1) * 10 ^ m.length) * (10 ^ l.length * 10) := by
          simp only [Nat.mul_assoc, Nat.mul_comm, Nat.mul_left_comm]
        rw [this]
        refine Nat.mul_le_mul_right _ ?_
        have : (dig b + 1) * 10 ^ m.length ≤ dig s * 10 ^ m.length := Nat.mul_le_mul_right _ h1
        omega
      omega
theorem pless_ge : ∀ {l m : List UInt8}, (∀ c ∈ l, isDg c) → (∀ c ∈ m, isDg c) → pless l m = false → vald m * 10 ^ l.length ≤ vald l * 10 ^ m.length
  | l, [], _, _, _ => by simp [vald]
  | [], s :: m, _, _, h => by simp [pless] at h
  | b :: l, s :: m, hl, hm, h => by
    have hs := hm s (by simp)
    have hl' : ∀ c ∈ l, isDg c := fun c hc => hl c (by simp [hc])
    have hm' : ∀ c ∈ m, isDg c := fun c hc => hm c (by simp [hc])
    rw [pless] at h
    simp only [vald, List.length_cons, Nat.pow_succ]
    split at h
    · next e =>
      subst e
      have ih := pless_ge hl' hm' h
      have e1 : (dig b * 10 ^ l.length + vald l) * (10 ^ m.length * 10) = dig b * (10 ^ l.length * 10 ^ m.length) * 10 + vald l * 10 ^ m.length * 10 := by
        rw [Nat.add_mul]; congr 1
        · simp only [Nat.mul_assoc]
        · simp only [Nat.mul_assoc]
      have e2 : (dig b * 10 ^ m.length + vald m) * (10 ^ l.length * 10) = dig b * (10 ^ l.length * 10 ^ m.length) * 10 + vald m * 10 ^ l.length * 10 := by
        rw [Nat.add_mul]; congr 1
        · rw [Nat.mul_comm (10 ^ l.length) (10 ^ m.length)]; simp only [Nat.mul_assoc]
        · simp only [Nat.mul_assoc]
      rw [e1, e2]
      omega
    · next hne =>
      have hge := of_decide_eq_false h
      have hlt : s.toNat < b.toNat := by
        rcases Nat.lt_trichotomy b.toNat s.toNat with q | q | q
        · exact absurd q hge
        · exact absurd (UInt8.toNat_inj.1 q) hne
        · exact q
      have h1 := dig_mono hs hlt
      have h2 := vald_lt hm'
      have p1 : 0 < 10 ^ l.length := Nat.pow_pos (by decide)
      have p2 : 0 < 10 ^ m.length := Nat.pow_pos (by decide)
      have e1 : (dig s * 10 ^ m.length + vald m) * (10 ^ l.length * 10) ≤ ((dig s + 1) * 10 ^ m.length) * (10 ^ l.length * 10) := by
        refine Nat.mul_le_mul_right _ ?_
        rw [Nat.add_mul, Nat.one_mul]; omega
      have e2 : ((dig s + 1) * 10 ^ m.length) * (10 ^ l.length * 10) ≤ (dig b * 10 ^ l.length + vald l) * (10 ^ m.length * 10) := by
        have : ((dig s + 1) * 10 ^ m.length) * (10 ^ l.length * 10) = ((dig s + 1) * 10 ^ l.length) * (10 ^ m.length * 10) := by
          simp only [Nat.mul_assoc, Nat.mul_comm, Nat.mul_left_comm]
        rw [this]
        refine Nat.mul_le_mul_right _ ?_
        have : (dig s + 1) * 10 ^ l.length ≤ dig b * 10 ^ l.length := Nat.mul_le_mul_right _ h1
        omega
      omega
/-! ### Shifting left -/
/-- The table: how many digits come at most, and from which digits on. -/
def cheatD (k : Nat) : Nat := Lib.nDigits (2 ^ k)
def cheatC (k : Nat) : List UInt8 := Lib.decDigits (5 ^ k)
def cheatOk (k : Nat) : Bool := decide (vald (cheatC k) = 5 ^ k) && ((cheatC k).all fun c => decide (48 ≤ c.toNat ∧ c.toNat ≤ 57)) && decide ((cheatC k).length + cheatD k = k + 1) && decide (10 ^ (cheatD k - 1) ≤ 2 ^ k) && decide (2 ^ k < 10 ^ cheatD k) && decide (1 ≤ cheatD k) && ((cheatC k).getLast?.map dig == some 5)
theorem cheat_all : ∀ k : Fin 61, 1 ≤ k.1 → cheatOk k.1 = true := by decide +kernel
structure Cheat (k : Nat) : Prop where
  val : vald (cheatC k) = 5 ^ k
  dg : ∀ c ∈ cheatC k, isDg c
  len : (cheatC k).length + cheatD k = k + 1
  lo : 10 ^ (cheatD k - 1) ≤ 2 ^ k
  hi : 2 ^ k < 10 ^ cheatD k
  pos : 1 ≤ cheatD k
  last : ∀ x, (cheatC k).getLast? = some x → 1 ≤ dig x
theorem cheat {k : Nat} (h1 : 1 ≤ k) (h2 : k ≤ 60) : Cheat k := by
  have h := cheat_all ⟨k, by omega⟩ h1
  unfold cheatOk at h
  simp only [Bool.and_eq_true, decide_eq_true_eq, List.all_eq_true, beq_iff_eq] at h
  obtain ⟨⟨⟨⟨⟨⟨a1, a2⟩, a3⟩, a4⟩, a5⟩, a6⟩, a7⟩ := h
  refine ⟨a1, a2, a3, a4, a5, a6, fun x hx => ?_⟩
  rw [hx] at a7
  have : dig x = 5 := by simpa using a7
  omega
/-- How many digits come. -/
def deltaM (ds : List UInt8) (k : Nat) : Nat := if pless ds (cheatC k) = true then cheatD k - 1 else cheatD k
/-- Just so many digits the product has. -/
theorem delta_ok {ds : List UInt8} {k : Nat} (h1 : 1 ≤ k) (h2 : k ≤ 60) (hd : ∀ c ∈ ds, isDg c) (hN : 10 ^ ds.length ≤ 10 * vald ds) : vald ds * 2 ^ k < 10 ^ (ds.length + deltaM ds k) ∧ 10 ^ (ds.length + deltaM ds k) ≤ 10 * (vald ds * 2 ^ k) := by
  have hc := cheat h1 h2
  have h25 : 5 ^ k * 2 ^ k = 10 ^ k := by rw [← Nat.mul_pow]
  have hlen := hc.len
  have hpos := hc.pos
  have p0 : 0 < 2 ^ k := Nat.pow_pos (by decide)
  have pC : 0 < 10 ^ (cheatC k).length := Nat.pow_pos (by decide)
  unfold deltaM
  cases hp : pless ds (cheatC k) with
  | true =>
    rw [if_pos rfl]
    have hlt := pless_lt hd hc.dg hc.last hp
    rw [hc.val] at hlt
    constructor
    · -- N 2^k 10^c < 10^k 10^n
      have e : vald ds * 2 ^ k * 10 ^ (cheatC k).length < 10 ^ (ds.length + (cheatD k - 1)) * 10 ^ (cheatC k).length := by
        have a1 : vald ds * 2 ^ k * 10 ^ (cheatC k).length = vald ds * 10 ^ (cheatC k).length * 2 ^ k := by simp only [Nat.mul_comm, Nat.mul_left_comm]
        have a2 : 10 ^ (ds.length + (cheatD k - 1)) * 10 ^ (cheatC k).length = 5 ^ k * 10 ^ ds.length * 2 ^ k := by
          rw [← Nat.pow_add, show ds.length + (cheatD k - 1) + (cheatC k).length = k + ds.length by omega, Nat.pow_add, ← h25]
          simp only [Nat.mul_assoc, Nat.mul_comm]
        rw [a1, a2]
        exact Nat.mul_lt_mul_of_pos_right hlt p0
      exact Nat.lt_of_mul_lt_mul_right e
    · have e : 10 ^ (ds.length + (cheatD k - 1)) = 10 ^ ds.length * 10 ^ (cheatD k - 1) := Nat.pow_add _ _ _
      rw [e]
      have := Nat.mul_le_mul hN hc.lo
      rw [Nat.mul_assoc] at this
      exact this
  | false =>
    rw [if_neg (by decide)]
    have hge := pless_ge hd hc.dg hp
    rw [hc.val] at hge
    constructor
    · rw [Nat.pow_add]
      exact Nat.mul_lt_mul'' (vald_lt hd) hc.hi
    · have e : 10 ^ (ds.length + cheatD k) * 10 ^ (cheatC k).length ≤ 10 * (vald ds * 2 ^ k) * 10 ^ (cheatC k).length := by
        have a1 : 10 * (vald ds * 2 ^ k) * 10 ^ (cheatC k).length = 10 * (vald ds * 10 ^ (cheatC k).length * 2 ^ k) := by simp only [Nat.mul_comm, Nat.mul_left_comm]
        have a2 : 10 ^ (ds.length + cheatD k) * 10 ^ (cheatC k).length = 10 * (5 ^ k * 10 ^ ds.length * 2 ^ k) := by
          rw [← Nat.pow_add, show ds.length + cheatD k + (cheatC k).length = 1 + (k + ds.length) by omega, Nat.pow_add, Nat.pow_add, ← h25]
          simp only [Nat.mul_assoc, Nat.mul_comm, Nat.mul_left_comm, Nat.pow_one]
        rw [a1, a2]
        exact Nat.mul_le_mul_left _ (Nat.mul_le_mul_right _ hge)
      exact Nat.le_of_mul_le_mul_right e pC
end Go.Proofs.YtngklbnodknadaaGreatDoor
end

section
namespace Go.Proofs.YtngklbnodknadaaGreatDoor

/-- The product's digits from the w-th on lie in the array. -/
def arrM (a0 : List UInt8) (P L w : Nat) : List UInt8 := (List.range 800).map fun j => if w ≤ j ∧ j < L then chr (P / 10 ^ (L - 1 - j) % 10) else a0.getD j 0
theorem arrM_len (a0 : List UInt8) (P L w : Nat) : (arrM a0 P L w).length = 800 := by simp [arrM]
theorem arrM_get {a0 : List UInt8} {P L w j : Nat} (h : j < 800) : (arrM a0 P L w)[j]? = some (if w ≤ j ∧ j < L then chr (P / 10 ^ (L - 1 - j) % 10) else a0.getD j 0) := by
  unfold arrM
  rw [List.getElem?_map, List.getElem?_range h]; rfl
theorem arrM_start {a0 : List UInt8} {P L : Nat} (h : a0.length = 800) : arrM a0 P L L = a0 := by
  refine List.ext_getElem? fun j => ?_
  by_cases hj : j < 800
  · rw [arrM_get hj, if_neg (by omega), List.getD_eq_getElem?_getD, List.getElem?_eq_getElem (by omega)]; rfl
  · rw [List.getElem?_eq_none (by rw [arrM_len]; omega), List.getElem?_eq_none (by omega)]
theorem arrM_set {a0 : List UInt8} {P L w : Nat} (hw : w < L) (h : w < 800) : (arrM a0 P L (w + 1)).set w (chr (P / 10 ^ (L - 1 - w) % 10)) = arrM a0 P L w := by
  refine List.ext_getElem? fun j => ?_
  by_cases hj : j < 800
  · rw [List.getElem?_set, arrM_get hj, arrM_get hj]
    by_cases e : w = j
    · subst e
      rw [if_pos rfl, if_pos (by rw [arrM_len]; exact h), if_pos ⟨Nat.le_refl _, hw⟩]
    · rw [if_neg e]
      congr 1
      by_cases h1 : w + 1 ≤ j ∧ j < L
      · rw [if_pos h1, if_pos ⟨by omega, h1.2⟩]
      · rw [if_neg h1, if_neg (by omega)]
  · rw [List.getElem?_eq_none (by rw [List.length_set, arrM_len]; omega), List.getElem?_eq_none (by rw [arrM_len]; omega)]
theorem arrM_out {a0 : List UInt8} {P L w : Nat} (h : ¬ w < 800) : arrM a0 P L (w + 1) = arrM a0 P L w := by
  unfold arrM
  refine List.map_congr_left fun j hj => ?_
  have := List.mem_range.1 hj
  by_cases h1 : w + 1 ≤ j ∧ j < L
  · omega
  · rw [if_neg h1, if_neg (by omega)]
/-- What is lost of the product's end. -/
def lostM (P L w : Nat) (tr : Bool) : Bool := tr || (List.range L).any fun j => decide (w ≤ j ∧ 800 ≤ j ∧ P / 10 ^ (L - 1 - j) % 10 ≠ 0)
theorem lostM_start (P L : Nat) (tr : Bool) : lostM P L L tr = tr := by
  unfold lostM
  have : ((List.range L).any fun j => decide (L ≤ j ∧ 800 ≤ j ∧ P / 10 ^ (L - 1 - j) % 10 ≠ 0)) = false := by
    rw [List.any_eq_false]
    intro j hj
    have := List.mem_range.1 hj
    simp; omega
  rw [this, Bool.or_false]
theorem lostM_in {P L w : Nat} {tr : Bool} (h : w < 800) : lostM P L (w + 1) tr = lostM P L w tr := by
  unfold lostM
  congr 1
  rw [Bool.eq_iff_iff, List.any_eq_true, List.any_eq_true]
  constructor
  · rintro ⟨j, h1, h2⟩
    have h2 := of_decide_eq_true h2
    exact ⟨j, h1, decide_eq_true ⟨by omega, h2.2⟩⟩
  · rintro ⟨j, h1, h2⟩
    have h2 := of_decide_eq_true h2
    exact ⟨j, h1, decide_eq_true ⟨by omega, h2.2⟩⟩
theorem lostM_out {P L w : Nat} {tr : Bool} (hw : w < L) (h : ¬ w < 800) : lostM P L w tr = if P / 10 ^ (L - 1 - w) % 10 ≠ 0 then true else lostM P L (w + 1) tr := by
  unfold lostM
  split
  · next h1 =>
    rw [Bool.or_eq_true, List.any_eq_true]
    exact .inr ⟨w, List.mem_range.2 hw, decide_eq_true ⟨Nat.le_refl _, by omega, h1⟩⟩
  · next h1 =>
    congr 1
    rw [Bool.eq_iff_iff, List.any_eq_true, List.any_eq_true]
    constructor
    · rintro ⟨j, h2, h3⟩
      have h3 := of_decide_eq_true h3
      refine ⟨j, h2, decide_eq_true ⟨?_, h3.2⟩⟩
      rcases Nat.lt_or_ge w j with q | q
      · exact q
      · have : j = w := by omega
        subst this
        exact absurd h3.2.2 h1
    · rintro ⟨j, h2, h3⟩
      have h3 := of_decide_eq_true h3
      exact ⟨j, h2, decide_eq_true ⟨by omega, h3.2⟩⟩
/-! ### Carries -/
/-- What is carried when the digits from the i-th on are done. -/
def carryM (ds : List UInt8) (k i : Nat) : Nat := vald (ds.drop i) * 2 ^ k / 10 ^ (ds.length - i)
theorem carry_end (ds : List UInt8) (k : Nat) : carryM ds k ds.length = 0 := by
  unfold carryM
  rw [List.drop_length, vald, Nat.zero_mul, Nat.zero_div]
theorem drop_val {ds : List UInt8} {i : Nat} (h : i < ds.length) : vald (ds.drop i) = dig ds[i] * 10 ^ (ds.length - (i + 1)) + vald (ds.drop (i + 1)) := by
  rw [List.drop_eq_getElem_cons h, vald, List.length_drop]
theorem carry_m {ds : List UInt8} {k i : Nat} (h : i < ds.length) : dig ds[i] * 2 ^ k + carryM ds k (i + 1) = vald (ds.drop i) * 2 ^ k / 10 ^ (ds.length - (i + 1)) := by
  have p : 0 < 10 ^ (ds.length - (i + 1)) := Nat.pow_pos (by decide)
  rw [drop_val h, Nat.add_mul, show dig ds[i] * 10 ^ (ds.length - (i + 1)) * 2 ^ k = 10 ^ (ds.length - (i + 1)) * (dig ds[i] * 2 ^ k) by simp only [Nat.mul_comm, Nat.mul_left_comm], Nat.mul_add_div p]
  rfl
theorem carry_step {ds : List UInt8} {k i : Nat} (h : i < ds.length) : (dig ds[i] * 2 ^ k + carryM ds k (i + 1)) / 10 = carryM ds k i := by
  rw [carry_m h, Nat.div_div_eq_div_mul, ← Nat.pow_succ, show (ds.length - (i + 1)).succ = ds.length - i by omega]
  rfl
theorem carry_rem {ds : List UInt8} {k i dl : Nat} (h : i < ds.length) : (dig ds[i] * 2 ^ k + carryM ds k (i + 1)) % 10 = vald ds * 2 ^ k / 10 ^ (ds.length + dl - 1 - (i + dl)) % 10 := by
  have e1 : ds.length + dl - 1 - (i + dl) = ds.length - (i + 1) := by omega
  rw [carry_m h, e1]
  have hv : vald ds = vald (ds.take i) * 10 ^ (ds.length - i) + vald (ds.drop i) := by
    conv => lhs; rw [← List.take_append_drop i ds]
    rw [vald_app, List.length_drop]
  have p : 0 < 10 ^ (ds.length - (i + 1)) := Nat.pow_pos (by decide)
  have e2 : 10 ^ (ds.length - i) = 10 ^ (ds.length - (i + 1)) * 10 := by rw [← Nat.pow_succ]; congr 1; omega
  have e3 : vald ds * 2 ^ k = 10 ^ (ds.length - (i + 1)) * (10 * (vald (ds.take i) * 2 ^ k)) + vald (ds.drop i) * 2 ^ k := by
    rw [hv, e2, Nat.add_mul]
    congr 1
    simp only [Nat.mul_comm, Nat.mul_left_comm, Nat.mul_assoc]
  rw [e3, Nat.mul_add_div p, Nat.mul_add_mod]
theorem carry_top (ds : List UInt8) (k : Nat) : carryM ds k 0 = vald ds * 2 ^ k / 10 ^ ds.length := rfl
theorem carry_lt {ds : List UInt8} {k i : Nat} (hd : ∀ c ∈ ds, isDg c) : carryM ds k i < 2 ^ k := by
  unfold carryM
  have p : 0 < 10 ^ (ds.length - i) := Nat.pow_pos (by decide)
  rw [Nat.div_lt_iff_lt_mul p]
  have h1 := vald_lt (l := ds.drop i) fun c hc => hd c (List.mem_of_mem_drop hc)
  rw [List.length_drop] at h1
  rw [Nat.mul_comm (2 ^ k)]
  exact Nat.mul_lt_mul_of_pos_right h1 (Nat.pow_pos (by decide))
/-- The extra digits, one after the other. -/
theorem extra_step {P L w : Nat} (h : w + 1 ≤ L) : P / 10 ^ (L - (w + 1)) / 10 = P / 10 ^ (L - w) := by
  rw [Nat.div_div_eq_div_mul, ← Nat.pow_succ, show (L - (w + 1)).succ = L - w by omega]
theorem extra_zero {P L w : Nat} (h1 : P < 10 ^ L) (h2 : 10 ^ L ≤ 10 * P) (hw : w ≤ L) : P / 10 ^ (L - w) = 0 ↔ w = 0 := by
  constructor
  · intro h
    refine Classical.byContradiction fun h0 => ?_
    have p : 0 < 10 ^ (L - w) := Nat.pow_pos (by decide)
    rw [Nat.div_eq_zero_iff] at h
    rcases h with h | h
    · omega
    · have : 10 ^ (L - w) * 10 ≤ 10 ^ L := by rw [← Nat.pow_succ]; exact Nat.pow_le_pow_right (by decide) (by omega)
      omega
  · rintro rfl
    rw [Nat.sub_zero]
    exact Nat.div_eq_of_lt h1
/-- The first digit. -/
theorem top_digit {P L : Nat} (hL : 1 ≤ L) (h1 : P < 10 ^ L) (h2 : 10 ^ L ≤ 10 * P) : 1 ≤ P / 10 ^ (L - 1 - 0) % 10 ∧ P / 10 ^ (L - 1 - 0) % 10 = P / 10 ^ (L - 1) := by
  rw [Nat.sub_zero]
  have e : 10 ^ L = 10 ^ (L - 1) * 10 := by rw [← Nat.pow_succ]; congr 1; omega
  have p : 0 < 10 ^ (L - 1) := Nat.pow_pos (by decide)
  have a1 : P / 10 ^ (L - 1) < 10 := by rw [Nat.div_lt_iff_lt_mul p, Nat.mul_comm, ← e]; exact h1
  have a2 : 1 ≤ P / 10 ^ (L - 1) := by rw [Nat.le_div_iff_mul_le p]; omega
  rw [Nat.mod_eq_of_lt a1]
  exact ⟨a2, rfl⟩
end Go.Proofs.YtngklbnodknadaaGreatDoor
end

section
namespace Go.Proofs.YtngklbnodknadaaGreatDoor

/-- Leading digits, till they are 2^k or more: how many, and their number; behind the last one noughts. -/
def rsN (ds : List UInt8) (r : Nat) : Nat := vald (ds.take r) * 10 ^ (r - ds.length)
theorem rsN_zero (ds : List UInt8) : rsN ds 0 = 0 := by simp [rsN, vald]
theorem rsN_in {ds : List UInt8} {r : Nat} (h : r < ds.length) : rsN ds (r + 1) = rsN ds r * 10 + dig ds[r] := by
  unfold rsN
  rw [show r + 1 - ds.length = 0 by omega, show r - ds.length = 0 by omega, List.take_add_one, List.getElem?_eq_getElem h, Option.toList_some, vald_app]
  simp [vald]
theorem rsN_out {ds : List UInt8} {r : Nat} (h : ¬ r < ds.length) : rsN ds (r + 1) = rsN ds r * 10 := by
  unfold rsN
  rw [List.take_of_length_le (by omega), List.take_of_length_le (by omega), show r + 1 - ds.length = (r - ds.length) + 1 by omega, Nat.pow_succ, Nat.mul_assoc]
theorem rsN_step {ds : List UInt8} {r : Nat} (hd : ∀ c ∈ ds, isDg c) : rsN ds r * 10 ≤ rsN ds (r + 1) ∧ rsN ds (r + 1) ≤ rsN ds r * 10 + 9 := by
  by_cases h : r < ds.length
  · rw [rsN_in h]
    have := dig_lt (hd _ (List.getElem_mem h))
    omega
  · rw [rsN_out h]; omega
/-- It comes to 2^k: the first digit is none. -/
theorem rsN_pos {ds : List UInt8} (hd : ∀ c ∈ ds, isDg c) {c : UInt8} {l : List UInt8} (hc : ds = c :: l) (h0 : 1 ≤ dig c) : ∀ r, 10 ^ r ≤ rsN ds (r + 1)
  | 0 => by
    have := rsN_in (ds := ds) (r := 0) (by rw [hc]; simp)
    subst hc
    rw [this, rsN_zero]
    simpa using h0
  | r + 1 => by
    have ih := rsN_pos hd hc h0 r
    have := (rsN_step (r := r + 1) hd).1
    rw [Nat.pow_succ]; omega
/-- How many digits are taken at first. -/
def rsR (ds : List UInt8) (k : Nat) : Nat → Nat → Nat
  | 0, r => r
  | f + 1, r => if 2 ^ k ≤ rsN ds r then r else rsR ds k f (r + 1)
theorem rsR_spec {ds : List UInt8} {k : Nat} (hd : ∀ c ∈ ds, isDg c) : ∀ (f r : Nat), rsN ds r < 10 * 2 ^ k → (∃ j, r ≤ j ∧ j ≤ r + f ∧ 2 ^ k ≤ rsN ds j) → 2 ^ k ≤ rsN ds (rsR ds k f r) ∧ rsN ds (rsR ds k f r) < 10 * 2 ^ k ∧ r ≤ rsR ds k f r ∧ rsR ds k f r ≤ r + f ∧ ∀ j, r ≤ j → j < rsR ds k f r → rsN ds j < 2 ^ k
  | 0, r, h1, ⟨j, h2, h3, h4⟩ => by
    obtain rfl : j = r := by omega
    exact ⟨h4, h1, Nat.le_refl _, Nat.le_refl _, fun j h5 h6 => by simp only [rsR] at h6; omega⟩
  | f + 1, r, h1, ⟨j, h2, h3, h4⟩ => by
    rw [rsR]
    split
    · next h => exact ⟨h, h1, Nat.le_refl _, by omega, fun j h5 h6 => by omega⟩
    · next h =>
      have hs := rsN_step (r := r) hd
      have p : 0 < 2 ^ k := Nat.pow_pos (by decide)
      have hj : r + 1 ≤ j := by
        rcases Nat.lt_or_ge r j with q | q
        · exact q
        · obtain rfl : j = r := by omega
          exact absurd h4 h
      obtain ⟨a1, a2, a3, a4, a5⟩ := rsR_spec (k := k) hd f (r + 1) (by omega) ⟨j, hj, by omega, h4⟩
      refine ⟨a1, a2, by omega, by omega, fun j h5 h6 => ?_⟩
      rcases Nat.lt_or_ge r j with q | q
      · exact a5 j q h6
      · obtain rfl : j = r := by omega
        omega
/-- The digits put down while there are some to take. -/
def rsA (k : Nat) : List UInt8 → Nat → List UInt8 → Nat × List UInt8
  | [], n, out => (n, out)
  | c :: l, n, out => rsA k l (n % 2 ^ k * 10 + dig c) (out ++ [chr (n / 2 ^ k)])
/-- The extra digits: at most f of them. -/
def rsB (k : Nat) : Nat → Nat → List UInt8 → Bool → List UInt8 × Bool
  | 0, _, out, tr => (out, tr)
  | f + 1, n, out, tr => if n = 0 then (out, tr) else rsB k f (n % 2 ^ k * 10) (if out.length < 800 then out ++ [chr (n / 2 ^ k)] else out) (if out.length < 800 then tr else tr || decide (0 < n / 2 ^ k))
theorem rs_next {k n c : Nat} (hc : c < 10) : n % 2 ^ k * 10 + c < 10 * 2 ^ k := by
  have := Nat.mod_lt n (Nat.pow_pos (n := k) (by decide : 0 < 2))
  omega
theorem rs_dig {k n : Nat} (h : n < 10 * 2 ^ k) : n / 2 ^ k < 10 := by
  rw [Nat.div_lt_iff_lt_mul (Nat.pow_pos (by decide))]; exact h
/-- Each extra digit takes a factor of two. -/
theorem rs_two {k n j : Nat} (h : 2 ^ j ∣ n) (hj : j < k) : 2 ^ (j + 1) ∣ n % 2 ^ k * 10 := by
  have h1 : 2 ^ j ∣ n % 2 ^ k := (Nat.dvd_mod_iff (Nat.pow_dvd_pow 2 (by omega))).2 h
  rw [Nat.pow_succ]
  exact Nat.mul_dvd_mul h1 (by decide)
theorem rs_end {k n : Nat} (h : 2 ^ k ∣ n) : n % 2 ^ k * 10 = 0 := by rw [Nat.mod_eq_zero_of_dvd h]
end Go.Proofs.YtngklbnodknadaaGreatDoor
end

section
namespace Go.Proofs.YtngklbnodknadaaGreatDoor

structure Dc where
  (a : List UInt8) (nd : Nat) (dp : Int) (ng tr : Bool)
def Dc.ds (d : Dc) : List UInt8 := d.a.take d.nd
structure Dc.Ok (d : Dc) : Prop where
  len : d.a.length = 800
  nd : d.nd ≤ 800
  dg : ∀ c ∈ d.a.take d.nd, isDg c
  top : 1 ≤ d.nd → 1 ≤ dig (d.a.getD 0 0)
def trimN (a : List UInt8) : Nat → Nat
  | 0 => 0
  | n + 1 => if a.getD n 0 = 48 then trimN a n else n + 1
def trimD (a : List UInt8) (n : Nat) (dp : Int) (ng tr : Bool) : Dc := ⟨a, trimN a n, if trimN a n = 0 then 0 else dp, ng, tr⟩
theorem trimN_le (a : List UInt8) : ∀ n, trimN a n ≤ n
  | 0 => Nat.le_refl _
  | n + 1 => by
    rw [trimN]
    split
    · exact Nat.le_succ_of_le (trimN_le a n)
    · exact Nat.le_refl _
theorem trimN_pos {a : List UInt8} (h : a.getD 0 0 ≠ 48) : ∀ n, 1 ≤ n → 1 ≤ trimN a n
  | 0, hn => absurd hn (by decide)
  | 1, _ => by rw [trimN, if_neg h]; decide
  | n + 2, _ => by
    rw [trimN]
    split
    · exact trimN_pos h (n + 1) (by omega)
    · omega
theorem dig_ne {c : UInt8} (h : 1 ≤ dig c) : c ≠ 48 := by rintro rfl; revert h; decide
theorem trimD_ok {a : List UInt8} {n : Nat} {dp : Int} {ng tr : Bool} (h1 : a.length = 800) (h2 : n ≤ 800) (h3 : ∀ c ∈ a.take n, isDg c) (h4 : 1 ≤ n → 1 ≤ dig (a.getD 0 0)) : (trimD a n dp ng tr).Ok := by
  have hl := trimN_le a n
  refine ⟨h1, Nat.le_trans hl h2, fun c hc => h3 c ?_, fun h => h4 ?_⟩
  · have hc : c ∈ a.take (trimN a n) := hc
    rw [show trimN a n = min (trimN a n) n by omega, ← List.take_take] at hc
    exact List.mem_of_mem_take hc
  · have h : 1 ≤ trimN a n := h
    omega
theorem trimD_pos {a : List UInt8} {n : Nat} {dp : Int} {ng tr : Bool} (hn : 1 ≤ n) (h4 : 1 ≤ dig (a.getD 0 0)) : 1 ≤ (trimD a n dp ng tr).nd ∧ (trimD a n dp ng tr).dp = dp := by
  have := trimN_pos (dig_ne h4) n hn
  refine ⟨this, ?_⟩
  show (if trimN a n = 0 then 0 else dp) = dp
  rw [if_neg (by omega)]
theorem Dc.Ok.len_ds {d : Dc} (h : d.Ok) : d.ds.length = d.nd := by
  have h1 := h.nd
  unfold Dc.ds
  rw [List.length_take, h.len]; omega
theorem Dc.Ok.cons {d : Dc} (h : d.Ok) (hn : 1 ≤ d.nd) : ∃ c l, d.ds = c :: l ∧ c = d.a.getD 0 0 ∧ isDg c ∧ 1 ≤ dig c := by
  have hl := h.len
  have hm := h.dg
  have ht := h.top hn
  unfold Dc.ds
  cases ha : d.a with
  | nil => rw [ha] at hl; simp at hl
  | cons c l =>
    rw [ha] at hm ht
    obtain ⟨m, hm'⟩ : ∃ m, d.nd = m + 1 := ⟨d.nd - 1, by omega⟩
    rw [hm', List.take_succ_cons] at hm
    exact ⟨c, l.take m, by rw [hm', List.take_succ_cons], by simp, hm c (by simp), by simpa using ht⟩
theorem Dc.Ok.big {d : Dc} (h : d.Ok) (hn : 1 ≤ d.nd) : dig (d.a.getD 0 0) * 10 ^ (d.nd - 1) ≤ vald d.ds ∧ 10 ^ d.nd ≤ 10 * vald d.ds ∧ vald d.ds < (dig (d.a.getD 0 0) + 1) * 10 ^ (d.nd - 1) := by
  obtain ⟨c, l, h1, h2, h3, h4⟩ := h.cons hn
  have hl := h.len_ds
  rw [h1, List.length_cons] at hl
  have hd : ∀ c ∈ l, isDg c := fun x hx => h.dg x (by have : x ∈ d.ds := by rw [h1]; simp [hx]
                                                      exact this)
  have hv := vald_lt hd
  rw [← h2, h1, vald, show d.nd - 1 = l.length by omega, ← hl, Nat.pow_succ, Nat.add_mul]
  have : 1 * 10 ^ l.length ≤ dig c * 10 ^ l.length := Nat.mul_le_mul_right _ h4
  refine ⟨by omega, by omega, by omega⟩
/-! ### To the left -/
def leftD (d : Dc) (k : Nat) : Dc :=
  trimD (arrM d.a (vald d.ds * 2 ^ k) (d.nd + deltaM d.ds k) 0) (min (d.nd + deltaM d.ds k) 800) (d.dp + deltaM d.ds k) d.ng (lostM (vald d.ds * 2 ^ k) (d.nd + deltaM d.ds k) 0 d.tr)
theorem leftD_a (d : Dc) (k : Nat) : (leftD d k).a = arrM d.a (vald d.ds * 2 ^ k) (d.nd + deltaM d.ds k) 0 := by simp only [leftD, trimD]
theorem left_ok {d : Dc} {k : Nat} (h : d.Ok) (hn : 1 ≤ d.nd) (h1 : 1 ≤ k) (h2 : k ≤ 60) : (leftD d k).Ok ∧ 1 ≤ (leftD d k).nd ∧ (leftD d k).dp = d.dp + deltaM d.ds k ∧ (deltaM d.ds k = 0 → 2 * dig (d.a.getD 0 0) ≤ dig ((leftD d k).a.getD 0 0)) ∧ 1 ≤ dig ((leftD d k).a.getD 0 0) := by
  obtain ⟨b1, b2, -⟩ := h.big hn
  have hD := delta_ok h1 h2 h.dg (by rw [show d.a.take d.nd = d.ds from rfl, h.len_ds]; exact b2)
  rw [show d.a.take d.nd = d.ds from rfl, h.len_ds] at hD
  obtain ⟨d1, d2⟩ := hD
  have hL : 1 ≤ d.nd + deltaM d.ds k := by omega
  obtain ⟨t1, t2⟩ := top_digit hL d1 d2
  have hg : ∀ j, j < 800 → j < d.nd + deltaM d.ds k → (arrM d.a (vald d.ds * 2 ^ k) (d.nd + deltaM d.ds k) 0).getD j 0 = chr (vald d.ds * 2 ^ k / 10 ^ (d.nd + deltaM d.ds k - 1 - j) % 10) := fun j j1 j2 => by
    rw [List.getD_eq_getElem?_getD, arrM_get j1, if_pos ⟨Nat.zero_le _, j2⟩]; rfl
  have h0 : dig ((arrM d.a (vald d.ds * 2 ^ k) (d.nd + deltaM d.ds k) 0).getD 0 0) = vald d.ds * 2 ^ k / 10 ^ (d.nd + deltaM d.ds k - 1 - 0) % 10 := by
    rw [hg 0 (by decide) (by omega), (chr_dig (Nat.mod_lt _ (by decide))).2]
  have hp := trimD_pos (n := min (d.nd + deltaM d.ds k) 800) (dp := d.dp + deltaM d.ds k) (ng := d.ng) (tr := lostM (vald d.ds * 2 ^ k) (d.nd + deltaM d.ds k) 0 d.tr) (by omega) (by rw [h0]; exact t1)
  refine ⟨trimD_ok (arrM_len _ _ _ _) (by omega) (fun c hc => ?_) (fun _ => by rw [h0]; exact t1), hp.1, hp.2, fun h3 => ?_, by rw [leftD_a, h0]; exact t1⟩
  · obtain ⟨j, hj, rfl⟩ := List.mem_iff_getElem.1 hc
    rw [List.length_take, arrM_len] at hj
    have := hg j (by omega) (by omega)
    rw [List.getD_eq_getElem?_getD, List.getElem?_eq_getElem (by rw [arrM_len]; omega)] at this
    rw [List.getElem_take]
    rw [Option.getD_some] at this
    rw [this]
    exact (chr_dig (Nat.mod_lt _ (by decide))).1
  · rw [leftD_a, h0, t2, Nat.le_div_iff_mul_le (Nat.pow_pos (by decide)), h3, Nat.add_zero]
    have e : 2 ^ 1 ≤ 2 ^ k := Nat.pow_le_pow_right (by decide) h1
    have := Nat.mul_le_mul b1 e
    rw [Nat.pow_one] at this
    calc 2 * dig (d.a.getD 0 0) * 10 ^ (d.nd - 1) = dig (d.a.getD 0 0) * 10 ^ (d.nd - 1) * 2 := by simp only [Nat.mul_comm, Nat.mul_left_comm]
      _ ≤ _ := this
/-! ### To the right -/
theorem rsA_len (k : Nat) : ∀ (l : List UInt8) (n : Nat) (out : List UInt8), (rsA k l n out).2.length = out.length + l.length
  | [], n, out => rfl
  | c :: l, n, out => by rw [rsA, rsA_len k l]; simp; omega
theorem rsA_ok {k : Nat} : ∀ {l : List UInt8} {n : Nat} {out : List UInt8}, (∀ c ∈ l, isDg c) → n < 10 * 2 ^ k → (∀ c ∈ out, isDg c) → (rsA k l n out).1 < 10 * 2 ^ k ∧ ∀ c ∈ (rsA k l n out).2, isDg c
  | [], n, out, _, h2, h3 => ⟨h2, h3⟩
  | c :: l, n, out, h1, h2, h3 => by
    rw [rsA]
    refine rsA_ok (fun x hx => h1 x (by simp [hx])) (rs_next (dig_lt (h1 c (by simp)))) fun x hx => ?_
    simp only [List.mem_append, List.mem_singleton] at hx
    rcases hx with hx | rfl
    · exact h3 x hx
    · exact (chr_dig (rs_dig h2)).1
theorem rsA_top {k : Nat} : ∀ {l : List UInt8} {n : Nat} {out : List UInt8}, out ≠ [] → (rsA k l n out).2.getD 0 0 = out.getD 0 0
  | [], n, out, _ => rfl
  | c :: l, n, out, h => by
    rw [rsA, rsA_top (by simp)]
    cases out with
    | nil => exact absurd rfl h
    | cons a b => simp
theorem rsB_ok {k : Nat} : ∀ {f n : Nat} {out : List UInt8} {tr : Bool}, n < 10 * 2 ^ k → (∀ c ∈ out, isDg c) → out.length ≤ 800 → (∀ c ∈ (rsB k f n out tr).1, isDg c) ∧ (rsB k f n out tr).1.length ≤ 800 ∧ out.length ≤ (rsB k f n out tr).1.length
  | 0, n, out, tr, _, h2, h3 => ⟨h2, h3, Nat.le_refl _⟩
  | f + 1, n, out, tr, h1, h2, h3 => by
    rw [rsB]
    split
    · exact ⟨h2, h3, Nat.le_refl _⟩
    · have hn := rs_next (k := k) (n := n) (c := 0) (by decide)
      split
      · next h =>
        obtain ⟨a1, a2, a3⟩ := rsB_ok (k := k) (f := f) (n := n % 2 ^ k * 10) (out := out ++ [chr (n / 2 ^ k)]) (tr := tr) hn (fun x hx => by
          simp only [List.mem_append, List.mem_singleton] at hx
          rcases hx with hx | rfl
          · exact h2 x hx
          · exact (chr_dig (rs_dig h1)).1) (by simp; omega)
        exact ⟨a1, a2, by simp at a3; omega⟩
      · exact rsB_ok hn h2 h3
theorem rsB_top {k : Nat} : ∀ {f n : Nat} {out : List UInt8} {tr : Bool}, out ≠ [] → (rsB k f n out tr).1.getD 0 0 = out.getD 0 0
  | 0, n, out, tr, _ => rfl
  | f + 1, n, out, tr, h => by
    rw [rsB]
    split
    · rfl
    · rw [rsB_top (by split <;> simp [h])]
      split
      · cases out with
        | nil => exact absurd rfl h
        | cons a b => simp
      · rfl
def rightR (d : Dc) (k : Nat) : Nat := rsR d.ds k 20 0
def rightA (d : Dc) (k : Nat) : Nat × List UInt8 := rsA k (d.ds.drop (rightR d k)) (rsN d.ds (rightR d k)) []
def rightB (d : Dc) (k : Nat) : List UInt8 × Bool := rsB k (k + 1) (rightA d k).1 (rightA d k).2 d.tr
def rightD (d : Dc) (k : Nat) : Dc :=
  trimD ((rightB d k).1 ++ d.a.drop (rightB d k).1.length) (rightB d k).1.length (d.dp - ((rightR d k : Int) - 1)) d.ng (rightB d k).2
theorem right_r {d : Dc} {k : Nat} (h : d.Ok) (hn : 1 ≤ d.nd) (h2 : k ≤ 60) : 2 ^ k ≤ rsN d.ds (rightR d k) ∧ rsN d.ds (rightR d k) < 10 * 2 ^ k ∧ 1 ≤ rightR d k ∧ rightR d k ≤ 20 ∧ ∀ j, j < rightR d k → rsN d.ds j < 2 ^ k := by
  obtain ⟨c, l, e1, e2, e3, e4⟩ := h.cons hn
  have p : 0 < 2 ^ k := Nat.pow_pos (by decide)
  have hp := rsN_pos h.dg (show d.a.take d.nd = c :: l from e1) e4 19
  have h60 : 2 ^ k ≤ 2 ^ 60 := Nat.pow_le_pow_right (by decide) h2
  have : (2 : Nat) ^ 60 ≤ 10 ^ 19 := by decide
  obtain ⟨a1, a2, a3, a4, a5⟩ := rsR_spec (k := k) h.dg 20 0 (by rw [rsN_zero]; omega) ⟨20, by omega, by omega, by
    show 2 ^ k ≤ rsN (d.a.take d.nd) (19 + 1)
    omega⟩
  refine ⟨a1, a2, ?_, by simpa [rightR, Dc.ds] using a4, fun j hj => a5 j (Nat.zero_le _) hj⟩
  refine Nat.pos_of_ne_zero fun h0 => ?_
  have a1 : 2 ^ k ≤ rsN d.ds (rightR d k) := a1
  rw [h0, rsN_zero] at a1
  omega
theorem right_ok {d : Dc} {k : Nat} (h : d.Ok) (hn : 1 ≤ d.nd) (h2 : k ≤ 60) : (rightD d k).Ok ∧ 1 ≤ (rightD d k).nd ∧ (rightD d k).dp = d.dp - ((rightR d k : Int) - 1) ∧ dig ((rightD d k).a.getD 0 0) = rsN d.ds (rightR d k) / 2 ^ k ∧ 1 ≤ (rightB d k).1.length ∧ (rightB d k).1.length ≤ 800 ∧ (rightA d k).2.length = d.nd - rightR d k := by
  obtain ⟨r1, r2, r3, r4, -⟩ := right_r h hn h2
  have hq := rs_dig r2
  have hq1 : 1 ≤ rsN d.ds (rightR d k) / 2 ^ k := by rw [Nat.le_div_iff_mul_le (Nat.pow_pos (by decide))]; omega
  obtain ⟨c1, c2⟩ := chr_dig hq
  have hA := rsA_ok (l := d.ds.drop (rightR d k)) (out := []) (fun c hc => h.dg c (List.mem_of_mem_drop hc)) r2 (by simp)
  have hAl := rsA_len k (d.ds.drop (rightR d k)) (rsN d.ds (rightR d k)) []
  rw [List.length_drop, h.len_ds, List.length_nil, Nat.zero_add] at hAl
  have hnd := h.nd
  obtain ⟨b1, b2, b3⟩ := rsB_ok (k := k) (f := k + 1) (tr := d.tr) hA.1 hA.2 (by rw [hAl]; omega)
  have hB : 1 ≤ (rightB d k).1.length ∧ (rightB d k).1.getD 0 0 = chr (rsN d.ds (rightR d k) / 2 ^ k) := by
    cases hdr : d.ds.drop (rightR d k) with
    | cons c l =>
      have e : (rightA d k).2.getD 0 0 = chr (rsN d.ds (rightR d k) / 2 ^ k) := by
        unfold rightA
        rw [hdr, rsA, rsA_top (by simp)]
        rfl
      have e2 : (rightA d k).2 ≠ [] := by
        intro h0
        have := rsA_len k (d.ds.drop (rightR d k)) (rsN d.ds (rightR d k)) []
        rw [show (rsA k (d.ds.drop (rightR d k)) (rsN d.ds (rightR d k)) []).2 = (rightA d k).2 from rfl, h0, hdr] at this
        simp at this
      refine ⟨?_, by rw [show rightB d k = rsB k (k + 1) (rightA d k).1 (rightA d k).2 d.tr from rfl, rsB_top e2, e]⟩
      have : (rightA d k).2.length ≤ (rightB d k).1.length := b3
      have := List.length_pos_iff.2 e2
      omega
    | nil =>
      have eA : rightA d k = (rsN d.ds (rightR d k), []) := by unfold rightA; rw [hdr]; rfl
      have hne : rsN d.ds (rightR d k) ≠ 0 := by
        have : 0 < 2 ^ k := Nat.pow_pos (by decide)
        omega
      have eB : rightB d k = rsB k k (rsN d.ds (rightR d k) % 2 ^ k * 10) [chr (rsN d.ds (rightR d k) / 2 ^ k)] d.tr := by
        unfold rightB
        rw [eA, rsB, if_neg hne, if_pos (by simp), if_pos (by simp)]
        rfl
      refine ⟨?_, by rw [eB, rsB_top (by simp)]; rfl⟩
      rw [eB]
      have := (rsB_ok (k := k) (f := k) (n := rsN d.ds (rightR d k) % 2 ^ k * 10) (out := [chr (rsN d.ds (rightR d k) / 2 ^ k)]) (tr := d.tr) (rs_next (c := 0) (by decide)) (fun x hx => by rw [List.mem_singleton.1 hx]; exact c1) (by simp)).2.2
      simpa using this
  have hB2 : (rightB d k).1.length ≤ 800 := b2
  have e0 : ((rightB d k).1 ++ d.a.drop (rightB d k).1.length).getD 0 0 = chr (rsN d.ds (rightR d k) / 2 ^ k) := by
    rw [← hB.2]
    cases hb : (rightB d k).1 with
    | nil => rw [hb] at hB; simp at hB
    | cons a b => simp
  have ht : 1 ≤ dig (((rightB d k).1 ++ d.a.drop (rightB d k).1.length).getD 0 0) := by rw [e0, c2]; exact hq1
  have hp := trimD_pos (n := (rightB d k).1.length) (dp := d.dp - ((rightR d k : Int) - 1)) (ng := d.ng) (tr := (rightB d k).2) hB.1 ht
  refine ⟨trimD_ok (by rw [List.length_append, List.length_drop, h.len]; omega) hB2 (fun c hc => ?_) (fun _ => ht), hp.1, hp.2, ?_, hB.1, hB2, hAl⟩
  · rw [List.take_append_of_le_length (Nat.le_refl _), List.take_length] at hc
    exact b1 c hc
  · show dig (((rightB d k).1 ++ d.a.drop (rightB d k).1.length).getD 0 0) = _
    rw [e0, c2]
/-- One digit alone is taken: it was great enough. -/
theorem right_one {d : Dc} {k : Nat} (h : d.Ok) (hn : 1 ≤ d.nd) (h2 : k ≤ 60) (h1 : rightR d k = 1) : 2 ^ k ≤ dig (d.a.getD 0 0) ∧ dig ((rightD d k).a.getD 0 0) = dig (d.a.getD 0 0) / 2 ^ k := by
  obtain ⟨r1, -⟩ := right_r h hn h2
  obtain ⟨-, -, -, o1, -⟩ := right_ok h hn h2
  obtain ⟨c, l, e1, e2, e3, e4⟩ := h.cons hn
  have : rsN d.ds 1 = dig c := by
    have := rsN_in (ds := d.ds) (r := 0) (by rw [e1]; simp)
    rw [rsN_zero] at this
    rw [this]
    simp [e1]
  rw [h1, this] at r1
  rw [h1, this] at o1
  rw [← e2]
  exact ⟨r1, o1⟩
/-! ### Scaling ends -/
def pw (m : Nat) : Nat := if 9 ≤ m then 27 else [1, 3, 6, 9, 13, 16, 19, 23, 26].getD m 0
theorem pw_all : ∀ m : Fin 9, 1 ≤ pw m.1 ∧ pw m.1 ≤ 27 ∧ (2 ≤ m.1 → 4 ≤ pw m.1) := by decide
theorem pw_ok (m : Nat) : 1 ≤ pw m ∧ pw m ≤ 27 ∧ (2 ≤ m → 4 ≤ pw m) := by
  rcases Nat.lt_or_ge m 9 with h | h
  · exact pw_all ⟨m, h⟩
  · unfold pw; rw [if_pos h]; omega
def mu1 (d : Dc) : Nat := 2 * d.dp.toNat + if 8 ≤ dig (d.a.getD 0 0) then 1 else 0
def mu2 (d : Dc) : Nat := 10 * (-d.dp).toNat + (10 - dig (d.a.getD 0 0))
theorem top_lt {d : Dc} (h : d.Ok) (hn : 1 ≤ d.nd) : dig (d.a.getD 0 0) < 10 := by
  obtain ⟨c, l, e1, e2, e3, e4⟩ := h.cons hn
  rw [← e2]; exact dig_lt e3
theorem mu1_lt {d : Dc} (h : d.Ok) (hn : 1 ≤ d.nd) (hp : 0 < d.dp) : mu1 (rightD d (pw d.dp.toNat)) < mu1 d := by
  obtain ⟨p1, p2, p3⟩ := pw_ok d.dp.toNat
  obtain ⟨-, -, o1, -⟩ := right_ok (k := pw d.dp.toNat) h hn (by omega)
  obtain ⟨-, -, r1, -⟩ := right_r (k := pw d.dp.toNat) h hn (by omega)
  have ht := top_lt h hn
  have key : rightR d (pw d.dp.toNat) = 1 → d.dp = 1 ∧ 8 ≤ dig (d.a.getD 0 0) ∧ dig ((rightD d (pw d.dp.toNat)).a.getD 0 0) < 8 := fun h1 => by
    obtain ⟨a1, a2⟩ := right_one h hn (by omega) h1
    have hd : d.dp = 1 := by
      rcases Int.lt_or_le 1 d.dp with q | q
      · have := p3 (by omega)
        have : 2 ^ 4 ≤ 2 ^ pw d.dp.toNat := Nat.pow_le_pow_right (by decide) this
        omega
      · omega
    have e : pw d.dp.toNat = 3 := by rw [hd]; decide
    rw [e] at a1 a2 ⊢
    exact ⟨hd, a1, by rw [a2]; omega⟩
  unfold mu1
  rw [o1]
  generalize hx : dig ((rightD d (pw d.dp.toNat)).a.getD 0 0) = x at key ⊢
  rcases Nat.lt_or_ge (rightR d (pw d.dp.toNat)) 2 with q | q
  · obtain ⟨k1, k2, k3⟩ := key (by omega)
    rw [if_pos k2, if_neg (by omega)]
    omega
  · split <;> split <;> omega
theorem mu2_lt {d : Dc} (h : d.Ok) (hn : 1 ≤ d.nd) (hp : d.dp < 0 ∨ d.dp = 0 ∧ dig (d.a.getD 0 0) < 5) : mu2 (leftD d (pw (-d.dp).toNat)) < mu2 d := by
  obtain ⟨p1, p2, -⟩ := pw_ok (-d.dp).toNat
  obtain ⟨-, -, o1, o2, o3⟩ := left_ok (k := pw (-d.dp).toNat) h hn p1 (by omega)
  have ht := top_lt h hn
  have h1 := h.top hn
  have key : d.dp = 0 → dig (d.a.getD 0 0) < 5 → deltaM d.ds (pw (-d.dp).toNat) = 0 := fun h0 h5 => by
    obtain ⟨b1, b2, b3⟩ := h.big hn
    have hD := delta_ok p1 (by omega) h.dg (k := pw (-d.dp).toNat) (by rw [show d.a.take d.nd = d.ds from rfl, h.len_ds]; exact b2)
    rw [show d.a.take d.nd = d.ds from rfl, h.len_ds] at hD
    have hD := hD.2
    have e : pw (-d.dp).toNat = 1 := by rw [h0]; decide
    rw [e] at hD ⊢
    refine Classical.byContradiction fun hne => ?_
    have e1 : 10 ^ (d.nd + 1) ≤ 10 ^ (d.nd + deltaM d.ds 1) := Nat.pow_le_pow_right (by decide) (by omega)
    have e2 : 10 ^ (d.nd + 1) = 10 ^ (d.nd - 1) * 10 * 10 := by rw [← Nat.pow_succ, ← Nat.pow_succ]; congr 1; omega
    have e3 : (dig (d.a.getD 0 0) + 1) * 10 ^ (d.nd - 1) ≤ 5 * 10 ^ (d.nd - 1) := Nat.mul_le_mul_right _ (by omega)
    rw [Nat.pow_one] at hD
    omega
  unfold mu2
  rw [o1]
  generalize dig ((leftD d (pw (-d.dp).toNat)).a.getD 0 0) = x at *
  generalize dig (d.a.getD 0 0) = y at *
  rcases Nat.eq_zero_or_pos (deltaM d.ds (pw (-d.dp).toNat)) with q | q
  · have := o2 q
    rw [q]
    omega
  · rcases hp with hp | ⟨hp, h5⟩
    · omega
    · have := key hp h5; omega
end Go.Proofs.YtngklbnodknadaaGreatDoor
end

section
namespace Go.Proofs.YtngklbnodknadaaGreatDoor
open Go.RowKit

abbrev decO (a : List UInt8) (nd : Nat) (dp : Int) (ng tr : Bool) : GObj := .barr 177 a [intT nd, intT dp, boolT ng, boolT tr]
theorem dec_get {a : List UInt8} {i : Nat} (h : i < a.length) : a[i]? = some (a.getD i 0) := by
  rw [List.getD_eq_getElem?_getD, List.getElem?_eq_getElem h]; rfl
theorem b48 {b : UInt8} : ((b.toNat : Int) == 48) = decide (b = 48) := by
  by_cases h : b = 48
  · subst h; rfl
  · have : b.toNat ≠ 48 := fun e => h (UInt8.toNat_inj.1 (by rw [e]; rfl))
    rw [decide_eq_false h]
    simp; omega
theorem xB8 {l : List UInt8} {i : Nat} {K : UInt8 → Prop} (b : UInt8) (h : l[i]? = some b) (k : K b) : ∃ b, l[i]? = some b ∧ K b := ⟨b, h, k⟩
theorem xS8 {z : Int} {i n : Nat} {K : UInt8 → Prop} (b : UInt8) (hz : z = (b.toNat : Int)) (h : i < n) (k : K b) : ∃ b : UInt8, z = (b.toNat : Int) ∧ i < n ∧ K b := ⟨b, hz, h, k⟩
theorem trim_fn (a : List UInt8) (nd : Nat) (dp : Int) (ng tr : Bool) (ha : a.length = 800) (hn : nd ≤ 800) : FnO Tryz.prog 138 [.ref 1000 0] [(1000, decO a nd dp ng tr)] (.tup []) [(1000, decO a (trimN a nd) (if trimN a nd = 0 then 0 else dp) ng tr)] := by
  generalize ht : trimN a nd = t
  have htl : t ≤ 800 := by have := trimN_le a nd; omega
  refine FnO.of0 (n := 35) [] fax_ok Tryz.func138 rfl rfl rfl (by rfl) (by rfl) (by kernel_rfl) fun Γ hA hbA hbO => ?_
  refine ev_loop [] fax_ok hA (by kernel_rfl) (fun i : Nat => i ≤ 800 ∧ trimN a i = t) (fun _ => [(0, .ref 1000 0)]) (fun i => [(1000, decO a i dp ng tr)]) (fun i => i) nd ⟨hn, ht⟩ fiE fiO ?_
  · rintro i ⟨hi, hti⟩ - hbO
    dsimp only
    rcases i with _ | i
    · obtain rfl : t = 0 := hti.symm
      (repeat ((conv => whnf); (first | refine exR ?_ | refine tT ?_ | refine tF ?_ | refine oB ?_ | refine lL ?_)))
      exact ⟨eN, rS, fiO⟩
    · have hg := dec_get (a := a) (i := i) (by omega)
      rw [trimN] at hti
      generalize a.getD i 0 = b at hg hti
      (repeat ((conv => whnf); (first | with_reducible refine exE _ (w_dec (by omega) (by omega)) ?_ | refine exR ?_ | refine tT ?_ | refine lL ?_ | refine exA _ rfl (by omega) ?_)))
      refine xB8 b hg ?_
      (repeat ((conv => whnf); (first | refine exR ?_ | refine tT ?_ | refine oB ?_)))
      by_cases hb : b = 48
      · rw [if_pos hb] at hti
        have hc : ((b.toNat : Int) == 48) = true := by rw [b48]; exact decide_eq_true hb
        (repeat ((conv => whnf); (first | with_reducible refine exE _ (w_dec (by omega) (by omega)) ?_ | refine tT ?_ | refine lL ?_)))
        exact ⟨i, ⟨by omega, hti⟩, by omega, fiE, fiO⟩
      · rw [if_neg hb] at hti
        have hc : ((b.toNat : Int) == 48) = false := by rw [b48]; exact decide_eq_false hb
        subst hti
        (repeat ((conv => whnf); (first | refine exR ?_ | refine tF ?_ | refine lL ?_)))
        exact ⟨eN, rS, fiO⟩
end Go.Proofs.YtngklbnodknadaaGreatDoor
end

section
namespace Go.Proofs.YtngklbnodknadaaGreatDoor
open Go.RowKit

theorem pl_out {l s : List UInt8} {i : Nat} (h1 : i < s.length) (h2 : ¬ i < l.length) : pless (l.drop i) (s.drop i) = true := by
  rw [List.drop_eq_getElem_cons h1, List.drop_of_length_le (by omega)]; rfl
theorem pl_in {l s : List UInt8} {i : Nat} {b c : UInt8} (h1 : l[i]? = some b) (h2 : s[i]? = some c) : pless (l.drop i) (s.drop i) = if b = c then pless (l.drop (i + 1)) (s.drop (i + 1)) else decide (b.toNat < c.toNat) := by
  obtain ⟨q1, e1⟩ := List.getElem?_eq_some_iff.1 h1
  obtain ⟨q2, e2⟩ := List.getElem?_eq_some_iff.1 h2
  rw [List.drop_eq_getElem_cons q1, List.drop_eq_getElem_cons q2, e1, e2]; rfl
theorem pless_fn (a : List UInt8) (m nd : Nat) (dp : Int) (ng tr : Bool) (s : List UInt8) (ha : a.length = 800) (hm : m ≤ 800) (hsl : s.length ≤ 9223372036854775807) : FnO Tryz.prog 137 [.mrow 1000 m, strT s] [(1000, decO a nd dp ng tr)] (boolT (pless (a.take m) s)) [(1000, decO a nd dp ng tr)] := by
  generalize ht : pless (a.take m) s = r
  have hml : (a.take m).length = m := by rw [List.length_take]; omega
  refine FnO.of1 (n := 32) [] fax_ok Tryz.func137 rfl rfl rfl (by rfl) (by rfl) (by kernel_rfl) fun Γ hA hbA hbO => ?_
  skip
  refine ev_loop [] fax_ok hA (by kernel_rfl) (fun i : Nat => i ≤ s.length ∧ pless ((a.take m).drop i) (s.drop i) = r) (fun i => [(0, .mrow 1000 m), (1, strT s), (5, intT i)]) (fun _ => [(1000, decO a nd dp ng tr)]) (fun i => s.length - i) 0 ⟨Nat.zero_le _, ht⟩ fiE fiO ?_
  · rintro i ⟨hi, hti⟩ - hbO
    dsimp only
    rcases Nat.lt_or_ge i s.length with h1 | h1
    · have hc := dec_get h1
      generalize s.getD i 0 = c at hc
      rcases Nat.lt_or_ge i m with h2 | h2
      · have hg := dec_get (a := a) (i := i) (by omega)
        generalize a.getD i 0 = b at hg
        have hg2 : (a.take m)[i]? = some b := by rw [List.getElem?_take, if_pos h2]; exact hg
        rw [pl_in hg2 hc] at hti
        (repeat ((conv => whnf); (first | refine exR ?_ | refine tT ?_ | refine tF ?_ | refine exA _ rfl (by omega) ?_)))
        refine xB8 b hg ?_
        (repeat ((conv => whnf); (first | refine exR ?_ | refine oB ?_ | refine exB _ rfl (by assumption) ?_)))
        by_cases hb : b = c
        · rw [if_pos hb] at hti
          have hn : ((b.toNat : Int) != (c.toNat : Int)) = false := by rw [hb]; simp
          (repeat ((conv => whnf); (first | with_reducible refine exE _ (w_inc (by omega)) ?_ | refine tF ?_)))
          exact ⟨i + 1, ⟨h1, hti⟩, by omega, fiE, fiO⟩
        · rw [if_neg hb] at hti
          have hn : ((b.toNat : Int) != (c.toNat : Int)) = true := by
            have : b.toNat ≠ c.toNat := fun e => hb (UInt8.toNat_inj.1 e)
            exact bne_iff_ne.2 (by omega)
          obtain rfl : r = decide ((b.toNat : Int) < (c.toNat : Int)) := by
            rw [← hti]
            exact decide_eq_decide.2 (by omega)
          (repeat ((conv => whnf); (first | refine tT ?_ | refine exA _ rfl (by omega) ?_)))
          refine xB8 b hg ?_
          (repeat ((conv => whnf); (first | refine exR ?_ | refine oB ?_ | refine exB _ rfl (by assumption) ?_)))
          exact ⟨eN, rS, fiO⟩
      · have h2' : ¬ i < (a.take m).length := by omega
        rw [pl_out h1 h2'] at hti
        obtain rfl := hti.symm
        (repeat ((conv => whnf); (first | refine exR ?_ | refine tT ?_)))
        exact ⟨eN, rS, fiO⟩
    · have hti : false = r := by rw [← hti, List.drop_of_length_le (l := s) h1]; cases (List.drop i (a.take m)) <;> rfl
      obtain rfl := hti.symm
      (repeat ((conv => whnf); (first | refine exR ?_ | refine tF ?_)))
      exact ⟨eN, rS, fiO⟩
end Go.Proofs.YtngklbnodknadaaGreatDoor
end

section
namespace Go.Proofs.YtngklbnodknadaaGreatDoor
open Go.RowKit
section
variable {P : Program} {o : Oper} {σ : Nat → T} {Γ : Cx} {objs : Objs}
theorem WI.frzB {g : Gh} {w : World} {b0 : Nat} (hw : WI Γ g objs w) (hB : TabB w b0) :
    GLe (fun _ => True) g ⟨frzS g.S w (· = b0), g.blk, g.row, g.len⟩ ∧ WI Γ ⟨frzS g.S w (· = b0), g.blk, g.row, g.len⟩ objs w := by
  have hle : GLe (fun _ => True) g ⟨frzS g.S w (· = b0), g.blk, g.row, g.len⟩ := by
    refine ⟨fun b o x h => ?_, fun _ _ _ => rfl, fun _ _ => Nat.le_refl _, fun _ _ _ => rfl⟩
    show frzS g.S w (· = b0) b o = some x
    unfold frzS
    split
    · exact hw.imm b o x h
    · exact h
  refine ⟨hle, fun b o x h => ?_, fun i oi hi => ?_, fun i j oi oj b h1 h2 h3 h4 => ?_, hw.fr, fun b o hb hx hnt => ?_, hw.ext.trans (hle.weak fun _ _ => trivial)⟩
  · have h : frzS g.S w (· = b0) b o = some x := h
    unfold frzS at h
    split at h
    · exact h
    · exact hw.imm b o x h
  · refine (hw.obj i oi hi).same hle rfl rfl rfl (fun _ _ => trivial) fun b hb => ⟨rfl, fun o => ?_⟩
    show frzS g.S w (· = b0) b o = _
    unfold frzS
    rw [if_neg (fun e : b = b0 => hw.ntab hi hb (by rw [e]; exact hB))]
  · exact hw.apart i j oi oj b h1 h2 (by rw [← blk_same (g := g) (g' := ⟨frzS g.S w (· = b0), g.blk, g.row, g.len⟩) rfl rfl oi]; exact h3) (by rw [← blk_same (g := g) (g' := ⟨frzS g.S w (· = b0), g.blk, g.row, g.len⟩) rfl rfl oj]; exact h4)
  · show frzS g.S w (· = b0) b o = _
    unfold frzS
    rw [if_neg (fun e : b = b0 => hnt (hw.fr.tabB (by rw [e]; exact hB)).1)]
    exact hw.old b o hb hx hnt
theorem t_stab (p : Nat × Nat × List Value) {k kk : Nat} {l : List D} {t : TypeId} (ho : o.op = .load t (.global p.1)) (ht : aggOf? P t = some (false, kk)) (hp : p ∈ stabs) (hr : ∀ S, RepLv S k l p.2.2) (hl : l.length = p.2.1) : Tri P o σ [] (.d (.sl k l)) [] := by
  intro Γ g objs a w Q _ _ hw
  obtain ⟨b, hb⟩ := hw.fr.tabs.sl p hp
  have hb' := hb
  obtain ⟨off, c, t', fr, h1, h2, h3, h4, h5⟩ := hb
  obtain ⟨k1, k2⟩ := hw.frzB (.inr ⟨p, hp, .inr hb'⟩)
  have hc : w.cell? ⟨p.1, 0, none⟩ = some (.slice (some ⟨b, off, none⟩) p.2.1 c) := by simp [World.cell?, h1]
  have hrun : (execOp a.eval o).run P w = .ok (.value (.slice (some ⟨b, off, none⟩) p.2.1 c)) w := by
    unfold execOp
    rw [ho]
    simp [Act.eval, load_run ht hc]
  unfold Oper.wp
  rw [hrun]
  refine ⟨_, _, rfl, k1, .d ?_, k2⟩
  have := RepD.sl (S := frzS g.S w (· = b)) (p := some ⟨b, off, none⟩) (cap := c) (hr _) ⟨b, off, fun _ => rfl, fun i hi => ?_⟩ (by rw [hl]; exact h2) h3 (fun h => by cases h)
  · rw [hl] at this
    exact this
  · show frzS g.S w _ b (off + i) = _
    unfold frzS
    rw [if_pos rfl]
    exact h5 i hi
end
/-- The cheat sheet. -/
@[irreducible] def cheatL : List D := (List.range 61).map fun k => .agg [.v (.int .i64 ((if k = 0 then 0 else Lib.nDigits (2 ^ k) : Nat) : Int)), .v (.string ⟨(if k = 0 then [] else Lib.decDigits (5 ^ k)).toArray⟩)]
theorem two_lv {S : Sm} : ∀ (f g : Nat → Value), (∀ k, (f k).oneCell' = true ∧ (g k).oneCell' = true) → ∀ l : List Nat, RepLv S 2 (l.map fun k => .agg [.v (f k), .v (g k)]) (l.flatMap fun k => [f k, g k])
  | _, _, _, [] => .nil
  | f, g, h, k :: l => by
    rw [List.map_cons, List.flatMap_cons]
    exact .cons (.cons (.v (h k).1) (h k).1 (.cons (.v (h k).2) (h k).2 .nil)) rfl (two_lv f g h l)
theorem cheatL_rep (S : Sm) : RepLv S 2 cheatL leftV := by unfold cheatL leftV; exact two_lv _ _ (fun _ => ⟨rfl, rfl⟩) _
theorem cheatL_get {k : Nat} (h1 : 1 ≤ k) (h2 : k ≤ 60) : cheatL[k]? = some (.agg [.v (.int .i64 (cheatD k : Int)), .v (.string ⟨⟨cheatC k⟩⟩)]) := by
  unfold cheatL
  rw [List.getElem?_map, List.getElem?_range (by omega), Option.map_some, if_neg (by omega), if_neg (by omega)]
  rfl
def powL : List D := [1, 3, 6, 9, 13, 16, 19, 23, 26].map fun i : Nat => .v (.int .i64 (i : Int))
theorem powL_rep (S : Sm) : RepLv S 1 powL powV := by
  unfold powL powV
  generalize [1, 3, 6, 9, 13, 16, 19, 23, 26] = l
  induction l with
  | nil => exact .nil
  | cons i l ih => exact .cons (xs := [_]) (.cons (.v rfl) rfl .nil) rfl ih
end Go.Proofs.YtngklbnodknadaaGreatDoor
end
