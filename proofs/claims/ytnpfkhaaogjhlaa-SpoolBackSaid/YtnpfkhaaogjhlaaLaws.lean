/-
  The plain laws of the package spool.
-/
import Derived.Test.YtnpfkhaaogjhlaaRead
namespace Go.Proofs.Ytnpfkhaaogjhlaa

theorem ofNat_toNat (n : Nat) : (UInt8.ofNat n).toNat = n % 256 := by rw [UInt8.toNat_ofNat']
theorem numS_step {m : Nat} (h : m < 18446744073709551616) : numS (m / 256) (UInt8.ofNat m) = m := by unfold numS; rw [ofNat_toNat]; omega
theorem numS_zero {m : Nat} (h : m < 256) : numS 0 (UInt8.ofNat m) = m := by unfold numS; rw [ofNat_toNat]; omega
theorem numB_big8 {n : Nat} (h : n < 18446744073709551616) : numB (big8 n) = n := by
  unfold numB big8
  simp only [List.foldl_cons, List.foldl_nil]
  rw [numS_zero (by omega), numS_step (by omega), numS_step (by omega), numS_step (by omega), numS_step (by omega), numS_step (by omega), numS_step (by omega), numS_step (by omega)]
theorem numB_big4 {n : Nat} (h : n < 4294967296) : numB (big4 n) = n := by
  unfold numB big4
  simp only [List.foldl_cons, List.foldl_nil]
  rw [numS_zero (by omega), numS_step (by omega), numS_step (by omega), numS_step (by omega)]

theorem right_kind {v : Vl} (h : rightM v = 0) : 0 ≤ v.k ∧ v.k ≤ 4 := by
  unfold rightM at h
  split at h
  · omega
  · split at h
    · omega
    · split at h
      · omega
      · split at h
        · omega
        · split at h <;> omega
theorem i64_u64 {n : Int} (h : (Lit.int .i64 n).wf = true) : i64of (u64of n) = n := by
  have h1 : -9223372036854775808 ≤ n ∧ n ≤ 9223372036854775807 := by
    simp [Lit.wf, IntKind.min, IntKind.max, IntKind.bits, IntKind.signed] at h
    omega
  unfold i64of u64of
  split <;> omega
theorem one_rec {v : Vl} (hr : rightM v = 0) (hw : v.Wf) : oneM (recM v) = (v, 0) := by
  have h1 : (recM v).take 9 = ownM v := rfl
  have h2 : (recM v).drop 9 = big4 (sumB (ownM v)) := rfl
  have h3 : (ownM v).drop 1 = big8 (u64of v.n) := rfl
  have h4 : (recM v).getD 0 0 = UInt8.ofNat (v.k % 256).toNat := rfl
  obtain ⟨k1, k2⟩ := right_kind hr
  have h5 : (((UInt8.ofNat (v.k % 256).toNat).toNat : Nat) : Int) = v.k := by rw [ofNat_toNat]; omega
  unfold oneM
  rw [h1, h2, h3, h4, numB_big4 (sumB_lt _), numB_big8 (u64of_lt _), i64_u64 hw.n, h5]
  rw [if_neg (by simp)]
  dsimp only
  rw [if_neg (by simpa using hr)]

theorem recs_take (l : List Vl) (n : Nat) : recs (l.take n) = (recs l).take (13 * n) := by
  induction l generalizing n with
  | nil => simp [recs]
  | cons e l ih =>
    cases n with
    | zero => simp [recs]
    | succ n =>
      have : recs (e :: l) = recM e ++ recs l := by simp [recs]
      rw [List.take_succ_cons, this, List.take_append, recM_length, show 13 * (n + 1) - 13 = 13 * n from by omega, ← ih, List.take_of_length_le (l := recM e) (by simp; omega)]
      simp [recs]

/-- The bytes begin with the records of vs. -/
theorem recAt_of {b : List UInt8} {vs : List Vl} (h : b.take (13 * vs.length) = recs vs) {k : Nat} (hk : k < vs.length) : recAt b k = oneM (recM (vs.getD k .z)) := by
  unfold recAt
  have h1 : b.take (13 * k + 13) = recs (vs.take (k + 1)) := by
    rw [recs_take, ← h, List.take_take, Nat.min_eq_left (by omega)]
    rfl
  rw [h1, recs_take_succ hk, List.drop_left' (by rw [recs_length, List.length_take, Nat.min_eq_left (by omega)]; omega)]
def Good (vs : List Vl) : Prop := ∀ v ∈ vs, rightM v = 0 ∧ v.Wf
theorem Good.get {vs : List Vl} (h : Good vs) {k : Nat} (hk : k < vs.length) : rightM (vs.getD k .z) = 0 ∧ (vs.getD k .z).Wf := by
  rw [List.getD_eq_getElem?_getD, List.getElem?_eq_getElem hk]
  exact h _ (List.getElem_mem hk)
theorem valsTo_of {b : List UInt8} {vs : List Vl} (h : b.take (13 * vs.length) = recs vs) (hg : Good vs) : ∀ k, k ≤ vs.length → valsTo b k = vs.take k := by
  intro k
  induction k with
  | zero => intro _; simp [valsTo]
  | succ k ih =>
    intro hk
    have hg' := hg.get (k := k) (by omega)
    rw [valsTo_succ, ih (by omega), recAt_of h (by omega), one_rec hg'.1 hg'.2, List.take_add_one, List.getElem?_eq_getElem (by omega)]
    simp [show k < vs.length by omega]
theorem read_pre {b : List UInt8} {vs : List Vl} (h : b.take (13 * vs.length) = recs vs) (h1 : 13 * vs.length ≤ b.length) (h2 : b.length < 13 * vs.length + 13) (hg : Good vs) : readQ b = (vs, 0) := by
  have hm : b.length / 13 = vs.length := by omega
  rw [readQ_none, hm, valsTo_of h hg _ (Nat.le_refl _), List.take_length]
  intro j hj
  rw [hm] at hj
  rw [recAt_of h hj, one_rec (hg.get hj).1 (hg.get hj).2]
theorem good_of {l : List Vl} (h : errM l = 0) (hw : ∀ v ∈ l, v.Wf) : Good l := by
  intro v hv
  refine ⟨?_, hw v hv⟩
  unfold errM at h
  by_cases hr : rightM v = 0
  · exact hr
  · exfalso
    cases hf : l.find? (fun v => rightM v != 0) with
    | none =>
      rw [List.find?_eq_none] at hf
      exact hf v hv (by simpa using hr)
    | some u =>
      rw [hf] at h
      have := List.find?_some hf
      simp at h this
      exact this h
theorem Good.app {l m : List Vl} (h : Good l) (h' : Good m) : Good (l ++ m) := fun v hv => (List.mem_append.1 hv).elim (h v) (h' v)

/-- Two spools, one behind the other. -/
theorem back_law {l m : List Vl} (hl : Good l) (hm : Good m) : readQ (recs l ++ recs m) = (l ++ m, 0) := by
  rw [← recs_append]
  exact read_pre (by rw [List.take_of_length_le (by rw [recs_length]; omega)]) (by rw [recs_length]; omega) (by rw [recs_length]; omega) (hl.app hm)
/-- Torn at n. -/
theorem torn_law {l : List Vl} (hl : Good l) {n : Nat} (hn : n ≤ (recs l).length) : readQ ((recs l).take n) = (l.take (n / 13), 0) := by
  rw [recs_length] at hn
  have hlen : (l.take (n / 13)).length = n / 13 := by rw [List.length_take, Nat.min_eq_left (by omega)]
  refine read_pre ?_ ?_ ?_ (fun v hv => hl v (List.mem_of_mem_take hv))
  · rw [hlen, List.take_take, Nat.min_eq_left (by omega), ← recs_take]
  · rw [hlen, List.length_take, recs_length]; omega
  · rw [hlen, List.length_take, recs_length]; omega

/-! ### One bit -/
theorem mul_inj {a b : Nat} (ha : a < 4294967296) (hb : b < 4294967296) (h : a * 16777619 % 4294967296 = b * 16777619 % 4294967296) : a = b := by
  have e : ∀ x : Nat, x < 4294967296 → (x * 16777619 % 4294967296) * 899433627 % 4294967296 = x := by
    intro x hx
    rw [Nat.mod_mul_mod, Nat.mul_assoc, show 16777619 * 899433627 = 3513497 * 4294967296 + 1 from by decide, Nat.mul_add, Nat.mul_one, ← Nat.mul_assoc, Nat.mul_add_mod']
    exact Nat.mod_eq_of_lt hx
  rw [← e a ha, h, e b hb]
theorem xor_lt32 {a : Nat} (x : UInt8) (ha : a < 4294967296) : a ^^^ x.toNat < 4294967296 := by
  have := Nat.xor_lt_two_pow (n := 32) (x := a) (y := x.toNat) (by omega) (by have := u8_lt x; omega)
  omega
theorem xor_cancel {a b c : Nat} (h : a ^^^ c = b ^^^ c) : a = b := by
  have := congrArg (· ^^^ c) h
  simpa [Nat.xor_assoc] using this
theorem sumS_inj {a b : Nat} {x : UInt8} (ha : a < 4294967296) (hb : b < 4294967296) (h : sumS a x = sumS b x) : a = b := by
  unfold sumS at h
  exact xor_cancel (mul_inj (xor_lt32 x ha) (xor_lt32 x hb) h)
theorem sumS_byte {a : Nat} {x y : UInt8} (ha : a < 4294967296) (h : sumS a x = sumS a y) : x = y := by
  unfold sumS at h
  have := mul_inj (xor_lt32 x ha) (xor_lt32 y ha) h
  rw [Nat.xor_comm a, Nat.xor_comm a] at this
  exact UInt8.toNat_inj.1 (xor_cancel this)
theorem fold_inj : ∀ (l : List UInt8) (a b : Nat), a < 4294967296 → b < 4294967296 → l.foldl sumS a = l.foldl sumS b → a = b := by
  intro l
  induction l with
  | nil => intro a b _ _ h; exact h
  | cons x l ih =>
    intro a b ha hb h
    rw [List.foldl_cons, List.foldl_cons] at h
    exact sumS_inj ha hb (ih _ _ (sumS_lt _ _) (sumS_lt _ _) h)
theorem sumB_set {l : List UInt8} {i : Nat} {x : UInt8} (hi : i < l.length) (hx : x ≠ l.getD i 0) : sumB (l.set i x) ≠ sumB l := by
  intro h
  have e1 : l.set i x = l.take i ++ x :: l.drop (i + 1) := List.set_eq_take_append_cons_drop.trans (if_pos hi)
  have e2 : l = l.take i ++ l.getD i 0 :: l.drop (i + 1) := by
    rw [List.getD_eq_getElem?_getD, List.getElem?_eq_getElem hi]
    simp
  rw [e1] at h
  conv at h => rhs; rw [e2]
  unfold sumB at h
  rw [List.foldl_append, List.foldl_append, List.foldl_cons, List.foldl_cons] at h
  have h32 : (l.take i).foldl sumS 2166136261 < 4294967296 := sumB_lt (l.take i)
  exact hx (sumS_byte h32 (fold_inj _ _ _ (sumS_lt _ _) (sumS_lt _ _) h))
theorem numB_4 {a b c d : UInt8} : numB [a, b, c, d] = ((a.toNat * 256 + b.toNat) * 256 + c.toNat) * 256 + d.toNat := by
  have := u8_lt a; have := u8_lt b; have := u8_lt c; have := u8_lt d
  unfold numB
  simp only [List.foldl_cons, List.foldl_nil]
  unfold numS
  omega
theorem numB_set4 {a b c d x : UInt8} {i : Nat} (hi : i < 4) (hx : x ≠ [a, b, c, d].getD i 0) : numB ([a, b, c, d].set i x) ≠ numB [a, b, c, d] := by
  have h1 := u8_lt a; have h2 := u8_lt b; have h3 := u8_lt c; have h4 := u8_lt d; have h5 := u8_lt x
  have ne : ∀ y : UInt8, x ≠ y → x.toNat ≠ y.toNat := fun y h e => h (UInt8.toNat_inj.1 e)
  match i, hi with
  | 0, _ => have := ne _ hx; simp only [List.getD_cons_zero] at this; show numB [x, b, c, d] ≠ _; rw [numB_4, numB_4]; omega
  | 1, _ => have := ne _ hx; simp only [List.getD_cons_succ, List.getD_cons_zero] at this; show numB [a, x, c, d] ≠ _; rw [numB_4, numB_4]; omega
  | 2, _ => have := ne _ hx; simp only [List.getD_cons_succ, List.getD_cons_zero] at this; show numB [a, b, x, d] ≠ _; rw [numB_4, numB_4]; omega
  | 3, _ => have := ne _ hx; simp only [List.getD_cons_succ, List.getD_cons_zero] at this; show numB [a, b, c, x] ≠ _; rw [numB_4, numB_4]; omega

theorem one_bit {v : Vl} {i : Nat} {x : UInt8} (hi : i < 13) (hx : x ≠ (recM v).getD i 0) : oneM ((recM v).set i x) = (⟨0, 0⟩, 11) := by
  have h1 : (recM v).take 9 = ownM v := rfl
  have h2 : (recM v).drop 9 = big4 (sumB (ownM v)) := rfl
  have key : numB (((recM v).set i x).drop 9) ≠ sumB (((recM v).set i x).take 9) := by
    rcases Nat.lt_or_ge i 9 with h | h
    · have e1 : ((recM v).set i x).drop 9 = big4 (sumB (ownM v)) := by rw [List.drop_set, if_pos h, h2]
      have e2 : ((recM v).set i x).take 9 = (ownM v).set i x := by rw [List.take_set, h1]
      rw [e1, e2, numB_big4 (sumB_lt _)]
      refine (sumB_set (by simpa using h) ?_).symm
      have : (ownM v).getD i 0 = (recM v).getD i 0 := by
        rw [← h1, List.getD_eq_getElem?_getD, List.getElem?_take, if_pos h, List.getD_eq_getElem?_getD]
      rw [this]
      exact hx
    · have e1 : ((recM v).set i x).drop 9 = (big4 (sumB (ownM v))).set (i - 9) x := by rw [List.drop_set, if_neg (by omega), h2]
      have e2 : ((recM v).set i x).take 9 = ownM v := by rw [List.take_set, h1, List.set_eq_of_length_le (by simpa using h)]
      rw [e1, e2, ← numB_big4 (sumB_lt (ownM v))]
      have e3 : (big4 (sumB (ownM v))).getD (i - 9) 0 = (recM v).getD i 0 := by
        rw [← h2, List.getD_eq_getElem?_getD, List.getElem?_drop, List.getD_eq_getElem?_getD, show 9 + (i - 9) = i from by omega]
      rw [numB_big4 (sumB_lt (ownM v))]
      have := numB_set4 (a := UInt8.ofNat (sumB (ownM v) / 256 / 256 / 256)) (b := UInt8.ofNat (sumB (ownM v) / 256 / 256)) (c := UInt8.ofNat (sumB (ownM v) / 256)) (d := UInt8.ofNat (sumB (ownM v))) (x := x) (i := i - 9) (by omega) (by show x ≠ (big4 (sumB (ownM v))).getD (i - 9) 0; rw [e3]; exact hx)
      have h4 : numB (big4 (sumB (ownM v))) = sumB (ownM v) := numB_big4 (sumB_lt _)
      intro h
      apply this
      show numB ((big4 (sumB (ownM v))).set (i - 9) x) = numB (big4 (sumB (ownM v)))
      rw [h, h4]
  unfold oneM
  rw [if_pos key]

theorem set_cut {b : List UInt8} {n k : Nat} {x : UInt8} (h : n < 13 * k ∨ 13 * k + 13 ≤ n) : ((b.set n x).take (13 * k + 13)).drop (13 * k) = (b.take (13 * k + 13)).drop (13 * k) := by
  apply List.ext_getElem?
  intro j
  rw [List.getElem?_drop, List.getElem?_drop, List.getElem?_take, List.getElem?_take]
  split
  · rw [List.getElem?_set_ne (by omega)]
  · rfl
theorem set_cut' {b : List UInt8} {n k : Nat} {x : UInt8} (h : 13 * k ≤ n) : ((b.set n x).take (13 * k + 13)).drop (13 * k) = ((b.take (13 * k + 13)).drop (13 * k)).set (n - 13 * k) x := by
  rw [List.take_set, List.drop_set, if_neg (by omega)]
theorem bit_law {l : List Vl} (hl : Good l) {n : Nat} (hn : n < (recs l).length) {x : UInt8} (hx : x ≠ (recs l).getD n 0) : readQ ((recs l).set n x) = ([], 11) := by
  have hlen := recs_length l
  have hb : (recs l).take (13 * l.length) = recs l := List.take_of_length_le (by rw [recs_length]; omega)
  have hr : n / 13 < l.length := by omega
  have e1 : recAt ((recs l).set n x) (n / 13) = (⟨0, 0⟩, 11) := by
    have h1 : (((recs l).take (13 * (n / 13) + 13)).drop (13 * (n / 13))) = recM (l.getD (n / 13) .z) := by
      rw [show 13 * (n / 13) + 13 = 13 * (n / 13 + 1) from by omega, ← recs_take, recs_take_succ hr, List.drop_left' (by rw [recs_length, List.length_take, Nat.min_eq_left (by omega)]; omega)]
    unfold recAt
    rw [set_cut' (by omega), h1]
    refine one_bit (by omega) ?_
    have : (recM (l.getD (n / 13) .z)).getD (n - 13 * (n / 13)) 0 = (recs l).getD n 0 := by
      rw [← h1, List.getD_eq_getElem?_getD, List.getElem?_drop, List.getElem?_take, if_pos (by omega), List.getD_eq_getElem?_getD, show 13 * (n / 13) + (n - 13 * (n / 13)) = n from by omega]
    rw [this]
    exact hx
  have := readQ_some (b := (recs l).set n x) (k := n / 13) (by rw [List.length_set]; omega) (fun j hj => ?_) (by rw [e1]; decide)
  · rw [this, e1]
  · have : recAt ((recs l).set n x) j = recAt (recs l) j := by unfold recAt; rw [set_cut (.inr (by omega))]
    rw [this, recAt_of hb (by omega), one_rec (hl.get (by omega)).1 (hl.get (by omega)).2]
end Go.Proofs.Ytnpfkhaaogjhlaa
