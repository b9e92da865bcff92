/-
  Conditions: what is written is read; in brackets it is read as alone.
-/
import Derived.Test.YtjojjcdminbnlaaDoorLw
namespace Go.Proofs.YtjojjcdminbnlaaDoor

/-! In brackets -/
theorem trim_app (s z : List UInt8) : trimM (s ++ 41 :: z) = if trimM s = [] then 41 :: z else trimM s ++ 41 :: z := by
  induction s with
  | nil => rfl
  | cons c s ih =>
    unfold trimM at ih ⊢
    rw [List.cons_append, List.dropWhile_cons, List.dropWhile_cons]
    cases hc : (c == 32) with
    | true => simpa using ih
    | false => simp
theorem sign_app {set s t : List UInt8} {c : UInt8} (z : List UInt8) (h41 : (41 : UInt8) ∉ set) (h : signM set s false = (c, t)) : signM set (s ++ 41 :: z) false = (c, t ++ 41 :: z) := by
  unfold signM at h ⊢
  rw [trim_app]
  split at h
  · next e =>
    cases h
    rw [e, if_pos rfl]
    simp [h41]
  · next d u e =>
    rw [e, if_neg (by simp)]
    rw [List.cons_append]
    dsimp only
    split at h
    · next hh => cases h; rw [if_pos hh]; rfl
    · next hh => cases h; rw [if_neg hh]
theorem sign_close {s t : List UInt8} {c : UInt8} (z : List UInt8) (h : signM [41] s false = (c, t)) (hc : c ≠ 0) : signM [41] (s ++ 41 :: z) false = (c, t ++ 41 :: z) := by
  obtain ⟨-, e⟩ := sign_mem h hc
  unfold signM at h ⊢
  rw [trim_app, e, if_neg (by simp)]
  rw [e] at h
  rw [List.cons_append]
  dsimp only at h ⊢
  split at h
  · next hh => exact absurd (congrArg Prod.fst h).symm hc
  · next hh => cases h; rw [if_neg hh]
theorem tw_app (s z : List UInt8) : (s ++ 41 :: z).takeWhile alB = s.takeWhile alB := by
  induction s with
  | nil => simp [alB, digB, letB]
  | cons c s ih => rw [List.cons_append, List.takeWhile_cons, List.takeWhile_cons, ih]
theorem leaf_app {s t : List UInt8} {x : Ex} (z : List UInt8) (h : leafM s false = (x, t, false)) : leafM (s ++ 41 :: z) false = (x, t ++ 41 :: z, false) := by
  have hl : (s.takeWhile alB).length ≤ s.length := (List.takeWhile_sublist _).length_le
  unfold leafM at h ⊢
  rw [tw_app]
  split at h
  · cases h
  · next c w e =>
    rw [if_neg (by decide)] at h ⊢
    rw [e] at hl
    rw [List.drop_append_of_le_length (by simpa using hl)]
    dsimp only at h ⊢
    split at h
    · next hh =>
      rw [if_pos hh]
      simp only [Prod.mk.injEq] at h ⊢
      exact ⟨h.1, by rw [h.2.1], h.2.2⟩
    · next hh =>
      rw [if_neg hh]
      simp only [Prod.mk.injEq] at h ⊢
      exact ⟨h.1, by rw [h.2.1], h.2.2⟩
theorem ranks_41 (k : Nat) : (41 : UInt8) ∉ ranksM k := by
  match k with
  | 0 => decide
  | 1 => decide
  | 2 => decide
  | 3 => decide
  | k + 4 => simp [ranksM]
theorem Rd.app {m : Md} {s t : List UInt8} {x : Ex} (h : Rd m s x t) (z : List UInt8) : Rd m (s ++ 41 :: z) x (t ++ 41 :: z) := by
  induction h with
  | five _ ih => exact .five ih
  | bin hk _ _ ih ih' => exact .bin hk ih ih'
  | stop h => exact .stop (sign_app z (ranks_41 _) h)
  | two h hc _ ih => exact .two (sign_app z (ranks_41 _) h) hc ih
  | more hk h hc _ _ ih ih2 => exact .more hk (sign_app z (ranks_41 _) h) hc ih ih2
  | not h _ ih => exact .not (sign_app z (by decide) h) ih
  | neg h _ ih => exact .neg (sign_app z (by decide) h) ih
  | par h h2 hc2 _ h4 hc3 ih => exact .par (sign_app z (by decide) h) (sign_app z (by decide) h2) hc2 ih (sign_close z h4 hc3) hc3
  | leaf h h2 h3 => exact .leaf (sign_app z (by decide) h) (sign_app z (by decide) h2) (leaf_app z h3)
theorem sign_one (set : List UInt8) (c : UInt8) (t : List UInt8) (hc : c ≠ 32) (hm : c ∈ set) : signM set (c :: t) false = (c, t) := by
  unfold signM trimM
  rw [List.dropWhile_cons, if_neg (by simpa using hc)]
  simp [hm]
theorem sign_no (set : List UInt8) (c : UInt8) (t : List UInt8) (hc : c ≠ 32) (hm : c ∉ set) : signM set (c :: t) false = (0, c :: t) := by
  unfold signM trimM
  rw [List.dropWhile_cons, if_neg (by simpa using hc)]
  simp [hm]
theorem sign_nil (set : List UInt8) : signM set [] false = (0, []) := rfl
/-- One between brackets. -/
theorem Rd.between {a t : List UInt8} {x : Ex} (h : Rd (.bin 0) a x t) (ht : trimM t = []) (z : List UInt8) : Rd .un (40 :: (a ++ 41 :: z)) x z := by
  refine .par (sign_no _ _ _ (by decide) (by decide)) (sign_one _ _ _ (by decide) (by decide)) (by decide) (h.app z) (c3 := 41) ?_ (by decide)
  unfold signM
  rw [trim_app, if_pos ht]
  rfl
/-! What is written is read -/
/-- Whether reading of a side of rank k ends ahead of it. -/
def Stops (k : Nat) (t : List UInt8) : Prop := match t with
  | [] => True
  | c :: _ => c ≠ 32 ∧ alB c = false ∧ ∀ j, k ≤ j → j ≤ 4 → c ∉ ranksM j
theorem Stops.up {k j : Nat} {t : List UInt8} (h : Stops k t) (hj : k ≤ j) : Stops j t := by
  unfold Stops at h ⊢
  split
  · trivial
  · exact ⟨h.1, h.2.1, fun i hi => h.2.2 i (by omega)⟩
theorem Stops.sign {k j : Nat} {t : List UInt8} (h : Stops k t) (hj : k ≤ j) (h4 : j ≤ 4) : signM (ranksM j) t false = (0, t) := by
  unfold Stops at h
  split at h
  · rfl
  · next c u => exact sign_no _ _ _ h.1 (h.2.2 j hj h4)
/-- Down to the unary ones. -/
theorem Rd.down {s t : List UInt8} {x : Ex} (h : Rd .un s x t) : ∀ (n k : Nat), k + n = 5 → Stops k t → Rd (.bin k) s x t
  | 0, k, hk, _ => by
    obtain rfl : k = 5 := by omega
    exact .five h
  | n + 1, k, hk, hs => .bin (by omega) (Rd.down h n (k + 1) (by omega) (hs.up (by omega))) (.stop (hs.sign (Nat.le_refl _) (by omega)))
theorem Rd.lower {s t : List UInt8} {x : Ex} {j : Nat} (h : Rd (.bin j) s x t) (hj : j ≤ 5) : ∀ (n k : Nat), k + n = j → Stops k t → Rd (.bin k) s x t
  | 0, k, hk, _ => by
    obtain rfl : k = j := by omega
    exact h
  | n + 1, k, hk, hs => .bin (by omega) (Rd.lower h hj n (k + 1) (by omega) (hs.up (by omega))) (.stop (hs.sign (Nat.le_refl _) (by omega)))
theorem stops_close (k : Nat) (t : List UInt8) : Stops k (41 :: t) := ⟨by decide, by decide, fun j _ _ => ranks_41 j⟩
theorem stops_op {c : UInt8} {k : Nat} (h : c ∈ ranksM k) (hk : k ≤ 4) (t : List UInt8) : Stops (k + 1) (c :: t) := by
  have h1 := (ranks_mem h).2 hk
  obtain ⟨h0, -⟩ := ranks_mem h
  refine ⟨by rintro rfl; simp at h0, by rcases h0 with rfl | rfl | rfl | rfl | rfl | rfl | rfl <;> decide, fun j hj hj4 hm => ?_⟩
  have := (ranks_mem hm).2 hj4
  omega
def wrB (x : Ex) : List UInt8 := x.wr 0
theorem wr_high (x : Ex) {r k : Nat} (l : List UInt8) (h : ∀ j, x.wr j = brM r j l) (hk : r < k) : x.wr k = 40 :: (x.wr 0 ++ [41]) := by
  rw [h, h]; simp [brM, hk]
theorem tw_left {w t : List UInt8} (ha : ∀ b ∈ w, alB b = true) (ht : Stops 5 t) : (w ++ t).takeWhile alB = w := by
  induction w with
  | nil =>
    unfold Stops at ht
    split at ht
    · rfl
    · rw [List.nil_append, List.takeWhile_cons, ht.2.1]; rfl
  | cons c w ih =>
    rw [List.cons_append, List.takeWhile_cons, ha c (by simp)]
    exact congrArg (c :: ·) (ih fun b hb => ha b (by simp [hb]))
theorem leaf_var {w t : List UInt8} (hw : w ≠ []) (hl : w.length ≤ 19) (ha : ∀ b ∈ w, alB b = true) (hh : letB (w.headD 0) = true) (ht : Stops 5 t) : leafM (w ++ t) false = (.var w, t, false) := by
  have h1 : (w ++ t).takeWhile alB = w := tw_left ha ht
  unfold leafM
  rw [h1]
  match w, hw, hh, hl with
  | c :: u, _, hh, hl =>
    dsimp only
    rw [if_neg (by decide), if_pos (by simpa using hh)]
    rw [show (c :: u ++ t).drop (u.length + 1) = t from by simp]
    simp only [Prod.mk.injEq, decide_eq_false_iff_not, true_and]
    simp at hl; omega
theorem dec_dig : ∀ (m n : Nat), n ≤ m → (∀ b ∈ Lib.decDigits n, digB b = true) ∧ Lib.decDigits n ≠ [] := by
  intro m
  induction m with
  | zero =>
    intro n hn
    obtain rfl : n = 0 := by omega
    rw [Lib.decDigits, dif_pos (by decide)]
    exact ⟨by simp; decide, by simp⟩
  | succ m ih =>
    intro n hn
    have key : ∀ d, d < 10 → digB (UInt8.ofNat (48 + d)) = true := fun d hd => by
      have : ∀ d : Fin 10, digB (UInt8.ofNat (48 + d.val)) = true := by decide
      exact this ⟨d, hd⟩
    rw [Lib.decDigits]
    split
    · next h => exact ⟨by simpa using key n h, by simp⟩
    · next h =>
      have := ih (n / 10) (by omega)
      refine ⟨fun b hb => ?_, by simp⟩
      rcases List.mem_append.1 hb with hb | hb
      · exact this.1 b hb
      · obtain rfl := List.mem_singleton.1 hb
        exact key _ (by omega)
theorem dec_num : ∀ (m n : Nat), n ≤ m → n ≤ 999999999 → numM (Lib.decDigits n) = n := by
  intro m
  have hw : ∀ a : Int, -1000000000000 ≤ a → a ≤ 1000000000000 → IntKind.i64.wrap a = a := fun a h2 h3 => IntWalk.i64_in _ ⟨by omega, by omega⟩
  have key : ∀ (a : Int) (d : Nat), d < 10 → 0 ≤ a → a ≤ 99999999 → IntKind.i64.wrap (IntKind.i64.wrap (10 * a) + IntKind.i64.wrap (IntKind.u8.wrap (((UInt8.ofNat (48 + d)).toNat : Int) - 48))) = 10 * a + d := fun a d hd h0 h1 => by
    have e : (UInt8.ofNat (48 + d)).toNat = 48 + d := by simp; omega
    rw [e, show IntKind.u8.wrap (((48 + d : Nat) : Int) - 48) = d from by rw [IntKind.wrap_u8]; omega, hw (10 * a) (by omega) (by omega), hw (d : Int) (by omega) (by omega), hw _ (by omega) (by omega)]
  induction m with
  | zero =>
    intro n hn _
    obtain rfl : n = 0 := by omega
    rw [Lib.decDigits, dif_pos (by decide)]
    exact key 0 0 (by decide) (by decide) (by decide)
  | succ m ih =>
    intro n hn h9
    rw [Lib.decDigits]
    split
    · next h =>
      have := key 0 n h (by decide) (by decide)
      simpa [numM] using this
    · next h =>
      have h1 := ih (n / 10) (by omega) (by omega)
      unfold numM at h1 ⊢
      rw [List.foldl_append, h1]
      have := key (n / 10 : Nat) (n % 10) (by omega) (by omega) (by omega)
      rw [List.foldl_cons, List.foldl_nil, this]
      omega
theorem leaf_num {n : Int} {t : List UInt8} (h0 : 0 ≤ n) (h9 : n ≤ 999999999) (ht : Stops 5 t) : leafM (Lib.itoa n ++ t) false = (.num n, t, false) := by
  have hi : Lib.itoa n = Lib.decDigits n.toNat := by unfold Lib.itoa; rw [if_neg (by omega)]
  obtain ⟨hd, hne⟩ := dec_dig n.toNat n.toNat (Nat.le_refl _)
  have hn := dec_num n.toNat n.toNat (Nat.le_refl _) (by omega)
  have hl := dec_len 9 n.toNat (by decide) (by omega)
  rw [hi]
  generalize Lib.decDigits n.toNat = w at hd hne hn hl
  have h1 : (w ++ t).takeWhile alB = w := tw_left (fun b hb => by unfold alB; rw [hd b hb]; rfl) ht
  unfold leafM
  rw [h1]
  match w, hne with
  | c :: u, _ =>
    have hc := hd c (by simp)
    have hlc : ¬ letB c = true := by
      unfold digB at hc
      unfold letB
      simp only [Bool.and_eq_true, decide_eq_true_eq] at hc ⊢
      omega
    dsimp only
    rw [if_neg (by decide), if_neg hlc, hn, Int.toNat_of_nonneg h0]
    rw [show (c :: u ++ t).drop (u.length + 1) = t from by simp]
    simp only [Prod.mk.injEq, true_and, Bool.or_eq_false_iff, decide_eq_false_iff_not, List.any_eq_false, Bool.not_eq_true', Bool.not_eq_false]
    exact ⟨hd, by simp at hl; omega⟩
theorem al_no {w t : List UInt8} (hw : w ≠ []) (ha : ∀ b ∈ w, alB b = true) (set : List UInt8) (hs : ∀ c ∈ set, alB c = false) : signM set (w ++ t) false = (0, w ++ t) := by
  match w, hw with
  | c :: u, _ =>
    have hc := ha c (by simp)
    refine sign_no _ _ _ (by rintro rfl; exact absurd hc (by decide)) fun hm => ?_
    rw [hs c hm] at hc; cases hc
theorem wr_same (x : Ex) (hok : x.ok) (k : Nat) (h : rankM x.op ≠ k) : x.wr k = x.wr (k + 1) := by
  have key : ∀ (r : Nat) (l : List UInt8), r ≠ k → brM r k l = brM r (k + 1) l := fun r l h => by
    unfold brM
    by_cases h1 : r < k
    · rw [if_pos h1, if_pos (by omega)]
    · rw [if_neg h1, if_neg (by omega)]
  cases x with
  | bad => rfl
  | num n => exact key 6 _ (by simpa [Ex.op, rankM] using h)
  | var w => exact key 6 _ (by simpa [Ex.op, rankM] using h)
  | un op x =>
    rw [Ex.wr, Ex.wr]
    have h5 : rankM op = 5 := by rcases hok.1 with rfl | rfl <;> rfl
    have h' : rankM op ≠ k := h
    exact key 5 _ (by omega)
  | bin op x y =>
    have h' : rankM op ≠ k := h
    rw [Ex.wr, Ex.wr]
    split
    · next e => exact key 2 _ (by omega)
    · exact key _ _ h'
/-- A side of a rank, read. -/
def RdR (x : Ex) : Prop := ∀ k t, k ≤ 5 → Stops k t → Rd (.bin k) (x.wr k ++ t) x t
/-- A side, read as the first one of more. -/
def RdL (x : Ex) : Prop := ∀ k t y u, k ≤ 4 → k ≠ 2 → Stops (k + 1) t → Rd (.loop k x) t y u → Rd (.bin k) (x.wr k ++ t) y u
theorem rdl_of {x : Ex} (hok : x.ok) (hR : RdR x) {k : Nat} (hr : rankM x.op ≠ k) {t u : List UInt8} {y : Ex} (hk : k ≤ 4) (hs : Stops (k + 1) t) (hl : Rd (.loop k x) t y u) : Rd (.bin k) (x.wr k ++ t) y u := by
  rw [wr_same x hok k hr]
  exact .bin (by omega) (hR (k + 1) t (by omega) hs) hl
theorem rdr_of {x : Ex} (h : ∀ t, Stops 5 t → Rd .un (x.wr 5 ++ t) x t) (hw : ∀ k, k ≤ 5 → x.wr k = x.wr 5) : RdR x := fun k t hk hs => by
  rw [hw k hk]
  exact Rd.down (h t (hs.up hk)) (5 - k) k (by omega) hs
theorem rd_wr : ∀ x : Ex, x.ok → RdR x ∧ RdL x
  | .bad, h => h.elim
  | .num n, h => by
    have hR : RdR (.num n) := rdr_of (fun t ht => by
      have hd := (dec_dig n.toNat n.toNat (Nat.le_refl _))
      have hi : Lib.itoa n = Lib.decDigits n.toNat := by unfold Lib.itoa; rw [if_neg (by have := h.1; omega)]
      have ha : ∀ b ∈ Lib.itoa n, alB b = true := fun b hb => by rw [hi] at hb; unfold alB; rw [hd.1 b hb]; rfl
      have hne : Lib.itoa n ≠ [] := by rw [hi]; exact hd.2
      have hw : (Ex.num n).wr 5 = Lib.itoa n := rfl
      rw [hw]
      exact .leaf (al_no hne ha _ (by decide)) (al_no hne ha _ (by decide)) (leaf_num h.1 h.2 ht)) fun k hk => by
        show brM 6 k _ = brM 6 5 _
        unfold brM; rw [if_neg (by omega), if_neg (by omega)]
    exact ⟨hR, fun k t y u hk _ hs hl => rdl_of h hR (show (6 : Nat) ≠ k by omega) hk hs hl⟩
  | .var w, h => by
    obtain ⟨hne, hl, ha, hh⟩ := h
    have hR : RdR (.var w) := rdr_of (fun t ht => by
      have hw : (Ex.var w).wr 5 = w := rfl
      rw [hw]
      exact .leaf (al_no hne ha _ (by decide)) (al_no hne ha _ (by decide)) (leaf_var hne hl ha hh ht)) fun k hk => by
        show brM 6 k _ = brM 6 5 _
        unfold brM; rw [if_neg (by omega), if_neg (by omega)]
    have hok : (Ex.var w).ok := ⟨hne, hl, ha, hh⟩
    exact ⟨hR, fun k t y u hk _ hs hl => rdl_of hok hR (show (6 : Nat) ≠ k by omega) hk hs hl⟩
  | .un op x, h => by
    have hok := h
    obtain ⟨ho, hx⟩ := h
    obtain ⟨ih, -⟩ := rd_wr x hx
    have hR : RdR (.un op x) := rdr_of (fun t ht => by
      have h5 := ih 5 t (Nat.le_refl _) ht
      have hu : Rd .un (x.wr 5 ++ t) x t := by
        cases h5 with
        | five h => exact h
        | bin hk _ _ => exact absurd rfl hk
      rcases ho with rfl | rfl
      · exact .not (sign_one _ 33 _ (by decide) (by decide)) hu
      · exact .neg (sign_one _ 45 _ (by decide) (by decide)) hu) fun k hk => by
        rw [Ex.wr, Ex.wr]
        simp [brM, show ¬ 5 < k by omega]
    exact ⟨hR, fun k t y u hk _ hs hl => rdl_of hok hR (show rankM op ≠ k by rcases ho with rfl | rfl <;> (rw [show rankM _ = 5 from rfl]; omega)) hk hs hl⟩
  | .bin op a b, h => by
    have hok := h
    obtain ⟨ho, ha, hb⟩ := h
    obtain ⟨aR, aL⟩ := rd_wr a ha
    obtain ⟨bR, -⟩ := rd_wr b hb
    have hr4 : rankM op ≤ 4 := by rcases ho with rfl | rfl | rfl | rfl | rfl | rfl | rfl <;> decide
    have hmem : op ∈ ranksM (rankM op) := by rcases ho with rfl | rfl | rfl | rfl | rfl | rfl | rfl <;> decide
    have h32 : op ≠ 32 := by rcases ho with rfl | rfl | rfl | rfl | rfl | rfl | rfl <;> decide
    have h0 : op ≠ 0 := by rcases ho with rfl | rfl | rfl | rfl | rfl | rfl | rfl <;> decide
    have hwr : ∀ k, (Ex.bin op a b).wr k = brM (rankM op) k ((Ex.bin op a b).wr (rankM op)) := fun k => by
      rw [bin_wr op a b rfl, Ex.wr]
      split
      · next e => rw [e]
      · next e => rfl
    -- of its own rank
    have hL : ∀ t y u, rankM op ≠ 2 → Stops (rankM op + 1) t → Rd (.loop (rankM op) (.bin op a b)) t y u → Rd (.bin (rankM op)) ((Ex.bin op a b).wr (rankM op) ++ t) y u := fun t y u h2 hs hl => by
      rw [bin_wr op a b rfl, if_neg h2, List.append_assoc, List.cons_append]
      exact aL (rankM op) _ y u hr4 h2 (stops_op hmem hr4 _) (.more h2 (sign_one _ op _ h32 hmem) h0 (bR (rankM op + 1) t (by omega) hs) hl)
    have hO : ∀ t, Stops (rankM op) t → Rd (.bin (rankM op)) ((Ex.bin op a b).wr (rankM op) ++ t) (.bin op a b) t := fun t hs => by
      by_cases h2 : rankM op = 2
      · rw [bin_wr op a b rfl, if_pos h2, List.append_assoc, List.cons_append]
        have hso := stops_op hmem hr4 (b.wr (rankM op + 1) ++ t)
        rw [h2] at hso hs hmem ⊢
        exact .bin (by decide) (aR 3 _ (by decide) hso) (.two (sign_one _ op _ h32 hmem) h0 (bR 3 t (by decide) (hs.up (by decide))))
      · exact hL t _ _ h2 (hs.up (by omega)) (.stop (hs.sign (Nat.le_refl _) hr4))
    have hU : ∀ t, Rd .un (40 :: ((Ex.bin op a b).wr (rankM op) ++ 41 :: t)) (.bin op a b) t := fun t =>
      .par (sign_no _ _ _ (by decide) (by decide)) (sign_one _ _ _ (by decide) (by decide)) (by decide) (Rd.lower (hO (41 :: t) (stops_close _ _)) (by omega) (rankM op) 0 (by omega) (stops_close _ _)) (sign_one _ 41 _ (by decide) (by decide)) (by decide)
    have hR : RdR (.bin op a b) := fun k t hk hs => by
      rw [hwr k]
      unfold brM
      by_cases hrk : rankM op < k
      · rw [if_pos hrk, List.cons_append, List.append_assoc]
        exact Rd.down (hU t) (5 - k) k (by omega) hs
      · rw [if_neg hrk]
        exact Rd.lower (hO t (hs.up (by omega))) (by omega) (rankM op - k) k (by omega) hs
    refine ⟨hR, fun k t y u hk hk2 hs hl => ?_⟩
    by_cases hrk : rankM op = k
    · subst hrk; exact hL t y u hk2 hs hl
    · exact rdl_of hok hR hrk hk hs hl
end Go.Proofs.YtjojjcdminbnlaaDoor
