/-
  Conditions: laws of what is read without fault.
-/
import Derived.Test.YtjojjcdminbnlaaDoorPl
namespace Go.Proofs.YtjojjcdminbnlaaDoor

/-- What is read without fault. -/
inductive Rd : Md → List UInt8 → Ex → List UInt8 → Prop
  | five {s t : List UInt8} {x : Ex} (h : Rd .un s x t) : Rd (.bin 5) s x t
  | bin {k : Nat} {s t u : List UInt8} {x y : Ex} (hk : k ≠ 5) (h : Rd (.bin (k + 1)) s x t) (h' : Rd (.loop k x) t y u) : Rd (.bin k) s y u
  | stop {k : Nat} {s t : List UInt8} {x : Ex} (h : signM (ranksM k) s false = (0, t)) : Rd (.loop k x) s x t
  | two {s t u : List UInt8} {x y : Ex} {c : UInt8} (h : signM (ranksM 2) s false = (c, t)) (hc : c ≠ 0) (h' : Rd (.bin 3) t y u) : Rd (.loop 2 x) s (.bin c x y) u
  | more {k : Nat} {s t u v : List UInt8} {x y z : Ex} {c : UInt8} (hk : k ≠ 2) (h : signM (ranksM k) s false = (c, t)) (hc : c ≠ 0) (h' : Rd (.bin (k + 1)) t y u) (h2 : Rd (.loop k (.bin c x y)) u z v) : Rd (.loop k x) s z v
  | not {s t u : List UInt8} {x : Ex} (h : signM [33, 45] s false = (33, t)) (h' : Rd .un t x u) : Rd .un s (.un 33 x) u
  | neg {s t u : List UInt8} {x : Ex} (h : signM [33, 45] s false = (45, t)) (h' : Rd .un t x u) : Rd .un s (.un 126 x) u
  | par {s t u v w : List UInt8} {x : Ex} {c2 c3 : UInt8} (h : signM [33, 45] s false = (0, t)) (h2 : signM [40] t false = (c2, u)) (hc2 : c2 ≠ 0) (h3 : Rd (.bin 0) u x v) (h4 : signM [41] v false = (c3, w)) (hc3 : c3 ≠ 0) : Rd .un s x w
  | leaf {s t u v : List UInt8} {x : Ex} (h : signM [33, 45] s false = (0, t)) (h2 : signM [40] t false = (0, u)) (h3 : leafM u false = (x, v, false)) : Rd .un s x v
theorem sign_bad (set s : List UInt8) : (signM set s true).1 = 0 := by
  unfold signM; split <;> simp
theorem leaf_bad (s : List UInt8) : (leafM s true).2.2 = true := by
  unfold leafM; split <;> rfl
theorem bad_stays : ∀ (f : Nat) (m : Md) (s : List UInt8) (r : Ex × List UInt8 × Bool), rd f m s true = some r → r.2.2 = true := by
  intro f
  induction f with
  | zero => intro m s r h; cases h
  | succ f ih =>
    intro m s r h
    cases m with
    | bin k =>
      rw [rd] at h
      split at h
      · exact ih _ _ _ h
      · obtain ⟨r1, h1, h2⟩ := Option.bind_eq_some_iff.1 h
        have := ih _ _ _ h1
        rw [this] at h2
        exact ih _ _ _ h2
    | loop k x =>
      rw [rd, if_pos (sign_bad _ _)] at h
      cases h; rfl
    | un =>
      rw [rd, if_neg (by rw [sign_bad]; decide), if_neg (by rw [sign_bad]; decide), if_pos (sign_bad _ _)] at h
      cases h; exact leaf_bad _
theorem sign_mem {set s t : List UInt8} {b : Bool} {c : UInt8} (h : signM set s b = (c, t)) (hc : c ≠ 0) : c ∈ set ∧ trimM s = c :: t := by
  unfold signM at h
  split at h
  · cases h; exact absurd rfl hc
  · next d u e =>
    split at h
    · cases h; exact absurd rfl hc
    · next hh =>
      cases h
      simp only [Bool.or_eq_true, Bool.not_eq_true', not_or, Bool.not_eq_true, Bool.not_eq_false] at hh
      exact ⟨by simpa using hh.2, e⟩
theorem rd_of : ∀ (f : Nat) (m : Md) (s : List UInt8) (x : Ex) (t : List UInt8), rd f m s false = some (x, t, false) → Rd m s x t := by
  intro f
  induction f with
  | zero => intro m s x t h; cases h
  | succ f ih =>
    intro m s x t h
    cases m with
    | bin k =>
      rw [rd] at h
      split at h
      · next hk => subst hk; exact .five (ih _ _ _ _ h)
      · next hk =>
        obtain ⟨⟨y, u, b⟩, h1, h2⟩ := Option.bind_eq_some_iff.1 h
        cases b with
        | true => exact absurd (bad_stays _ _ _ _ h2) (by simp)
        | false => exact .bin hk (ih _ _ _ _ h1) (ih _ _ _ _ h2)
    | loop k y =>
      rw [rd] at h
      generalize hg : signM (ranksM k) s false = g at h
      obtain ⟨c, u⟩ := g
      dsimp only at h
      split at h
      · next h0 => subst h0; cases h; exact .stop hg
      · next h0 =>
        obtain ⟨⟨z, v, b⟩, h1, h2⟩ := Option.bind_eq_some_iff.1 h
        dsimp only at h2
        split at h2
        · next hk => subst hk; cases h2; exact .two hg h0 (ih _ _ _ _ h1)
        · next hk =>
          cases b with
          | true => exact absurd (bad_stays _ _ _ _ h2) (by simp)
          | false => exact .more hk hg h0 (ih _ _ _ _ h1) (ih _ _ _ _ h2)
    | un =>
      rw [rd] at h
      generalize hg : signM [33, 45] s false = g at h
      obtain ⟨c, u⟩ := g
      dsimp only at h
      split at h
      · next h0 =>
        subst h0
        obtain ⟨⟨z, v, b⟩, h1, h2⟩ := Option.bind_eq_some_iff.1 h
        cases h2
        exact .not hg (ih _ _ _ _ h1)
      · next h0 =>
        split at h
        · next h1 =>
          subst h1
          obtain ⟨⟨z, v, b⟩, h1, h2⟩ := Option.bind_eq_some_iff.1 h
          cases h2
          exact .neg hg (ih _ _ _ _ h1)
        · next h1 =>
          have hc0 : c = 0 := by
            by_cases hc : c = 0
            · exact hc
            · have := (sign_mem hg hc).1
              simp only [List.mem_cons, List.not_mem_nil, or_false] at this
              rcases this with h2 | h2
              · exact absurd h2 h0
              · exact absurd h2 h1
          subst hc0
          generalize hg2 : signM [40] u false = g at h
          obtain ⟨c2, v⟩ := g
          dsimp only at h
          split at h
          · next h2 =>
            subst h2
            exact .leaf hg hg2 (Option.some.inj h)
          · next h2 =>
            obtain ⟨⟨z, v', b⟩, h3, h4⟩ := Option.bind_eq_some_iff.1 h
            dsimp only at h4
            cases b with
            | true => rw [if_pos rfl] at h4; cases h4
            | false =>
              rw [if_neg (by decide)] at h4
              generalize hg3 : signM [41] v' false = g at h4
              obtain ⟨c3, w⟩ := g
              dsimp only at h4
              simp only [Option.some.injEq, Prod.mk.injEq, decide_eq_false_iff_not] at h4
              obtain ⟨rfl, rfl, h5⟩ := h4
              exact .par hg hg2 h2 (ih _ _ _ _ h3) hg3 h5
theorem Rd.ev {m : Md} {s t : List UInt8} {x : Ex} (h : Rd m s x t) : Ev m s false (x, t, false) := by
  induction h with
  | five _ ih => exact ih.five
  | bin hk _ _ ih ih' => exact Ev.bin hk ih ih'
  | @stop k s t x h => have := Ev.stop (x := x) (show (signM (ranksM k) s false).1 = 0 by rw [h]); rwa [h] at this
  | @two s t u x y c h hc _ ih =>
    have := Ev.two (x := x) (r := (y, u, false)) (show (signM (ranksM 2) s false).1 ≠ 0 by rw [h]; exact hc) (by rw [h]; exact ih)
    rwa [h] at this
  | @more k s t u v x y z c hk h hc _ _ ih ih2 => exact Ev.more (x := x) (r := (y, u, false)) hk (by rw [h]; exact hc) (by rw [h]; exact ih) (by rw [h]; exact ih2)
  | @not s t u x h _ ih =>
    exact Ev.not (r := (x, u, false)) (by rw [h]) (by rw [h]; exact ih)
  | @neg s t u x h _ ih =>
    exact Ev.neg (r := (x, u, false)) (by rw [h]) (by rw [h]; exact ih)
  | @par s t u v w x c2 c3 h h2 hc2 _ h4 hc3 ih =>
    obtain ⟨f, hf⟩ := ih
    refine ⟨f + 1, ?_⟩
    rw [rd, h]
    dsimp only
    rw [if_neg (by decide), if_neg (by decide), h2]
    dsimp only
    rw [if_neg hc2, hf, Option.bind_some]
    dsimp only
    rw [if_neg (by decide), h4]
    simp [hc3]
  | @leaf s t u v x h h2 h3 =>
    refine ⟨1, ?_⟩
    rw [rd, h]
    dsimp only
    rw [if_neg (by decide), if_neg (by decide), h2]
    dsimp only
    rw [if_pos rfl, h3]
theorem Rd.det {m : Md} {s t t' : List UInt8} {x x' : Ex} (h : Rd m s x t) (h' : Rd m s x' t') : x = x' ∧ t = t' := by
  have := h.ev.det h'.ev
  simpa using this
/-! What is read is right. -/
theorem num_bound : ∀ (w : List UInt8) (n : Int) (k : Nat), (∀ b ∈ w, digB b = true) → 0 ≤ n → n < 10 ^ k → k + w.length ≤ 9 →
    0 ≤ w.foldl (fun n c => IntKind.i64.wrap (IntKind.i64.wrap (10 * n) + IntKind.i64.wrap (IntKind.u8.wrap ((c.toNat : Int) - 48)))) n ∧ w.foldl (fun n c => IntKind.i64.wrap (IntKind.i64.wrap (10 * n) + IntKind.i64.wrap (IntKind.u8.wrap ((c.toNat : Int) - 48)))) n < 10 ^ (k + w.length)
  | [], n, k, _, h0, h1, _ => ⟨h0, by simpa using h1⟩
  | c :: w, n, k, hd, h0, h1, hk => by
    have hc := hd c (by simp)
    unfold digB at hc
    simp only [Bool.and_eq_true, decide_eq_true_eq] at hc
    have hk2 : k + 1 ≤ 9 := by simp at hk; omega
    have hp : (10 : Int) ^ (k + 1) ≤ 10 ^ 9 := by
      have : (10 : Nat) ^ (k + 1) ≤ 10 ^ 9 := Nat.pow_le_pow_right (by decide) hk2
      exact_mod_cast this
    have hp2 : (10 : Int) ^ (k + 1) = 10 * 10 ^ k := by rw [Int.pow_succ]; omega
    have e1 : IntKind.u8.wrap ((c.toNat : Int) - 48) = (c.toNat : Int) - 48 := by rw [IntKind.wrap_u8]; omega
    have hw : ∀ a : Int, -1000000000000 ≤ a → a ≤ 1000000000000 → IntKind.i64.wrap a = a := fun a h2 h3 => IntWalk.i64_in _ ⟨by omega, by omega⟩
    have e2 : IntKind.i64.wrap (IntKind.i64.wrap (10 * n) + IntKind.i64.wrap (IntKind.u8.wrap ((c.toNat : Int) - 48))) = 10 * n + ((c.toNat : Int) - 48) := by
      rw [e1, hw (10 * n) (by omega) (by omega), hw ((c.toNat : Int) - 48) (by omega) (by omega), hw _ (by omega) (by omega)]
    rw [List.foldl_cons, e2]
    have := num_bound w (10 * n + ((c.toNat : Int) - 48)) (k + 1) (fun b hb => hd b (by simp [hb])) (by omega) (by omega) (by simp at hk; omega)
    rw [show k + 1 + w.length = k + (c :: w).length from by simp; omega] at this
    exact this
theorem leaf_ok {s t : List UInt8} {x : Ex} (h : leafM s false = (x, t, false)) : x.ok ∧ (∃ w, (x = .var w ∨ x = .num (numM w) ∧ (∀ b ∈ w, digB b = true) ∧ w.length ≤ 9 ∧ w ≠ []) ∧ s = w ++ t ∧ w = s.takeWhile alB) := by
  unfold leafM at h
  have hs := List.takeWhile_append_dropWhile (p := alB) (l := s)
  split at h
  · cases h
  · next c w e =>
    rw [if_neg (by decide)] at h
    have hdrop : s.drop (w.length + 1) = s.dropWhile alB := by
      have h1 : s.drop (s.takeWhile alB).length = s.dropWhile alB := by
        have := congrArg (List.drop (s.takeWhile alB).length) hs
        rw [List.drop_left] at this
        exact this.symm
      rw [e] at h1
      exact h1
    dsimp only at h
    rw [e] at hs
    split at h
    · next hl =>
      simp only [Prod.mk.injEq, decide_eq_false_iff_not] at h
      obtain ⟨rfl, rfl, h3⟩ := h
      refine ⟨⟨by simp, by simp; omega, fun b hb => ?_, by simpa using hl⟩, c :: w, .inl rfl, by rw [hdrop]; exact hs.symm, e.symm⟩
      have : b ∈ s.takeWhile alB := by rw [e]; exact hb
      exact mem_tw this
    · next hl =>
      simp only [Prod.mk.injEq, Bool.or_eq_false_iff, decide_eq_false_iff_not, List.any_eq_false, Bool.not_eq_true', Bool.not_eq_false] at h
      obtain ⟨rfl, rfl, h3, h4⟩ := h
      have hb := num_bound (c :: w) 0 0 h3 (by decide) (by decide) (by simp; omega)
      refine ⟨⟨hb.1, ?_⟩, c :: w, .inr ⟨rfl, h3, by simp; omega, by simp⟩, by rw [hdrop]; exact hs.symm, e.symm⟩
      have h5 : (10 : Int) ^ (0 + (c :: w).length) ≤ 10 ^ 9 := by
        have : (10 : Nat) ^ (0 + (c :: w).length) ≤ 10 ^ 9 := Nat.pow_le_pow_right (by decide) (by simp; omega)
        exact_mod_cast this
      have h6 : numM (c :: w) < 10 ^ (0 + (c :: w).length) := hb.2
      omega
def Md.okIn : Md → Prop
  | .loop _ x => x.ok
  | _ => True
theorem ranks_mem {k : Nat} {c : UInt8} (h : c ∈ ranksM k) : (c = 124 ∨ c = 38 ∨ c = 61 ∨ c = 60 ∨ c = 43 ∨ c = 45 ∨ c = 42) ∧ (k ≤ 4 → rankM c = k) := by
  match k, h with
  | 0, h => simp [ranksM] at h; subst h; exact ⟨by decide, fun _ => rfl⟩
  | 1, h => simp [ranksM] at h; subst h; exact ⟨by decide, fun _ => rfl⟩
  | 2, h => simp [ranksM] at h; rcases h with rfl | rfl <;> exact ⟨by decide, fun _ => rfl⟩
  | 3, h => simp [ranksM] at h; rcases h with rfl | rfl <;> exact ⟨by decide, fun _ => rfl⟩
  | 4, h => simp [ranksM] at h; subst h; exact ⟨by decide, fun _ => rfl⟩
  | k + 5, h => simp [ranksM] at h; subst h; exact ⟨by decide, fun h => by omega⟩
theorem Rd.ok {m : Md} {s t : List UInt8} {x : Ex} (h : Rd m s x t) : m.okIn → x.ok := by
  induction h with
  | five _ ih => exact ih
  | bin hk _ _ ih ih' => exact fun _ => ih' (ih trivial)
  | stop h => exact id
  | two h hc _ ih => exact fun hx => ⟨(ranks_mem (sign_mem h hc).1).1, hx, ih trivial⟩
  | more hk h hc _ _ ih ih2 => exact fun hx => ih2 ⟨(ranks_mem (sign_mem h hc).1).1, hx, ih trivial⟩
  | not h _ ih => exact fun _ => ⟨.inl rfl, ih trivial⟩
  | neg h _ ih => exact fun _ => ⟨.inr rfl, ih trivial⟩
  | par h h2 hc2 _ h4 hc3 ih => exact fun _ => ih trivial
  | leaf h h2 h3 => exact fun _ => (leaf_ok h3).1
/-! Written it is no longer. -/
theorem br_mono (r k : Nat) (l : List UInt8) : (brM r k l).length ≤ (brM r (k + 1) l).length := by
  unfold brM
  split
  · rw [if_pos (by omega)]; exact Nat.le_refl _
  · split <;> simp; omega
theorem br_two (r k : Nat) (l : List UInt8) : (brM r k l).length ≤ (brM r 0 l).length + 2 := by
  unfold brM
  rw [if_neg (Nat.not_lt_zero r)]
  split <;> simp
theorem wr_mono (x : Ex) (k : Nat) : (x.wr k).length ≤ (x.wr (k + 1)).length := by
  cases x with
  | bad => exact Nat.le_refl _
  | num n => exact br_mono _ _ _
  | var w => exact br_mono _ _ _
  | un op x => exact br_mono _ _ _
  | bin op x y => unfold Ex.wr; split <;> exact br_mono _ _ _
theorem wr_two (x : Ex) (k : Nat) : (x.wr k).length ≤ (x.wr 0).length + 2 := by
  cases x with
  | bad => exact Nat.le_add_right _ _
  | num n => exact br_two _ _ _
  | var w => exact br_two _ _ _
  | un op x => exact br_two _ _ _
  | bin op x y => unfold Ex.wr; split <;> exact br_two _ _ _
theorem dec_len : ∀ (k n : Nat), 1 ≤ k → n < 10 ^ k → (Lib.decDigits n).length ≤ k := by
  intro k
  induction k with
  | zero => intro n h; omega
  | succ k ih =>
    intro n _ hn
    rw [Lib.decDigits]
    split
    · simp
    · next h10 =>
      have hk : 1 ≤ k := by
        rcases Nat.eq_zero_or_pos k with rfl | h
        · simp at hn; omega
        · exact h
      have := ih (n / 10) hk (by rw [Nat.pow_succ] at hn; omega)
      simp; omega
theorem sign_len {set s t : List UInt8} {b : Bool} {c : UInt8} (h : signM set s b = (c, t)) : t.length ≤ s.length := by
  have := sign_le set s b; rwa [h] at this
theorem sign_lt {set s t : List UInt8} {b : Bool} {c : UInt8} (h : signM set s b = (c, t)) (hc : c ≠ 0) : t.length + 1 ≤ s.length := by
  have := sign_some (set := set) (s := s) (b := b) (by rw [h]; exact hc)
  rw [h] at this; exact this
def Md.lenIn : Md → Nat
  | .loop k x => (x.wr (if k = 2 then 3 else k)).length
  | _ => 0
def Md.lv : Md → Nat
  | .bin k => k
  | .loop k _ => k
  | .un => 5
theorem bin_wr (c : UInt8) (x y : Ex) {k : Nat} (h : rankM c = k) : (Ex.bin c x y).wr k = x.wr (if k = 2 then 3 else k) ++ c :: y.wr (k + 1) := by
  subst h
  rw [Ex.wr]
  split
  · next h => rw [h]; simp [brM]
  · simp [brM]
theorem Rd.len {m : Md} {s t : List UInt8} {x : Ex} (h : Rd m s x t) : m.fine → (x.wr m.lv).length + t.length ≤ m.lenIn + s.length := by
  induction h with
  | five _ ih => exact fun _ => ih trivial
  | @bin k s t u x y hk _ _ ih ih' =>
    intro hf
    have hf : k ≤ 5 := hf
    have h1 := ih (show k + 1 ≤ 5 by omega)
    have h2 := ih' (show k ≤ 4 by omega)
    simp only [Md.lv, Md.lenIn] at h1 h2 ⊢
    have h3 : (x.wr (if k = 2 then 3 else k)).length ≤ (x.wr (k + 1)).length := by
      split
      · next e => subst e; exact Nat.le_refl _
      · exact wr_mono _ _
    omega
  | @stop k s t x h =>
    intro _
    have := sign_len h
    simp only [Md.lv, Md.lenIn]
    have h3 : (x.wr k).length ≤ (x.wr (if k = 2 then 3 else k)).length := by
      split
      · next e => subst e; exact wr_mono _ _
      · exact Nat.le_refl _
    omega
  | @two s t u x y c h hc _ ih =>
    intro _
    have h1 := ih (show 3 ≤ 5 by omega)
    have h2 := sign_lt h hc
    simp only [Md.lv, Md.lenIn] at h1 ⊢
    rw [bin_wr c x y ((ranks_mem (sign_mem h hc).1).2 (by omega))]
    simp only [List.length_append, List.length_cons, if_true, show 2 + 1 = 3 from rfl] at h1 ⊢
    omega
  | @more k s t u v x y z c hk h hc _ _ ih ih2 =>
    intro hf
    have hf : k ≤ 4 := hf
    have h1 := ih (show k + 1 ≤ 5 by omega)
    have h2 := ih2 hf
    have h3 := sign_lt h hc
    simp only [Md.lv, Md.lenIn, if_neg hk] at h1 h2 ⊢
    rw [bin_wr c x y ((ranks_mem (sign_mem h hc).1).2 hf), if_neg hk] at h2
    simp only [List.length_append, List.length_cons] at h2
    omega
  | @not s t u x h _ ih =>
    intro _
    have h1 := ih trivial
    have h2 := sign_lt h (by decide)
    simp only [Md.lv, Md.lenIn] at h1 ⊢
    rw [Ex.wr]
    simp only [brM, Nat.lt_irrefl, if_false, List.length_cons] at h1 ⊢
    omega
  | @neg s t u x h _ ih =>
    intro _
    have h1 := ih trivial
    have h2 := sign_lt h (by decide)
    simp only [Md.lv, Md.lenIn] at h1 ⊢
    rw [Ex.wr]
    simp only [brM, Nat.lt_irrefl, if_false, List.length_cons] at h1 ⊢
    omega
  | @par s t u v w x c2 c3 h h2 hc2 _ h4 hc3 ih =>
    intro _
    have h1 := ih (Nat.zero_le _)
    have e1 := sign_len h
    have e2 := sign_lt h2 hc2
    have e3 := sign_lt h4 hc3
    have e4 := wr_two x 5
    simp only [Md.lv, Md.lenIn] at h1 ⊢
    omega
  | @leaf s t u v x h h2 h3 =>
    intro _
    have e1 := sign_len h
    have e2 := sign_len h2
    obtain ⟨hok, w, hw, hs, -⟩ := leaf_ok h3
    have e3 : u.length = w.length + v.length := by rw [hs]; simp
    simp only [Md.lv, Md.lenIn]
    rcases hw with rfl | ⟨rfl, hd, h9, hne⟩
    · simp only [Ex.wr, brM, show ¬ (6 < 5) from by decide, if_false]
      omega
    · have hb := num_bound w 0 0 hd (by decide) (by decide) (by omega)
      have e4 : (Lib.itoa (numM w)).length ≤ w.length := by
        have h0 : 0 ≤ numM w := hb.1
        have h1 : numM w < 10 ^ (0 + w.length) := hb.2
        unfold Lib.itoa
        rw [if_neg (by omega)]
        refine dec_len _ _ (by have := List.length_pos_iff.2 hne; omega) ?_
        rw [Nat.zero_add] at h1
        have : ((numM w).toNat : Int) < ((10 ^ w.length : Nat) : Int) := by rw [Int.toNat_of_nonneg h0]; exact_mod_cast h1
        exact_mod_cast this
      simp only [Ex.wr, brM, show ¬ (6 < 5) from by decide, if_false]
      omega
end Go.Proofs.YtjojjcdminbnlaaDoor
