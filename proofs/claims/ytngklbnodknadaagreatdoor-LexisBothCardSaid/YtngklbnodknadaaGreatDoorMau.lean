/-
  Uc, Ud, Uf, Uh, Ug, Ui, Uj, Uk, in one.
-/
import Derived.Test.YtngklbnodknadaaGreatDoorMat
import Derived.Test.YtngklbnodknadaaGreatDoorMal
section
namespace Go.Proofs.YtngklbnodknadaaGreatDoor

theorem runN_take (p : UInt8 → Bool) : ∀ (l : List UInt8) (k : Nat), runN p (l.take k) = min (runN p l) k
  | [], k => by simp [runN]
  | c :: l, 0 => by simp [runN]
  | c :: l, k + 1 => by
    rw [List.take_succ_cons, runN, runN]
    split
    · rw [runN_take p l k]; omega
    · omega
theorem quoL_take : ∀ (n : Nat) (l b : List UInt8) (k m : Nat), l.length ≤ n → (quoL l b k).2 = 0 → (quoL l b k).1.to = (m : Int) → quoL (l.take (m - k)) b k = quoL l b k
  | n, [], b, k, m, _, h, _ => by rw [List.take_nil]
  | 0, c :: l, b, k, m, hn, _, _ => by simp at hn
  | n + 1, c :: l, b, k, m, hn, h, ht => by
    rw [List.length_cons] at hn
    have hm : k + 1 ≤ m := by
      obtain ⟨m', e1, e2, -⟩ := quoL_to _ (c :: l) b k (Nat.le_refl _) h
      omega
    obtain ⟨j, hj⟩ : ∃ j, m - k = j + 1 := ⟨m - k - 1, by omega⟩
    rw [hj, List.take_succ_cons]
    rw [quoL_cons] at h ht ⊢
    rw [quoL_cons]
    split at h
    · next h34 => rw [if_pos h34, if_pos h34]
    · next h34 =>
      rw [if_neg h34] at ht ⊢
      rw [if_neg h34]
      split at h
      · cases h
      · next h32 =>
        rw [if_neg h32] at ht ⊢
        rw [if_neg h32]
        split at h
        · next h92 =>
          rw [if_pos h92] at ht ⊢
          rw [if_pos h92]
          cases l with
          | nil => cases h
          | cons x l' =>
            dsimp only at h ht
            cases he : escM x with
            | none => rw [he] at h; cases h
            | some y =>
              rw [he] at h ht
              dsimp only at h ht
              obtain ⟨m', e1, e2, -⟩ := quoL_to _ l' (b ++ [y]) (k + 2) (Nat.le_refl _) h
              obtain ⟨i, rfl⟩ : ∃ i, j = i + 1 := ⟨j - 1, by omega⟩
              have ih := quoL_take n l' (b ++ [y]) (k + 2) m (by rw [List.length_cons] at hn; omega) h ht
              rw [show m - (k + 2) = i by omega] at ih
              rw [List.take_succ_cons]
              dsimp only
              rw [he]
              exact ih
        · next h92 =>
          rw [if_neg h92] at ht ⊢
          rw [if_neg h92]
          have ih := quoL_take n l (b ++ [c]) (k + 1) m (by omega) h ht
          rw [show m - (k + 1) = j by omega] at ih
          exact ih
theorem toN_no {x : List UInt8} (h : isFl x = false) : toN x = runN isDgB x := by unfold toN; rw [h]; rfl
theorem toN_yes {x : List UInt8} (h : isFl x = true) : toN x = runN isDgB x + 1 + runN isDgB (x.drop (runN isDgB x + 1)) := by unfold toN; rw [if_pos h]
theorem numM_take (pf : List UInt8 → Nat) {s : List UInt8} (h : (numM pf s).2 = 0) (_h1 : 1 ≤ runN isDgB s) : numM pf (s.take (toN s)) = numM pf s := by
  have hle := toN_le s
  have hge := toN_ge s
  have hn := runN_take isDgB s (toN s)
  rw [Nat.min_eq_left hge] at hn
  have hfl : isFl (s.take (toN s)) = isFl s ∧ toN (s.take (toN s)) = toN s := by
    cases hf : isFl s with
    | false =>
      have e : toN s = runN isDgB s := toN_no hf
      have h2 : isFl (s.take (toN s)) = false := isFl_out (by rw [hn, List.length_take, e]; omega)
      refine ⟨h2, ?_⟩
      rw [toN_no h2, hn, e]
    | true =>
      have e : toN s = runN isDgB s + 1 + runN isDgB (s.drop (runN isDgB s + 1)) := toN_yes hf
      have hlt : runN isDgB s + 1 < s.length := Classical.byContradiction fun q => by rw [isFl_out q] at hf; cases hf
      have g0 : s[runN isDgB s]? = some s[runN isDgB s] := List.getElem?_eq_getElem (by omega)
      have g1 : s[runN isDgB s + 1]? = some s[runN isDgB s + 1] := List.getElem?_eq_getElem hlt
      have hin := isFl_in g0 g1
      rw [hf] at hin
      have hd1 : isDgB s[runN isDgB s + 1] = true := by
        cases q : isDgB s[runN isDgB s + 1] with
        | true => rfl
        | false => rw [q, Bool.and_false] at hin; cases hin
      have hk : 1 ≤ runN isDgB (s.drop (runN isDgB s + 1)) := by
        rw [List.drop_eq_getElem_cons hlt]
        exact runN_pos hd1
      have h2 : isFl (s.take (toN s)) = true := by
        rw [isFl_in (c0 := s[runN isDgB s]) (c1 := s[runN isDgB s + 1]) (by rw [hn, List.getElem?_take, if_pos (by omega)]; exact g0) (by rw [hn, List.getElem?_take, if_pos (by omega)]; exact g1)]
        exact hin.symm
      refine ⟨h2, ?_⟩
      rw [toN_yes h2, hn, List.drop_take, runN_take, e]
      omega
  have hlet : letAt s[toN s]? = false := by
    cases q : letAt s[toN s]? with
    | false => rfl
    | true => unfold numM at h; rw [if_pos q] at h; cases h
  have hl2 : letAt (s.take (toN s))[toN s]? = false := by rw [List.getElem?_take, if_neg (by omega)]; rfl
  unfold numM
  rw [hfl.1, hfl.2, hlet, hl2, List.take_take, Nat.min_self]
theorem find_take {s m : List UInt8} : ∀ {M : List (List UInt8)}, (M.find? fun x => Lib.hasPrefix s x) = some m → (M.find? fun x => Lib.hasPrefix (s.take m.length) x) = some m
  | [], h => by cases h
  | x :: M, h => by
    rw [List.find?_cons] at h ⊢
    have hp : ∀ y : List UInt8, Lib.hasPrefix (s.take m.length) y = true → Lib.hasPrefix s y = true := fun y hy => by
      have hy : y.isPrefixOf (s.take m.length) = true := hy
      rw [List.isPrefixOf_iff_prefix] at hy
      show y.isPrefixOf s = true
      rw [List.isPrefixOf_iff_prefix]
      exact hy.trans (List.take_prefix _ _)
    cases hx : Lib.hasPrefix s x with
    | true =>
      rw [hx] at h
      have e : x = m := Option.some.inj h
      subst e
      have : Lib.hasPrefix (s.take x.length) x = true := by
        have hx : x.isPrefixOf s = true := hx
        rw [List.isPrefixOf_iff_prefix] at hx
        show x.isPrefixOf _ = true
        rw [List.isPrefixOf_iff_prefix]
        obtain ⟨t, rfl⟩ := hx
        rw [List.take_left]
        exact List.prefix_refl _
      rw [this]
    | false =>
      rw [hx] at h
      have : Lib.hasPrefix (s.take m.length) x = false := by
        cases q : Lib.hasPrefix (s.take m.length) x with
        | false => rfl
        | true => rw [hp x q] at hx; cases hx
      rw [this]
      exact find_take h
/-- A token's bytes alone are that token. -/
theorem oneM_take (pf : List UInt8 → Nat) {s : List UInt8} {m : Nat} (h : (oneM pf s).2 = 0) (hm : (oneM pf s).1.to = (m : Int)) : oneM pf (s.take m) = oneM pf s := by
  obtain ⟨m', e1, e2, e3⟩ := oneM_to pf h
  obtain rfl : m' = m := by omega
  cases s with
  | nil => cases h
  | cons c l =>
    obtain ⟨j, rfl⟩ : ∃ j, m' = j + 1 := ⟨m' - 1, by omega⟩
    have ec : ∀ l : List UInt8, oneM pf (c :: l) = if isLet c = true then (if 40 < runN isSig (c :: l) then (tok0, 2) else if (c :: l).take (runN isSig (c :: l)) ∈ wordsL then (⟨1, [], 0, 0, (runN isSig (c :: l) : Nat), 0⟩, 0) else (⟨2, [], 0, 0, (runN isSig (c :: l) : Nat), 0⟩, 0)) else if isDgB c = true then numM pf (c :: l) else if c = 34 then quoM (c :: l) else markM (c :: l) := fun l => rfl
    have et : (c :: l).take (j + 1) = c :: l.take j := List.take_succ_cons
    rw [et, ec, ec]
    rw [ec] at h hm
    by_cases hl : isLet c = true
    · rw [if_pos hl] at h hm ⊢
      rw [if_pos hl]
      by_cases h40 : 40 < runN isSig (c :: l)
      · rw [if_pos h40] at h; cases h
      · rw [if_neg h40] at h hm ⊢
        have hr : runN isSig (c :: l) = j + 1 := by
          by_cases hw : (c :: l).take (runN isSig (c :: l)) ∈ wordsL
          · rw [if_pos hw] at hm; exact Int.ofNat.inj hm
          · rw [if_neg hw] at hm; exact Int.ofNat.inj hm
        have hr2 : runN isSig (c :: l.take j) = j + 1 := by
          rw [← et, runN_take, hr]; omega
        rw [hr2, if_neg (by omega), hr, et, show (c :: l.take j).take (j + 1) = c :: l.take j by rw [← et, List.take_take, Nat.min_self]]
    · rw [if_neg hl] at h hm ⊢
      rw [if_neg hl]
      by_cases hd : isDgB c = true
      · rw [if_pos hd] at h hm ⊢
        rw [if_pos hd]
        have ht : toN (c :: l) = j + 1 := by
          have : (numM pf (c :: l)).1.to = ((toN (c :: l) : Nat) : Int) := by
            unfold numM
            split
            · rfl
            · split
              · rfl
              · split
                · rfl
                · rfl
          rw [this] at hm
          exact Int.ofNat.inj hm
        have := numM_take pf h (runN_pos hd)
        rwa [ht, et] at this
      · rw [if_neg hd] at h hm ⊢
        rw [if_neg hd]
        by_cases hq : c = 34
        · rw [if_pos hq] at h hm ⊢
          rw [if_pos hq]
          have := quoL_take _ l [] 1 (j + 1) (Nat.le_refl _) h hm
          exact this
        · rw [if_neg hq] at h hm ⊢
          rw [if_neg hq]
          unfold markM at h hm ⊢
          cases hf : marksL.find? fun x => Lib.hasPrefix (c :: l) x with
          | none => rw [hf] at h; cases h
          | some x =>
            rw [hf] at hm
            have hx : x.length = j + 1 := Int.ofNat.inj hm
            have := find_take hf
            rw [hx, et] at this
            rw [this]
end Go.Proofs.YtngklbnodknadaaGreatDoor
end

section
namespace Go.Proofs.YtngklbnodknadaaGreatDoor

theorem blank0 {c : UInt8} {l : List UInt8} : blankN (c :: l) = 0 ↔ isBl c = false ∧ c ≠ 35 := by
  unfold blankN
  cases hb : isBl c with
  | true =>
    have : 1 ≤ runN isBl (c :: l) := runN_pos hb
    constructor
    · intro h
      split at h <;> omega
    · rintro ⟨h, -⟩; cases h
  | false =>
    have e : runN isBl (c :: l) = 0 := by rw [runN, hb]; rfl
    rw [e]
    by_cases h35 : c = 35
    · subst h35
      have : 1 ≤ runN notNl (35 :: l) := runN_pos (by decide)
      rw [if_pos (show (35 :: l)[0]? = some 35 from rfl)]
      constructor
      · intro h
        have h : 0 + runN notNl (35 :: l) = 0 := h
        omega
      · rintro ⟨-, h⟩; exact absurd rfl h
    · rw [if_neg (by simpa using h35)]
      exact ⟨fun _ => ⟨rfl, h35⟩, fun _ => rfl⟩
theorem tokL_all (pf : List UInt8 → Nat) (s : List UInt8) (Q : Tok → Prop) (hQ : ∀ a, a < s.length → blankN (s.drop a) = 0 → (oneM pf (s.drop a)).2 = 0 → Q (putM s a (oneM pf (s.drop a)).1)) : ∀ (f a : Nat) (out : List Tok), (∀ x ∈ out, Q x) → ∀ x ∈ (tokL pf s f a out).1, Q x
  | 0, a, out, h => h
  | f + 1, a, out, h => by
    rw [tokL]
    by_cases h1 : s.length ≤ a
    · rw [if_pos h1]; exact h
    · rw [if_neg h1]
      by_cases h2 : 0 < blankN (s.drop a)
      · rw [if_pos h2]; exact tokL_all pf s Q hQ f _ out h
      · rw [if_neg h2]
        by_cases h3 : (oneM pf (s.drop a)).2 ≠ 0
        · rw [if_pos h3]; intro x hx; cases hx
        · rw [if_neg h3]
          have h3 : (oneM pf (s.drop a)).2 = 0 := Classical.byContradiction h3
          refine tokL_all pf s Q hQ f _ _ fun x hx => ?_
          rcases List.mem_append.1 hx with hx | hx
          · exact h x hx
          · rw [List.mem_singleton.1 hx]
            exact hQ a (by omega) (by omega) h3
theorem tokM_all (pf : List UInt8 → Nat) (s : List UInt8) (Q : Tok → Prop) (hQ : ∀ a, a < s.length → blankN (s.drop a) = 0 → (oneM pf (s.drop a)).2 = 0 → Q (putM s a (oneM pf (s.drop a)).1)) : ∀ x ∈ (tokM pf s).1, Q x := by
  have h := tokL_all pf s Q hQ (s.length + 1) 0 [] (fun x hx => by cases hx)
  unfold tokM
  split
  · intro x hx; cases hx
  · split
    · intro x hx; cases hx
    · split
      · intro x hx; cases hx
      · exact h
theorem tokM_len (pf : List UInt8 → Nat) (s : List UInt8) (h : (tokM pf s).2 = 0) : s.length ≤ 2000 := by
  unfold tokM at h
  split at h
  · cases h
  · omega
theorem tok_alone (pf : List UInt8 → Nat) {s : List UInt8} (h0 : (tokM pf s).2 = 0) {x : Tok} (hx : x ∈ (tokM pf s).1) :
    ∃ a m : Nat, x.at' = (a : Int) ∧ x.to = ((a + m : Nat) : Int) ∧ 1 ≤ m ∧ a + m ≤ s.length ∧ tokM pf ((s.drop a).take (a + m - a)) = ([⟨x.kind, x.text, x.num, 0, (m : Int), 1⟩], 0) := by
  have hs := tokM_len pf s h0
  obtain ⟨a, ha, hb, ho, rfl⟩ := tokM_all pf s (fun x => ∃ a, a < s.length ∧ blankN (s.drop a) = 0 ∧ (oneM pf (s.drop a)).2 = 0 ∧ x = putM s a (oneM pf (s.drop a)).1) (fun a h1 h2 h3 => ⟨a, h1, h2, h3, rfl⟩) x hx
  obtain ⟨m, e1, m1, m2⟩ := oneM_to pf ho
  have hsub := oneM_take pf ho e1
  rw [List.length_drop] at m2
  refine ⟨a, m, rfl, by unfold putM; dsimp only; rw [e1, Int.natCast_add], m1, by omega, ?_⟩
  rw [Nat.add_sub_cancel_left]
  have hl : ((s.drop a).take m).length = m := by rw [List.length_take, List.length_drop]; omega
  have hbl : blankN ((s.drop a).take m) = 0 := by
    cases hr : s.drop a with
    | nil => have := congrArg List.length hr; rw [List.length_drop] at this; simp at this; omega
    | cons c l =>
      rw [hr] at hb
      obtain ⟨j, rfl⟩ : ∃ j, m = j + 1 := ⟨m - 1, by omega⟩
      rw [List.take_succ_cons]
      exact blank0.2 (blank0.1 hb)
  have hputk : putM s a (oneM pf (s.drop a)).1 = ⟨(oneM pf (s.drop a)).1.kind, if (oneM pf (s.drop a)).1.kind = 5 then (oneM pf (s.drop a)).1.text else (s.drop a).take m, (oneM pf (s.drop a)).1.num, a, (a : Int) + (m : Int), 1 + ((s.take a).count 10 : Nat)⟩ := by
    unfold putM; rw [e1, Int.toNat_natCast]
  rw [hputk]
  dsimp only
  generalize hS : (s.drop a).take m = S at *
  have hL : tokL pf S (S.length + 1) 0 [] = ([⟨(oneM pf (s.drop a)).1.kind, if (oneM pf (s.drop a)).1.kind = 5 then (oneM pf (s.drop a)).1.text else S, (oneM pf (s.drop a)).1.num, 0, (m : Int), 1⟩], 0) := by
    rw [tokL, if_neg (by omega), List.drop_zero, hbl, if_neg (by decide), hsub, if_neg (fun h => h ho), e1, Int.toNat_natCast, hl]
    obtain ⟨j, rfl⟩ : ∃ j, m = j + 1 := ⟨m - 1, by omega⟩
    rw [tokL, if_pos (by omega)]
    unfold putM
    rw [e1, Int.toNat_natCast, List.drop_zero, List.take_of_length_le (by omega)]
    simp
  unfold tokM
  rw [hL, if_neg (by omega), if_neg (by simp), if_neg (by simp)]
end Go.Proofs.YtngklbnodknadaaGreatDoor
end

section
namespace Go.Proofs.YtngklbnodknadaaGreatDoor

/-- From a on a text has just these tokens. -/
inductive Lx (pf : List UInt8 → Nat) (s : List UInt8) : Nat → List Tok → Prop
  | nil {a : Nat} (h : s.length ≤ a) : Lx pf s a []
  | bl {a : Nat} {l : List Tok} {c : UInt8} (hc : s[a]? = some c) (hb : isBl c = true) (h : Lx pf s (a + 1) l) : Lx pf s a l
  | rem {a : Nat} {l : List Tok} (hc : s[a]? = some 35) (h : Lx pf s (a + runN notNl (s.drop a)) l) : Lx pf s a l
  | tok {a : Nat} {l : List Tok} {c : UInt8} (hc : s[a]? = some c) (hb : isBl c = false) (h35 : c ≠ 35) (ho : (oneM pf (s.drop a)).2 = 0) (h : Lx pf s (a + (oneM pf (s.drop a)).1.to.toNat) l) : Lx pf s a (putM s a (oneM pf (s.drop a)).1 :: l)
section
variable {pf : List UInt8 → Nat} {s : List UInt8}
theorem drop_head {a : Nat} {c : UInt8} (h : s[a]? = some c) : s.drop a = c :: s.drop (a + 1) := by
  obtain ⟨h1, h2⟩ := List.getElem?_eq_some_iff.1 h
  rw [List.drop_eq_getElem_cons h1, h2]
theorem lx_run {l : List Tok} : ∀ (n a : Nat), runN isBl (s.drop a) = n → (Lx pf s (a + n) l ↔ Lx pf s a l)
  | 0, a, _ => Iff.rfl
  | n + 1, a, h => by
    rcases Nat.lt_or_ge a s.length with ha | ha
    · have hc : s[a]? = some s[a] := List.getElem?_eq_getElem ha
      have hd := drop_head hc
      rw [hd, runN] at h
      split at h
      · next hb =>
        have ih := lx_run (l := l) n (a + 1) (by omega)
        rw [show a + 1 + n = a + (n + 1) by omega] at ih
        rw [ih]
        constructor
        · exact fun h => .bl hc hb h
        · intro h
          cases h with
          | nil h => omega
          | bl _ _ h => exact h
          | rem h35 _ => rw [hc] at h35; exact absurd hb (by rw [Option.some.inj h35]; decide)
          | tok hc' hb' _ _ _ => rw [hc] at hc'; rw [Option.some.inj hc', hb'] at hb; cases hb
      · omega
    · rw [List.drop_of_length_le ha] at h
      cases h
theorem lx_blank {a : Nat} {l : List Tok} : Lx pf s (a + blankN (s.drop a)) l ↔ Lx pf s a l := by
  rw [← lx_run (l := l) (runN isBl (s.drop a)) a rfl]
  unfold blankN
  generalize hr : runN isBl (s.drop a) = r
  rw [List.getElem?_drop, List.drop_drop]
  split
  · next h35 =>
    rw [← Nat.add_assoc]
    constructor
    · exact fun h => .rem h35 h
    · intro h
      cases h with
      | nil h => rw [List.getElem?_eq_none h] at h35; cases h35
      | bl hc hb _ => rw [h35] at hc; exact absurd hb (by rw [← Option.some.inj hc]; decide)
      | rem _ h => exact h
      | tok hc _ h' _ _ => rw [h35] at hc; exact absurd (Option.some.inj hc).symm h'
  · exact Iff.rfl
theorem lx_tokL : ∀ (f a : Nat) (out out' : List Tok), s.length < a + f → tokL pf s f a out = (out', 0) → ∃ l, Lx pf s a l ∧ out' = out ++ l
  | 0, a, out, out', hf, h => by
    rw [tokL] at h
    injection h with h1 h2
    exact ⟨[], .nil (by omega), by rw [← h1, List.append_nil]⟩
  | f + 1, a, out, out', hf, h => by
    rw [tokL] at h
    by_cases h1 : s.length ≤ a
    · rw [if_pos h1] at h
      injection h with h2 h3
      exact ⟨[], .nil h1, by rw [← h2, List.append_nil]⟩
    · rw [if_neg h1] at h
      by_cases h2 : 0 < blankN (s.drop a)
      · rw [if_pos h2] at h
        obtain ⟨l, e1, e2⟩ := lx_tokL f _ out out' (by omega) h
        exact ⟨l, lx_blank.1 e1, e2⟩
      · rw [if_neg h2] at h
        by_cases h3 : (oneM pf (s.drop a)).2 ≠ 0
        · rw [if_pos h3] at h
          injection h with h4 h5
          exact absurd h5 h3
        · rw [if_neg h3] at h
          have h3 : (oneM pf (s.drop a)).2 = 0 := Classical.byContradiction h3
          obtain ⟨m, e1, m1, m2⟩ := oneM_to pf h3
          obtain ⟨l, q1, q2⟩ := lx_tokL f _ _ out' (by rw [e1, Int.toNat_natCast]; omega) h
          have hc : s[a]? = some s[a] := List.getElem?_eq_getElem (by omega)
          have hb0 : blankN (s.drop a) = 0 := by omega
          rw [drop_head hc] at hb0
          obtain ⟨b1, b2⟩ := blank0.1 hb0
          exact ⟨_, .tok hc b1 b2 h3 q1, by rw [q2, List.append_assoc]; rfl⟩
theorem tokL_lx : ∀ (f a : Nat) (out l : List Tok), s.length < a + f → Lx pf s a l → tokL pf s f a out = (out ++ l, 0)
  | 0, a, out, l, hf, h => by
    cases h with
    | nil _ => rw [tokL, List.append_nil]
    | bl hc _ _ => rw [List.getElem?_eq_none (by omega)] at hc; cases hc
    | rem hc _ => rw [List.getElem?_eq_none (by omega)] at hc; cases hc
    | tok hc _ _ _ _ => rw [List.getElem?_eq_none (by omega)] at hc; cases hc
  | f + 1, a, out, l, hf, h => by
    rw [tokL]
    by_cases h1 : s.length ≤ a
    · rw [if_pos h1]
      cases h with
      | nil _ => rw [List.append_nil]
      | bl hc _ _ => rw [List.getElem?_eq_none h1] at hc; cases hc
      | rem hc _ => rw [List.getElem?_eq_none h1] at hc; cases hc
      | tok hc _ _ _ _ => rw [List.getElem?_eq_none h1] at hc; cases hc
    · rw [if_neg h1]
      by_cases h2 : 0 < blankN (s.drop a)
      · rw [if_pos h2]
        exact tokL_lx f _ out l (by omega) (lx_blank.2 h)
      · rw [if_neg h2]
        have hc : s[a]? = some s[a] := List.getElem?_eq_getElem (by omega)
        have hb0 : blankN (s.drop a) = 0 := by omega
        rw [drop_head hc] at hb0
        obtain ⟨b1, b2⟩ := blank0.1 hb0
        cases h with
        | nil h => exact absurd h h1
        | bl hc' hb _ => rw [hc] at hc'; rw [← Option.some.inj hc', b1] at hb; cases hb
        | rem hc' _ => rw [hc] at hc'; exact absurd (Option.some.inj hc') b2
        | tok _ _ _ ho h =>
          obtain ⟨m, e1, m1, m2⟩ := oneM_to pf ho
          rw [if_neg (fun h => h ho), tokL_lx f _ _ _ (by rw [e1, Int.toNat_natCast]; omega) h, List.append_assoc]
          rfl
/-- A text's tokens, where all goes well: there are few of them, and the text is short. -/
theorem tokM_lx {l : List Tok} : tokM pf s = (l, 0) ↔ s.length ≤ 2000 ∧ l.length ≤ 800 ∧ Lx pf s 0 l := by
  unfold tokM
  constructor
  · intro h
    split at h
    · injection h with h1 h2; cases h2
    · next h1 =>
      split at h
      · next h2 => injection h with h3 h4; exact absurd h4 h2
      · next h2 =>
        have h2 : (tokL pf s (s.length + 1) 0 []).2 = 0 := Classical.byContradiction h2
        split at h
        · injection h with h3 h4; cases h4
        · next h3 =>
          injection h with h4 h5
          obtain ⟨l', e1, e2⟩ := lx_tokL (pf := pf) (s := s) (s.length + 1) 0 [] l (by omega) (Prod.ext h4 h2)
          obtain rfl : l = l' := e2
          exact ⟨by omega, by rw [← h4]; omega, e1⟩
  · rintro ⟨h1, h2, h3⟩
    have := tokL_lx (s.length + 1) 0 [] l (by omega) h3
    rw [this, List.nil_append, if_neg (by omega), if_neg (by simp), if_neg (show ¬ 800 < l.length by omega)]
end
end Go.Proofs.YtngklbnodknadaaGreatDoor
end

section
namespace Go.Proofs.YtngklbnodknadaaGreatDoor
open Go.RowKit

set_option maxRecDepth 100000 in
set_option maxHeartbeats 8000000 in
theorem tokens_own (s : List UInt8) (l : List Tok) (hl : tokM pfM s = (l, 0)) : FnO Tryz.prog 8 [strT s] [] (.tup [.own 6 (l.map tokD) 4, intT 0]) [(4, .row 28 6 (l.map tokD))] := by
  obtain ⟨hs, h8, hlx⟩ := tokM_lx.1 hl
  have hR := tokL_lx (s.length + 1) 0 [] l (by omega) hlx
  rw [List.nil_append] at hR
  generalize hR1 : l = R1 at *
  clear hlx hl
  refine FnO.ofT (n := 69) [4] fax_ok Tryz.func8 rfl rfl rfl (by rfl) (by rfl) (by kernel_rfl) fun Γ hA hbA hbO => ?_
  (repeat ((conv => whnf); (first | refine exR ?_ | refine tF ?_ | refine And.intro rfl ?_)))
  refine ev_loop [4] fax_ok hA (by kernel_rfl) (fun x : Nat × Nat × List Tok => x.2.1 ≤ s.length ∧ s.length < x.2.1 + x.1 ∧ x.2.2.length ≤ x.2.1 ∧ tokL pfM s x.1 x.2.1 x.2.2 = (R1, 0)) (fun x => [(0, strT s), (4, .own 6 (x.2.2.map tokD) 4), (5, intT x.2.1)]) (fun x => [(4, .row 28 6 (x.2.2.map tokD))]) (fun x => s.length - x.2.1) (s.length + 1, 0, []) ⟨Nat.zero_le _, by dsimp only; omega, Nat.le_refl _, hR⟩ fiE fiO ?_
  rintro ⟨f, a, out⟩ ⟨ha, hf, ho, hr⟩ - hbO2
  dsimp only at ha hf ho hr ⊢
  clear hR
  obtain ⟨f, rfl⟩ : ∃ f', f = f' + 1 := ⟨f - 1, by omega⟩
  rw [tokL] at hr
  have hL : (out.map tokD).length = out.length := List.length_map _
  by_cases hal : a < s.length
  · rw [if_neg (by omega)] at hr
    have hrest : (s.drop a).length = s.length - a := List.length_drop
    have hbl := blank_fn (s.drop a) (by omega)
    have hble := blankN_le (s.drop a)
    generalize blankN (s.drop a) = n at *
    by_cases hn : 0 < n
    · rw [if_pos hn] at hr
      have hw : IntKind.i64.wrap ((a : Int) + (n : Int)) = ((a + n : Nat) : Int) := i_nat (by omega) (by omega)
      (repeat ((conv => whnf); (first | with_reducible refine exE (α := Int) _ (by assumption) ?_ | refine exR ?_ | refine gd (enters_of Tryz.func11 rfl rfl) hbl ?_ | refine tT ?_ | refine nA _ rfl ?_)))
      exact ⟨(f, a + n, out), ⟨by dsimp only; omega, by dsimp only; omega, by dsimp only; omega, hr⟩, by dsimp only; omega, fiE, fiO⟩
    · rw [if_neg hn] at hr
      have hone := one_fn (s.drop a) (by omega) (by omega)
      have hto := @oneM_to pfM (s.drop a)
      generalize oneM pfM (s.drop a) = q at *
      obtain ⟨⟨kd, tx, nm, a0, tz, ln⟩, e⟩ := q
      unfold oneT tokD at hone
      dsimp only at hone hto hr
      by_cases he : e = 0
      · rw [if_neg (by simp [he])] at hr
        obtain ⟨m, rfl, m1, m2⟩ := hto he
        have hne : (e != 0) = false := by simp [he]
        have hcnt := count_fn (s.take a) 10
        have hw : IntKind.i64.wrap ((a : Int) + (m : Int)) = ((a + m : Nat) : Int) := i_nat (by omega) (by omega)
        have hcl : (s.take a).count 10 ≤ 1000000 := Nat.le_trans List.count_le_length (by rw [List.length_take]; omega)
        rw [Int.toNat_natCast] at hr
        generalize hcv : (s.take a).count 10 = cv at *
        have ham : a + m ≤ s.length := by omega
        have hfm : s.length < a + m + f := by omega
        have hmu : s.length - (a + m) < s.length - a := by omega
        have hom : out.length + 1 ≤ a + m := by omega
        by_cases h5 : kd = 5
        · have hk : (kd != 5) = false := by simp [h5]
          have hTok : tokD (putM s a ⟨kd, tx, nm, a0, (m : Int), ln⟩) = .agg [.v (.int .i64 kd), .v (.string ⟨⟨tx⟩⟩), .v (.int .i64 nm), .v (.int .i64 (a : Int)), .v (.int .i64 ((a + m : Nat) : Int)), .v (.int .i64 (1 + (cv : Int)))] := by
            unfold putM tokD
            dsimp only
            rw [if_pos h5, hcv, Int.natCast_add]
          (repeat ((conv => whnf); (first | with_reducible refine exE (α := Int) _ (by assumption) ?_ | with_reducible refine exE _ (wrap_in (by omega) (by omega)) ?_ | refine exR ?_ | refine gd (enters_of Tryz.func11 rfl rfl) hbl ?_ | refine gd (enters_of Tryz.func12 rfl rfl) hone ?_ | refine gd (enters_of Tryz.func13 rfl rfl) hcnt ?_ | refine tT ?_ | refine tF ?_ | refine oB ?_ | refine And.intro rfl ?_ | refine lQ ?_ | refine nA _ rfl ?_)))
          exact ⟨(f, a + m, out ++ [putM s a ⟨kd, tx, nm, a0, (m : Int), ln⟩]), ⟨by dsimp only; omega, by dsimp only; omega, by simp; omega, hr⟩, by dsimp only; omega, (by dsimp only; rw [map_tok, hTok]; exact fiE), (by dsimp only; rw [map_tok, hTok]; exact fiO)⟩
        · have hk : (kd != 5) = true := by simp [h5]
          have hTok : tokD (putM s a ⟨kd, tx, nm, a0, (m : Int), ln⟩) = .agg [.v (.int .i64 kd), .v (.string ⟨⟨(s.drop a).take (a + m - a)⟩⟩), .v (.int .i64 nm), .v (.int .i64 (a : Int)), .v (.int .i64 ((a + m : Nat) : Int)), .v (.int .i64 (1 + (cv : Int)))] := by
            unfold putM tokD
            dsimp only
            rw [if_neg h5, hcv, Int.natCast_add, Int.toNat_natCast, Nat.add_sub_cancel_left]
          (repeat ((conv => whnf); (first | with_reducible refine exE (α := Int) _ (by assumption) ?_ | refine exR ?_ | refine gd (enters_of Tryz.func11 rfl rfl) hbl ?_ | refine gd (enters_of Tryz.func12 rfl rfl) hone ?_ | refine tT ?_ | refine tF ?_ | refine And.intro rfl ?_ | refine nA _ rfl ?_)))
          refine ⟨a, a + m, rfl, rfl, Nat.le_add_right a m, ham, ?_⟩
          (repeat ((conv => whnf); (first | with_reducible refine exE (α := Int) _ (by assumption) ?_ | with_reducible refine exE _ (wrap_in (by omega) (by omega)) ?_ | refine gd (enters_of Tryz.func13 rfl rfl) hcnt ?_ | refine oB ?_ | refine And.intro rfl ?_ | refine lQ ?_ | refine nA _ rfl ?_)))
          exact ⟨(f, a + m, out ++ [putM s a ⟨kd, tx, nm, a0, (m : Int), ln⟩]), ⟨ham, hfm, by simpa using hom, hr⟩, hmu, (by dsimp only; rw [map_tok, hTok]; exact fiE), (by dsimp only; rw [map_tok, hTok]; exact fiO)⟩
      · rw [if_pos he] at hr
        injection hr with q1 q2
        exact absurd q2 he
  · obtain rfl : a = s.length := by omega
    rw [if_pos (Nat.le_refl _)] at hr
    injection hr with q1 q2
    subst q1
    (repeat ((conv => whnf); (first | refine exR ?_ | refine tF ?_)))
    exact ⟨eN, rS, fiO⟩
end Go.Proofs.YtngklbnodknadaaGreatDoor
end

section
namespace Go.Proofs.YtngklbnodknadaaGreatDoor

theorem runN_app {p : UInt8 → Bool} (hp : p 10 = false) (v : List UInt8) : ∀ u : List UInt8, runN p (u ++ 10 :: v) = runN p u
  | [] => by
    show runN p (10 :: v) = 0
    unfold runN
    rw [hp]; rfl
  | c :: u => by rw [List.cons_append, runN, runN, runN_app hp v u]
theorem quoL_app (w : List UInt8) : ∀ (n : Nat) (l b : List UInt8) (k : Nat), l.length ≤ n → (quoL l b k).2 = 0 → quoL (l ++ w) b k = quoL l b k
  | n, [], b, k, _, h => by rw [quoL_nil] at h; cases h
  | 0, c :: l, b, k, hn, _ => by simp at hn
  | n + 1, c :: l, b, k, hn, h => by
    rw [List.length_cons] at hn
    rw [List.cons_append, quoL_cons, quoL_cons]
    rw [quoL_cons] at h
    split at h
    · next h34 => rw [if_pos h34, if_pos h34]
    · next h34 =>
      rw [if_neg h34, if_neg h34]
      split at h
      · cases h
      · next h32 =>
        rw [if_neg h32, if_neg h32]
        split at h
        · next h92 =>
          rw [if_pos h92, if_pos h92]
          cases l with
          | nil => cases h
          | cons x l' =>
            rw [List.cons_append]
            dsimp only at h ⊢
            cases he : escM x with
            | none => rfl
            | some y =>
              rw [he] at h
              exact quoL_app w n l' (b ++ [y]) (k + 2) (by rw [List.length_cons] at hn; omega) h
        · next h92 =>
          rw [if_neg h92, if_neg h92]
          exact quoL_app w n l (b ++ [c]) (k + 1) (by omega) h
theorem isFl_app (u v : List UInt8) : isFl (u ++ 10 :: v) = isFl u := by
  have hr : runN isDgB (u ++ 10 :: v) = runN isDgB u := runN_app (by decide) v u
  have hle := runN_le isDgB u
  by_cases h : runN isDgB u + 1 < u.length
  · have g0 : u[runN isDgB u]? = some u[runN isDgB u] := List.getElem?_eq_getElem (by omega)
    have g1 : u[runN isDgB u + 1]? = some u[runN isDgB u + 1] := List.getElem?_eq_getElem h
    rw [isFl_in g0 g1, isFl_in (s := u ++ 10 :: v) (c0 := u[runN isDgB u]) (c1 := u[runN isDgB u + 1])]
    · rw [hr, List.getElem?_append_left (by omega)]; exact g0
    · rw [hr, List.getElem?_append_left (by omega)]; exact g1
  · rw [isFl_out h]
    by_cases h2 : runN isDgB u + 1 < (u ++ 10 :: v).length
    · have q0 : (u ++ 10 :: v)[runN isDgB u]? = some (u ++ 10 :: v)[runN isDgB u] := List.getElem?_eq_getElem (by omega)
      have q1 : (u ++ 10 :: v)[runN isDgB u + 1]? = some (u ++ 10 :: v)[runN isDgB u + 1] := List.getElem?_eq_getElem h2
      rw [isFl_in (by rw [hr]; exact q0) (by rw [hr]; exact q1)]
      rcases Nat.lt_or_ge (runN isDgB u) u.length with h3 | h3
      · have e : (u ++ 10 :: v)[runN isDgB u + 1]? = some 10 := by
          rw [List.getElem?_append_right (by omega), show runN isDgB u + 1 - u.length = 0 by omega]; rfl
        rw [q1] at e
        rw [Option.some.inj e, show isDgB 10 = false by decide, Bool.and_false]
      · have e : (u ++ 10 :: v)[runN isDgB u]? = some 10 := by
          rw [List.getElem?_append_right h3, show runN isDgB u - u.length = 0 by omega]; rfl
        rw [q0] at e
        rw [Option.some.inj e, show decide ((10 : UInt8) = 46) = false by decide, Bool.false_and]
    · exact isFl_out (by rw [hr]; exact h2)
theorem toN_app (u v : List UInt8) : toN (u ++ 10 :: v) = toN u := by
  have hr : runN isDgB (u ++ 10 :: v) = runN isDgB u := runN_app (by decide) v u
  cases hf : isFl u with
  | false => rw [toN_no (by rw [isFl_app, hf]), toN_no hf, hr]
  | true =>
    have hlt : runN isDgB u + 1 < u.length := Classical.byContradiction fun q => by rw [isFl_out q] at hf; cases hf
    rw [toN_yes (by rw [isFl_app, hf]), toN_yes hf, hr, List.drop_append_of_le_length (by omega), runN_app (by decide)]
theorem numM_app (pf : List UInt8 → Nat) (u v : List UInt8) : numM pf (u ++ 10 :: v) = numM pf u := by
  have hle := toN_le u
  have hlet : letAt (u ++ 10 :: v)[toN u]? = letAt u[toN u]? := by
    rcases Nat.lt_or_ge (toN u) u.length with h | h
    · rw [List.getElem?_append_left h]
    · rw [List.getElem?_append_right h, show toN u - u.length = 0 by omega, List.getElem?_eq_none h]
      show isLet 10 = false
      decide
  unfold numM
  rw [isFl_app, toN_app, hlet, List.take_append_of_le_length hle]
theorem pre_app (v : List UInt8) : ∀ (x u : List UInt8), 10 ∉ x → Lib.hasPrefix (u ++ 10 :: v) x = Lib.hasPrefix u x
  | [], u, _ => by cases u <;> rfl
  | c :: x, [], h => by
    have h1 : c ≠ 10 := fun e => h (by rw [e]; exact List.mem_cons_self)
    show (c == 10 && x.isPrefixOf v) = false
    rw [show (c == 10) = false by simpa using h1]; rfl
  | c :: x, d :: u, h => by
    show (c == d && x.isPrefixOf (u ++ 10 :: v)) = (c == d && x.isPrefixOf u)
    rw [show x.isPrefixOf (u ++ 10 :: v) = x.isPrefixOf u from pre_app v x u fun hm => h (List.mem_cons_of_mem _ hm)]
theorem marks_no10 : ∀ x ∈ marksL, 10 ∉ x := by decide +kernel
theorem find_congr {α : Type} {p q : α → Bool} : ∀ {l : List α}, (∀ x ∈ l, p x = q x) → l.find? p = l.find? q
  | [], _ => rfl
  | a :: l, h => by rw [List.find?_cons, List.find?_cons, h a (by simp), find_congr fun x hx => h x (by simp [hx])]
/-- A byte 10 behind a token is no part of it. -/
theorem oneM_app (pf : List UInt8 → Nat) {u : List UInt8} (v : List UInt8) (h : (oneM pf u).2 = 0) : oneM pf (u ++ 10 :: v) = oneM pf u := by
  cases u with
  | nil => cases h
  | cons c l =>
    have ec : ∀ l : List UInt8, oneM pf (c :: l) = if isLet c = true then (if 40 < runN isSig (c :: l) then (tok0, 2) else if (c :: l).take (runN isSig (c :: l)) ∈ wordsL then (⟨1, [], 0, 0, (runN isSig (c :: l) : Nat), 0⟩, 0) else (⟨2, [], 0, 0, (runN isSig (c :: l) : Nat), 0⟩, 0)) else if isDgB c = true then numM pf (c :: l) else if c = 34 then quoM (c :: l) else markM (c :: l) := fun l => rfl
    have hr : runN isSig (c :: (l ++ 10 :: v)) = runN isSig (c :: l) := runN_app (by decide) v (c :: l)
    have ht : (c :: (l ++ 10 :: v)).take (runN isSig (c :: l)) = (c :: l).take (runN isSig (c :: l)) := List.take_append_of_le_length (l₁ := c :: l) (runN_le isSig (c :: l))
    have hn : numM pf (c :: (l ++ 10 :: v)) = numM pf (c :: l) := numM_app pf (c :: l) v
    rw [List.cons_append, ec, ec, hr, ht, hn]
    rw [ec] at h
    by_cases h1 : isLet c = true
    · rw [if_pos h1, if_pos h1]
    · rw [if_neg h1] at h
      rw [if_neg h1, if_neg h1]
      by_cases h2 : isDgB c = true
      · rw [if_pos h2, if_pos h2]
      · rw [if_neg h2] at h
        rw [if_neg h2, if_neg h2]
        by_cases h3 : c = 34
        · rw [if_pos h3] at h
          rw [if_pos h3, if_pos h3]
          exact quoL_app (10 :: v) _ l [] 1 (Nat.le_refl _) h
        · rw [if_neg h3, if_neg h3]
          unfold markM
          rw [show (marksL.find? fun m => Lib.hasPrefix (c :: (l ++ 10 :: v)) m) = marksL.find? fun m => Lib.hasPrefix (c :: l) m from find_congr fun x hx => pre_app v x (c :: l) (marks_no10 x hx)]
/-- A token, n bytes and k lines further on. -/
def shT (n : Nat) (k : Int) (x : Tok) : Tok := ⟨x.kind, x.text, x.num, x.at' + n, x.to + n, x.line + k⟩
section
variable {pf : List UInt8 → Nat} {s t : List UInt8}
theorem lx_app {r : List Tok} (hr : Lx pf (s ++ 10 :: t) s.length r) : ∀ {a : Nat} {l : List Tok}, Lx pf s a l → a ≤ s.length → Lx pf (s ++ 10 :: t) a (l ++ r) := by
  intro a l h
  induction h with
  | nil h => intro ha; obtain rfl : _ = s.length := Nat.le_antisymm ha h; exact hr
  | bl hc hb h ih =>
    intro ha
    have hlt := (List.getElem?_eq_some_iff.1 hc).1
    exact .bl (by rw [List.getElem?_append_left hlt]; exact hc) hb (ih hlt)
  | @rem a l hc h ih =>
    intro ha
    have hlt := (List.getElem?_eq_some_iff.1 hc).1
    have hle := runN_le notNl (s.drop a)
    rw [List.length_drop] at hle
    refine .rem (by rw [List.getElem?_append_left hlt]; exact hc) ?_
    rw [List.drop_append_of_le_length ha, runN_app (by decide)]
    exact ih (by omega)
  | @tok a l c hc hb h35 ho h ih =>
    intro ha
    have hlt := (List.getElem?_eq_some_iff.1 hc).1
    have hd : (s ++ 10 :: t).drop a = s.drop a ++ 10 :: t := List.drop_append_of_le_length ha
    have ha2 := oneM_app pf t ho
    obtain ⟨m, e1, m1, m2⟩ := oneM_to pf ho
    rw [List.length_drop] at m2
    have hput : putM (s ++ 10 :: t) a (oneM pf ((s ++ 10 :: t).drop a)).1 = putM s a (oneM pf (s.drop a)).1 := by
      rw [hd, ha2]
      unfold putM
      rw [hd, e1, Int.toNat_natCast, List.take_append_of_le_length (by rw [List.length_drop]; omega), List.take_append_of_le_length ha]
    rw [List.cons_append, ← hput]
    refine .tok (by rw [List.getElem?_append_left hlt]; exact hc) hb h35 (by rw [hd, ha2]; exact ho) ?_
    rw [hd, ha2]
    exact ih (by rw [e1, Int.toNat_natCast]; omega)
theorem lx_shift : ∀ {b : Nat} {l : List Tok}, Lx pf t b l → Lx pf (s ++ 10 :: t) (s.length + 1 + b) (l.map (shT (s.length + 1) (1 + (s.count 10 : Nat)))) := by
  have hdr : ∀ b, (s ++ 10 :: t).drop (s.length + 1 + b) = t.drop b := fun b => by
    rw [List.drop_append, List.drop_of_length_le (by omega), List.nil_append, show s.length + 1 + b - s.length = b + 1 by omega, List.drop_succ_cons]
  have hge : ∀ b, (s ++ 10 :: t)[s.length + 1 + b]? = t[b]? := fun b => by
    rw [List.getElem?_append_right (by omega), show s.length + 1 + b - s.length = b + 1 by omega, List.getElem?_cons_succ]
  have htk : ∀ b, ((s ++ 10 :: t).take (s.length + 1 + b)).count 10 = s.count 10 + 1 + (t.take b).count 10 := fun b => by
    rw [List.take_append, List.take_of_length_le (by omega), show s.length + 1 + b - s.length = b + 1 by omega, List.take_succ_cons, List.count_append, List.count_cons_self]
    omega
  intro b l h
  induction h with
  | nil h => exact .nil (by rw [List.length_append, List.length_cons]; omega)
  | bl hc hb h ih => exact .bl (by rw [hge]; exact hc) hb ih
  | rem hc h ih => exact .rem (by rw [hge]; exact hc) (by rw [hdr, Nat.add_assoc]; exact ih)
  | @tok b l c hc hb h35 ho h ih =>
    have hput : putM (s ++ 10 :: t) (s.length + 1 + b) (oneM pf ((s ++ 10 :: t).drop (s.length + 1 + b))).1 = shT (s.length + 1) (1 + (s.count 10 : Nat)) (putM t b (oneM pf (t.drop b)).1) := by
      rw [hdr]
      unfold putM shT
      rw [hdr, htk]
      simp only [Int.natCast_add, Tok.mk.injEq, true_and]
      refine ⟨by omega, by omega, by omega⟩
    rw [List.map_cons, ← hput]
    exact .tok (by rw [hge]; exact hc) hb h35 (by rw [hdr]; exact ho) (by rw [hdr, Nat.add_assoc]; exact ih)
/-- Two texts, one behind the other, have the tokens of both. -/
theorem lx_both {l r : List Tok} (h1 : Lx pf s 0 l) (h2 : Lx pf t 0 r) : Lx pf (s ++ 10 :: t) 0 (l ++ r.map (shT (s.length + 1) (1 + (s.count 10 : Nat)))) :=
  lx_app (.bl (c := 10) (by rw [List.getElem?_append_right (Nat.le_refl _), Nat.sub_self]; rfl) (by decide) (lx_shift h2)) h1 (Nat.zero_le _)
end
end Go.Proofs.YtngklbnodknadaaGreatDoor
end

section
namespace Go.Proofs.YtngklbnodknadaaGreatDoor
open Go.RowKit

set_option maxRecDepth 100000 in
theorem same_fn (l : List Tok) : FnD Tryz.prog 9 [.d (.sl 6 (l.map tokD)), .d (.sl 6 (l.map tokD))] (boolT true) := by
  have hL : (l.map tokD).length = l.length := List.length_map _
  have hb : (((l.map tokD).length : Int) != ((l.map tokD).length : Int)) = false := by simp
  refine FnD.of1 (n := 26) [] fax_ok Tryz.func9 rfl rfl rfl (by rfl) (by kernel_rfl) (by intro _; rfl) fun Γ hA hbA => ?_
  (repeat ((conv => whnf); (first | refine exR ?_ | refine tF ?_)))
  refine ev_loop [] fax_ok hA (by kernel_rfl) (fun i : Nat => i ≤ l.length) (fun i => [(0, .d (.sl 6 (l.map tokD))), (1, .d (.sl 6 (l.map tokD))), (5, intT i)]) (fun _ => []) (fun i => l.length - i) 0 (Nat.zero_le _) fiE fiO ?_
  rintro i hi hb0 -
  have hlen : (l.map tokD).length ≤ 9223372036854775807 := hb0.1
  by_cases h : i < l.length
  · have hx : (l.map tokD)[i]? = some (tokD l[i]) := by rw [List.getElem?_map, List.getElem?_eq_getElem h, Option.map_some]
    generalize l[i] = x at *
    obtain ⟨kd, tx, nm, a0, tz, ln⟩ := x
    unfold tokD at hx
    dsimp only at hx
    have hc := tok_ne kd nm a0 tz ln tx
    (repeat ((conv => whnf); (first | with_reducible refine exE _ (w_inc (by omega)) ?_ | refine exR ?_ | refine tT ?_ | refine tF ?_ | refine oB ?_ | refine And.intro rfl ?_ | refine exBR _ (by assumption) ?_ | refine exI _ rfl (by assumption) ?_)))
    exact ⟨i + 1, by omega, by omega, fiE, fiO⟩
  · obtain rfl : i = l.length := by omega
    (repeat ((conv => whnf); (first | refine exR ?_ | refine tF ?_)))
    exact ⟨eN, rS, fiO⟩
theorem both_ok {pf : List UInt8 → Nat} {s t : List UInt8} {l r : List Tok} (h1 : tokM pf s = (l, 0)) (h2 : tokM pf t = (r, 0)) (h3 : s.length + t.length < 2000) (h4 : l.length + r.length ≤ 800) : tokM pf (s ++ [10] ++ t) = (l ++ r.map (shT (s.length + 1) (1 + (s.count 10 : Nat))), 0) := by
  rw [List.append_assoc]
  refine tokM_lx.2 ⟨by simp; omega, by simp; omega, ?_⟩
  exact lx_both (tokM_lx.1 h1).2.2 (tokM_lx.1 h2).2.2
theorem both_large {pf : List UInt8 → Nat} {s t : List UInt8} {l r : List Tok} (h1 : tokM pf s = (l, 0)) (h2 : tokM pf t = (r, 0)) (h3 : 2000 ≤ s.length + t.length ∨ 800 < l.length + r.length) : tokM pf (s ++ [10] ++ t) = ([], 2) := by
  rw [List.append_assoc]
  have hx := lx_both (tokM_lx.1 h1).2.2 (tokM_lx.1 h2).2.2
  have hT := tokL_lx ((s ++ 10 :: t).length + 1) 0 [] _ (by omega) hx
  have hl : (s ++ [10] ++ t).length = s.length + t.length + 1 := by simp; omega
  unfold tokM
  by_cases h5 : 2000 < (s ++ ([10] ++ t)).length
  · rw [if_pos h5]
  · rw [if_neg h5]
    rw [show s ++ ([10] ++ t) = s ++ 10 :: t from rfl] at h5 ⊢
    rw [hT, List.nil_append, if_neg (by simp), if_pos]
    have h6 : (s ++ 10 :: t).length = s.length + t.length + 1 := by simp; omega
    show 800 < (l ++ r.map _).length
    rw [List.length_append, List.length_map]
    omega
end Go.Proofs.YtngklbnodknadaaGreatDoor
end

section
namespace Go.Proofs.YtngklbnodknadaaGreatDoor
open Go.RowKit

theorem cnt_step {s : List UInt8} {i : Nat} {c : UInt8} (h : s[i]? = some c) : (s.take (i + 1)).count 10 = (s.take i).count 10 + if c = 10 then 1 else 0 := by
  rw [List.take_add_one, h, Option.toList_some, List.count_append, List.count_singleton]
  by_cases hc : c = 10
  · subst hc; rfl
  · rw [if_neg hc, if_neg (by simpa using hc)]
theorem map_take {r : List Tok} {i : Nat} {x : Tok} (f : Tok → Tok) (l : List Tok) (h : r[i]? = some x) : (l ++ (r.take (i + 1)).map f).map tokD = (l ++ (r.take i).map f).map tokD ++ [tokD (f x)] := by
  rw [List.take_add_one, h, Option.toList_some]
  simp
set_option maxRecDepth 100000 in
set_option maxHeartbeats 20000000 in
theorem both_fn (s t : List UInt8) : FnD Tryz.prog 5 [strT s, strT t] (boolT true) := by
  have hbg := begun_fn
  have h1 := tokens_fn s
  have h2 := tokens_fn t
  have ls := tokM_len pfM s
  have lt := tokM_len pfM t
  have ho1 := tokens_own s
  cases e1 : tokM pfM s with
  | mk l e =>
  cases e2 : tokM pfM t with
  | mk r f =>
  rw [e1] at h1 ls
  rw [e2] at h2 lt
  unfold toksT at h1 h2
  dsimp only at h1 h2 ls lt
  by_cases he : e = 0
  · subst he
    have ho := ho1 l e1
    by_cases hf : f = 0
    · subst hf
      have ls := ls rfl
      have lt := lt rfl
      clear h1 ho1
      have hLl : (l.map tokD).length = l.length := List.length_map _
      have hLr : (r.map tokD).length = r.length := List.length_map _
      have hl8 := (tokM_lx.1 e1).2.1
      have hr8 := (tokM_lx.1 e2).2.1
      have h3 := tokens_fn (s ++ [10] ++ t)
      by_cases hbig : 2000 ≤ s.length + t.length ∨ 800 < l.length + r.length
      · rw [both_large e1 e2 hbig] at h3
        unfold toksT at h3
        dsimp only [List.map_nil] at h3
        by_cases hb1 : 2000 ≤ s.length + t.length
        · refine FnD.of1 (n := 116) [19] fax_ok Tryz.func5 rfl rfl rfl (by rfl) (by kernel_rfl) (by intro _; rfl) fun Γ hA hbA => ?_
          (repeat ((conv => whnf); (first | with_reducible refine exE _ (wrap_in (by omega) (by omega)) ?_ | refine exR ?_ | refine gd (enters_of Tryz.func7 rfl rfl) hbg ?_ | refine gO [(4, 19)] (enters_of Tryz.func8 rfl rfl) ho ?_ | refine gd (enters_of Tryz.func8 rfl rfl) h2 ?_ | refine gd (enters_of Tryz.func8 rfl rfl) h3 ?_ | refine tT ?_ | refine tF ?_ | refine uT ?_ | refine uF ?_ | refine lQ ?_)))
          exact ⟨eN, rS, fiO⟩
        · have hb2 : 800 < (l.map tokD).length + (r.map tokD).length := by omega
          refine FnD.of1 (n := 116) [19] fax_ok Tryz.func5 rfl rfl rfl (by rfl) (by kernel_rfl) (by intro _; rfl) fun Γ hA hbA => ?_
          (repeat ((conv => whnf); (first | with_reducible refine exE _ (wrap_in (by omega) (by omega)) ?_ | refine exR ?_ | refine gd (enters_of Tryz.func7 rfl rfl) hbg ?_ | refine gO [(4, 19)] (enters_of Tryz.func8 rfl rfl) ho ?_ | refine gd (enters_of Tryz.func8 rfl rfl) h2 ?_ | refine gd (enters_of Tryz.func8 rfl rfl) h3 ?_ | refine tT ?_ | refine tF ?_ | refine uT ?_ | refine lQ ?_)))
          exact ⟨eN, rS, fiO⟩
      · rw [both_ok e1 e2 (by omega) (by omega)] at h3
        unfold toksT at h3
        dsimp only at h3
        have hsame := same_fn (l ++ r.map (shT (s.length + 1) (1 + (s.count 10 : Nat))))
        have hb1 : ¬ 2000 ≤ s.length + t.length := by omega
        have hb2 : ¬ 800 < (l.map tokD).length + (r.map tokD).length := by omega
        have hdone : (l ++ (r.take r.length).map (shT (s.length + 1) (1 + (s.count 10 : Nat)))) = l ++ r.map (shT (s.length + 1) (1 + (s.count 10 : Nat))) := by rw [List.take_length]
        generalize hA9 : (l ++ r.map (shT (s.length + 1) (1 + (s.count 10 : Nat)))).map tokD = A9 at h3 hsame
        have hcs : s.count 10 ≤ 2000 := Nat.le_trans List.count_le_length ls
        have hbx : ∀ x ∈ r, 0 ≤ x.at' ∧ x.at' ≤ 2000 ∧ 0 ≤ x.to ∧ x.to ≤ 2000 ∧ 0 ≤ x.line ∧ x.line ≤ 2001 := by
          intro x hx
          have hq := tokM_all pfM t (fun x => 0 ≤ x.at' ∧ x.at' ≤ 2000 ∧ 0 ≤ x.to ∧ x.to ≤ 2000 ∧ 0 ≤ x.line ∧ x.line ≤ 2001) (fun a ha _ ho => by
            obtain ⟨m, q1, q2, q3⟩ := oneM_to pfM ho
            rw [List.length_drop] at q3
            have hcc : (t.take a).count 10 ≤ 2000 := Nat.le_trans List.count_le_length (by rw [List.length_take]; omega)
            unfold putM
            dsimp only
            rw [q1]
            omega) x (by rw [e2]; exact hx)
          exact hq
        clear e1 e2
        refine FnD.of1 (n := 116) [19] fax_ok Tryz.func5 rfl rfl rfl (by rfl) (by kernel_rfl) (by intro _; rfl) fun Γ hA hbA => ?_
        (repeat ((conv => whnf); (first | with_reducible refine exE _ (wrap_in (by omega) (by omega)) ?_ | refine exR ?_ | refine gd (enters_of Tryz.func7 rfl rfl) hbg ?_ | refine gO [(4, 19)] (enters_of Tryz.func8 rfl rfl) ho ?_ | refine gd (enters_of Tryz.func8 rfl rfl) h2 ?_ | refine gd (enters_of Tryz.func8 rfl rfl) h3 ?_ | refine tF ?_ | refine uT ?_ | refine lQ ?_)))
        refine ev_loopX [] fax_ok hA (by kernel_rfl) (fun i : Nat => i ≤ s.length) (fun i => [(0, strT s), (5, .own 6 (l.map tokD) 19), (7, .d (.sl 6 (r.map tokD))), (9, .d (.sl 6 A9)), (10, intT 0), (11, intT (1 + ((s.take i).count 10 : Nat))), (12, intT i)]) (fun _ => [(19, .row 28 6 (l.map tokD))]) (fun i => s.length - i) 0 (fun i => i = s.length) (fun i => [(0, strT s), (5, .own 6 (l.map tokD) 19), (7, .d (.sl 6 (r.map tokD))), (9, .d (.sl 6 A9)), (10, intT 0), (11, intT (1 + ((s.take i).count 10 : Nat)))]) (fun _ => [(19, .row 28 6 (l.map tokD))]) 0 (Nat.zero_le _) fiE fiO ?_ ?_
        · rintro i hi - hbO2
          by_cases h : i < s.length
          · obtain ⟨c, hg⟩ := get_ex h
            have hc := cnt_step hg
            have h10 : ((c.toNat : Int) == 10) = decide (c = 10) := eqB c 10
            have hcl : (s.take i).count 10 ≤ 2000 := Nat.le_trans List.count_le_length (by rw [List.length_take]; omega)
            generalize (s.take i).count 10 = n at *
            by_cases hc10 : c = 10
            · rw [decide_eq_true hc10] at h10
              rw [if_pos hc10] at hc
              have hw : IntKind.i64.wrap (1 + (n : Int) + 1) = 1 + ((n + 1 : Nat) : Int) := by rw [show 1 + (n : Int) + 1 = 1 + ((n + 1 : Nat) : Int) by omega]; exact wrap_in (by omega) (by omega)
              (repeat ((conv => whnf); (first | with_reducible refine exE (α := Int) _ (by assumption) ?_ | with_reducible refine exE _ (w_inc (by omega)) ?_ | refine exR ?_ | refine tT ?_ | refine exB _ rfl (by assumption) ?_)))
              exact ⟨i + 1, by omega, by omega, (by rw [hc]; exact fiE), fiO⟩
            · rw [decide_eq_false hc10] at h10
              rw [if_neg hc10, Nat.add_zero] at hc
              (repeat ((conv => whnf); (first | with_reducible refine exE _ (w_inc (by omega)) ?_ | refine exR ?_ | refine tT ?_ | refine tF ?_ | refine exB _ rfl (by assumption) ?_)))
              exact ⟨i + 1, by omega, by omega, (by rw [hc]; exact fiE), fiO⟩
          · (repeat ((conv => whnf); (first | refine exR ?_ | refine tF ?_ | refine And.intro rfl ?_)))
            exact ⟨i, hi, by omega, fiE, fiO⟩
        · rintro i hi hi2
          subst hi2
          have hts : s.take s.length = s := List.take_length
          rw [hts]
          generalize s.count 10 = n at *
          have hz : (l ++ (r.take 0).map (shT (s.length + 1) (1 + (n : Nat)))).map tokD = l.map tokD := by rw [List.take_zero, List.map_nil, List.append_nil]
          skip
          refine ev_loopX [] fax_ok hA (by kernel_rfl) (fun i : Nat => i ≤ r.length) (fun i => [(0, strT s), (5, .own 6 ((l ++ (r.take i).map (shT (s.length + 1) (1 + (n : Nat)))).map tokD) 19), (7, .d (.sl 6 (r.map tokD))), (9, .d (.sl 6 A9)), (10, intT 0), (11, intT (1 + (n : Nat))), (13, intT i)]) (fun i => [(19, .row 28 6 ((l ++ (r.take i).map (shT (s.length + 1) (1 + (n : Nat)))).map tokD))]) (fun i => r.length - i) 2 (fun i => i = r.length) (fun i => [(0, strT s), (5, .own 6 ((l ++ (r.take i).map (shT (s.length + 1) (1 + (n : Nat)))).map tokD) 19), (7, .d (.sl 6 (r.map tokD))), (9, .d (.sl 6 A9)), (10, intT 0)]) (fun i => [(19, .row 28 6 ((l ++ (r.take i).map (shT (s.length + 1) (1 + (n : Nat)))).map tokD))]) 0 (Nat.zero_le _) (by rw [hz]; exact fiE) (by rw [hz]; exact fiO) ?_ ?_
          · rintro i hi - hbO2
            by_cases h : i < r.length
            · have hx : (r.map tokD)[i]? = some (tokD r[i]) := by rw [List.getElem?_map, List.getElem?_eq_getElem h, Option.map_some]
              have hm := map_take (shT (s.length + 1) (1 + (n : Nat))) l (List.getElem?_eq_getElem h)
              have hq := hbx r[i] (List.getElem_mem h)
              clear hbx
              generalize r[i] = x at *
              obtain ⟨kd, tx, nm, a0, tz, ln⟩ := x
              dsimp only at hq
              obtain ⟨q1, q2, q3, q4, q5, q6⟩ := hq
              have hsh : tokD (shT (s.length + 1) (1 + (n : Nat)) ⟨kd, tx, nm, a0, tz, ln⟩) = .agg [.v (.int .i64 kd), .v (.string ⟨⟨tx⟩⟩), .v (.int .i64 nm), .v (.int .i64 (a0 + ((s.length + 1 : Nat) : Int))), .v (.int .i64 (tz + ((s.length + 1 : Nat) : Int))), .v (.int .i64 (ln + (1 + (n : Int))))] := rfl
              rw [hsh] at hm
              replace hx : (r.map tokD)[i]? = some (.agg [.v (.int .i64 kd), .v (.string ⟨⟨tx⟩⟩), .v (.int .i64 nm), .v (.int .i64 a0), .v (.int .i64 tz), .v (.int .i64 ln)]) := hx
              have hw1 : IntKind.i64.wrap (a0 + (s.length : Int)) = a0 + (s.length : Int) := wrap_in (by omega) (by omega)
              have hw2 : IntKind.i64.wrap (a0 + (s.length : Int) + 1) = a0 + ((s.length + 1 : Nat) : Int) := by rw [show a0 + (s.length : Int) + 1 = a0 + ((s.length + 1 : Nat) : Int) by omega]; exact wrap_in (by omega) (by omega)
              have hw3 : IntKind.i64.wrap (tz + (s.length : Int)) = tz + (s.length : Int) := wrap_in (by omega) (by omega)
              have hw4 : IntKind.i64.wrap (tz + (s.length : Int) + 1) = tz + ((s.length + 1 : Nat) : Int) := by rw [show tz + (s.length : Int) + 1 = tz + ((s.length + 1 : Nat) : Int) by omega]; exact wrap_in (by omega) (by omega)
              have hw5 : IntKind.i64.wrap (ln + (1 + (n : Int))) = ln + (1 + (n : Int)) := wrap_in (by omega) (by omega)
              have hB : (((l ++ (r.take i).map (shT (s.length + 1) (1 + (n : Nat)))).map tokD)).length ≤ 800 := by simp only [List.length_map, List.length_append, List.length_take]; omega
              have hiw : IntKind.i64.wrap ((i : Int) + 1) = ((i + 1 : Nat) : Int) := i_nat (by omega) (by omega)
              generalize ((l ++ (r.take i).map (shT (s.length + 1) (1 + (n : Nat)))).map tokD) = B at *
              generalize ((s.length + 1 : Nat) : Int) = s1 at hw2 hw4 hm
              (repeat ((conv => whnf); (first | with_reducible refine exE (α := Int) _ (by assumption) ?_ | refine exR ?_ | refine tT ?_ | refine And.intro rfl ?_ | refine lQ ?_ | refine exI _ rfl (by assumption) ?_)))
              exact ⟨i + 1, by omega, by omega, (by rw [hm]; exact fiE), (by rw [hm]; exact fiO)⟩
            · (repeat ((conv => whnf); (first | refine exR ?_ | refine tF ?_ | refine And.intro rfl ?_)))
              exact ⟨i, hi, by omega, fiE, fiO⟩
          · rintro i hi hi2
            subst hi2
            rw [hdone, hA9]
            (repeat ((conv => whnf); (first | refine exR ?_ | refine gd (enters_of Tryz.func7 rfl rfl) hbg ?_ | refine gd (enters_of Tryz.func9 rfl rfl) hsame ?_ | refine tT ?_)))
            exact ⟨eN, rS, fiO⟩
    · have hne : (f != 0) = true := by simp [hf]
      refine FnD.of1 (n := 116) [] fax_ok Tryz.func5 rfl rfl rfl (by rfl) (by kernel_rfl) (by intro _; rfl) fun Γ hA hbA => ?_
      (repeat ((conv => whnf); (first | refine exR ?_ | refine gd (enters_of Tryz.func7 rfl rfl) hbg ?_ | refine gd (enters_of Tryz.func8 rfl rfl) h1 ?_ | refine gd (enters_of Tryz.func8 rfl rfl) h2 ?_ | refine tT ?_ | refine tF ?_ | refine uT ?_)))
      exact ⟨eN, rS, fiO⟩
  · have hne : (e != 0) = true := by simp [he]
    refine FnD.of1 (n := 116) [] fax_ok Tryz.func5 rfl rfl rfl (by rfl) (by kernel_rfl) (by intro _; rfl) fun Γ hA hbA => ?_
    (repeat ((conv => whnf); (first | refine exR ?_ | refine gd (enters_of Tryz.func7 rfl rfl) hbg ?_ | refine gd (enters_of Tryz.func8 rfl rfl) h1 ?_ | refine gd (enters_of Tryz.func8 rfl rfl) h2 ?_ | refine tT ?_ | refine tF ?_ | refine uF ?_)))
    exact ⟨eN, rS, fiO⟩
end Go.Proofs.YtngklbnodknadaaGreatDoor
end

section
namespace Go.Proofs.YtngklbnodknadaaGreatDoor

theorem run_no {p : UInt8 → Bool} (hp : p 10 = false) : ∀ l : List UInt8, (10 : UInt8) ∉ l.take (runN p l)
  | [] => by simp
  | c :: l => by
    rw [runN]
    split
    · next hc =>
      rw [List.take_succ_cons, List.mem_cons]
      rintro (h | h)
      · rw [← h, hp] at hc; cases hc
      · exact run_no hp l h
    · simp
theorem esc_no {x y : UInt8} (h : escM x = some y) : (10 : UInt8) ≠ x := by
  rintro rfl
  cases h
theorem quo_no : ∀ (n : Nat) (l b : List UInt8) (k m : Nat), l.length ≤ n → (quoL l b k).2 = 0 → (quoL l b k).1.to = (m : Int) → (10 : UInt8) ∉ l.take (m - k)
  | n, [], b, k, m, _, h, _ => by rw [List.take_nil]; simp
  | 0, c :: l, b, k, m, hn, _, _ => by simp at hn
  | n + 1, c :: l, b, k, m, hn, h, ht => by
    rw [List.length_cons] at hn
    have hm : k + 1 ≤ m := by
      obtain ⟨m', e1, e2, -⟩ := quoL_to _ (c :: l) b k (Nat.le_refl _) h
      omega
    obtain ⟨j, hj⟩ : ∃ j, m - k = j + 1 := ⟨m - k - 1, by omega⟩
    rw [hj, List.take_succ_cons, List.mem_cons]
    rw [quoL_cons] at h ht
    split at h
    · next h34 =>
      rw [if_pos h34] at ht
      have ht : ((k + 1 : Nat) : Int) = (m : Int) := ht
      obtain rfl : j = 0 := by omega
      subst h34
      rintro (h | h)
      · cases h
      · simp at h
    · next h34 =>
      rw [if_neg h34] at ht
      split at h
      · cases h
      · next h32 =>
        rw [if_neg h32] at ht
        have hc : (10 : UInt8) ≠ c := by rintro rfl; exact h32 (by decide)
        split at h
        · next h92 =>
          rw [if_pos h92] at ht
          cases l with
          | nil => cases h
          | cons x l' =>
            dsimp only at h ht
            cases he : escM x with
            | none => rw [he] at h; cases h
            | some y =>
              rw [he] at h ht
              dsimp only at h ht
              obtain ⟨m', e1, e2, -⟩ := quoL_to _ l' (b ++ [y]) (k + 2) (Nat.le_refl _) h
              obtain ⟨i, rfl⟩ : ∃ i, j = i + 1 := ⟨j - 1, by omega⟩
              have ih := quo_no n l' (b ++ [y]) (k + 2) m (by rw [List.length_cons] at hn; omega) h ht
              rw [show m - (k + 2) = i by omega] at ih
              rw [List.take_succ_cons, List.mem_cons]
              rintro (h | h | h)
              · exact hc h
              · exact esc_no he h
              · exact ih h
        · next h92 =>
          rw [if_neg h92] at ht
          have ih := quo_no n l (b ++ [c]) (k + 1) m (by omega) h ht
          rw [show m - (k + 1) = j by omega] at ih
          rintro (h | h)
          · exact hc h
          · exact ih h
theorem toN_nl (s : List UInt8) : (10 : UInt8) ∉ s.take (toN s) := by
  have h1 := run_no (p := isDgB) (by decide) s
  cases hf : isFl s with
  | false => rw [toN_no hf]; exact h1
  | true =>
    rw [toN_yes hf, List.take_add, List.mem_append]
    rintro (h | h)
    · rw [List.take_add, List.mem_append] at h
      rcases h with h | h
      · exact h1 h
      · unfold isFl at hf
        generalize s.drop (runN isDgB s) = d at hf h
        split at hf
        · simp at h
        · cases hf
    · exact run_no (p := isDgB) (by decide) _ h
theorem marks_no : ∀ m ∈ marksL, (10 : UInt8) ∉ m := by decide +kernel
theorem one_no (pf : List UInt8 → Nat) {s : List UInt8} {m : Nat} (h : (oneM pf s).2 = 0) (hm : (oneM pf s).1.to = (m : Int)) : (10 : UInt8) ∉ s.take m := by
  cases s with
  | nil => cases h
  | cons c l =>
    have ec : oneM pf (c :: l) = if isLet c = true then (if 40 < runN isSig (c :: l) then (tok0, 2) else if (c :: l).take (runN isSig (c :: l)) ∈ wordsL then (⟨1, [], 0, 0, (runN isSig (c :: l) : Nat), 0⟩, 0) else (⟨2, [], 0, 0, (runN isSig (c :: l) : Nat), 0⟩, 0)) else if isDgB c = true then numM pf (c :: l) else if c = 34 then quoM (c :: l) else markM (c :: l) := rfl
    rw [ec] at h hm
    by_cases hl : isLet c = true
    · rw [if_pos hl] at h hm
      by_cases h40 : 40 < runN isSig (c :: l)
      · rw [if_pos h40] at h; cases h
      · rw [if_neg h40] at h hm
        have hr : runN isSig (c :: l) = m := by
          by_cases hw : (c :: l).take (runN isSig (c :: l)) ∈ wordsL
          · rw [if_pos hw] at hm; exact Int.ofNat.inj hm
          · rw [if_neg hw] at hm; exact Int.ofNat.inj hm
        rw [← hr]
        exact run_no (by decide) _
    · rw [if_neg hl] at h hm
      by_cases hd : isDgB c = true
      · rw [if_pos hd] at h hm
        have ht : toN (c :: l) = m := by
          have : (numM pf (c :: l)).1.to = ((toN (c :: l) : Nat) : Int) := by
            unfold numM
            split
            · rfl
            · split
              · rfl
              · split
                · rfl
                · rfl
          rw [this] at hm
          exact Int.ofNat.inj hm
        rw [← ht]
        exact toN_nl _
      · rw [if_neg hd] at h hm
        by_cases hq : c = 34
        · rw [if_pos hq] at h hm
          have hk : 1 + 1 ≤ m := by
            obtain ⟨m', e1, e2, -⟩ := quoL_to _ l [] 1 (Nat.le_refl _) h
            have : (quoL l [] 1).1.to = (m : Int) := hm
            omega
          have := quo_no _ l [] 1 m (Nat.le_refl _) h hm
          obtain ⟨j, rfl⟩ : ∃ j, m = j + 1 := ⟨m - 1, by omega⟩
          rw [List.take_succ_cons, List.mem_cons]
          rintro (h | h)
          · rw [hq] at h; cases h
          · exact this h
        · rw [if_neg hq] at h hm
          unfold markM at h hm
          cases hf : marksL.find? fun x => Lib.hasPrefix (c :: l) x with
          | none => rw [hf] at h; cases h
          | some x =>
            rw [hf] at hm
            have hx : x.length = m := Int.ofNat.inj hm
            have h1 : x.isPrefixOf (c :: l) = true := List.find?_some (p := fun x => Lib.hasPrefix (c :: l) x) hf
            rw [List.isPrefixOf_iff_prefix] at h1
            obtain ⟨t, e⟩ := h1
            rw [← e, ← hx, List.take_left]
            exact marks_no x (List.mem_of_find?_eq_some hf)
theorem one_nl (pf : List UInt8 → Nat) {s : List UInt8} {a m : Nat} (h : (oneM pf (s.drop a)).2 = 0) (hm : (oneM pf (s.drop a)).1.to = (m : Int)) : (s.take (a + m)).count 10 = (s.take a).count 10 := by
  rw [List.take_add, List.count_append, List.count_eq_zero.2 (one_no pf h hm), Nat.add_zero]
end Go.Proofs.YtngklbnodknadaaGreatDoor
end
