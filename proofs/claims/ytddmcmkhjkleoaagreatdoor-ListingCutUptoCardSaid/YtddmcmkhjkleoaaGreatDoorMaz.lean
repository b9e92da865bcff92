/-
  Pl, Pm, in one.
-/
import Derived.Test.YtddmcmkhjkleoaaGreatDoorMay
import Derived.Test.YtddmcmkhjkleoaaGreatDoorMar
section
namespace Go.Proofs.YtddmcmkhjkleoaaGreatDoor

/-! ### Words -/
structure Pl (w : List UInt8) : Prop where
  ne : w ≠ []
  ok : ∀ c ∈ w, c.toNat < 128 ∧ blankB c = false ∧ c ≠ 35 ∧ c ≠ 10
def plB (w : List UInt8) : Bool := !w.isEmpty && w.all fun c => decide (c.toNat < 128) && !blankB c && !(c == 35) && !(c == 10)
theorem Pl.of {w : List UInt8} (h : plB w = true) : Pl w := by
  unfold plB at h
  rw [Bool.and_eq_true, List.all_eq_true] at h
  refine ⟨fun e => by rw [e] at h; simp at h, fun c hc => ?_⟩
  have := h.2 c hc
  simp only [Bool.and_eq_true, decide_eq_true_eq, Bool.not_eq_true', beq_eq_false_iff_ne] at this
  exact ⟨this.1.1.1, this.1.1.2, this.1.2, this.2⟩
def spW (ws : List (List UInt8)) : List UInt8 := ws.flatMap fun w => 32 :: w
theorem spW_cons (w : List UInt8) (ws : List (List UInt8)) : spW (w :: ws) = 32 :: (w ++ spW ws) := by simp [spW]
theorem spW_app (a b : List (List UInt8)) : spW (a ++ b) = spW a ++ spW b := by simp [spW]
theorem spW_nums (l : List Int) : numsM l = spW (l.map Lib.itoa) := by simp [numsM, spW, List.flatMap_map]
theorem words_sp : ∀ (ws : List (List UInt8)) (w : List UInt8), Pl w → (∀ x ∈ ws, Pl x) → wordsA [] (w ++ spW ws) = w :: ws
  | [], w, h, _ => by
    have := wordsA_plain w [] [] fun c hc => (h.ok c hc).2.1
    rw [List.append_nil, List.nil_append] at this
    rw [show spW [] = [] from rfl, List.append_nil, this, wordsA, if_neg h.ne]
  | x :: ws, w, h, hs => by
    rw [wordsA_plain w [] _ fun c hc => (h.ok c hc).2.1, List.nil_append, spW_cons, wordsA_sp _ _ h.ne, words_sp ws x (hs x (by simp)) fun y hy => hs y (by simp [hy])]
theorem pre_app {x a b : List UInt8} (h : x <+: a ++ b) : x <+: a ∨ ∃ t, x = a ++ t ∧ t <+: b := by
  obtain ⟨r, hr⟩ := h
  rcases List.append_eq_append_iff.1 hr with ⟨t, h1, h2⟩ | ⟨t, h1, h2⟩
  · exact .inl ⟨t, h1.symm⟩
  · exact .inr ⟨t, h1, ⟨r, h2.symm⟩⟩
theorem pre_cons {x b : List UInt8} {c : UInt8} (h : x <+: c :: b) : x = [] ∨ ∃ t, x = c :: t ∧ t <+: b := by
  cases x with
  | nil => exact .inl rfl
  | cons d t =>
    obtain ⟨r, hr⟩ := h
    injection hr with h1 h2
    subst h1
    exact .inr ⟨t, rfl, r, h2⟩
theorem words_cut : ∀ (ws : List (List UInt8)) (w x : List UInt8), Pl w → (∀ y ∈ ws, Pl y) → x <+: w ++ spW ws →
    wordsA [] x = [] ∨ ∃ k y z, y ≠ [] ∧ (w :: ws)[k]? = some z ∧ y <+: z ∧ wordsA [] x = (w :: ws).take k ++ [y]
  | ws, w, x, h, hs, hx => by
    rcases pre_app hx with h1 | ⟨t, rfl, ht⟩
    · by_cases e : x = []
      · subst e; exact .inl rfl
      · refine .inr ⟨0, x, w, e, rfl, h1, ?_⟩
        have hp := wordsA_plain x [] [] fun c hc => (h.ok c (h1.subset hc)).2.1
        rw [List.append_nil, List.nil_append] at hp
        rw [hp, wordsA, if_neg e]; rfl
    · have hp := wordsA_plain w [] t fun c hc => (h.ok c hc).2.1
      rw [List.nil_append] at hp
      rw [hp]
      match ws, hs, ht with
      | [], _, ht =>
        have : t = [] := List.prefix_nil.1 ht
        subst this
        exact .inr ⟨0, w, w, h.ne, rfl, List.prefix_refl _, by rw [wordsA, if_neg h.ne]; rfl⟩
      | y :: ws, hs, ht =>
        rw [spW_cons] at ht
        rcases pre_cons ht with rfl | ⟨t', rfl, ht'⟩
        · exact .inr ⟨0, w, w, h.ne, rfl, List.prefix_refl _, by rw [wordsA, if_neg h.ne]; rfl⟩
        · rw [wordsA_sp _ _ h.ne]
          rcases words_cut ws y t' (hs y (by simp)) (fun z hz => hs z (by simp [hz])) ht' with e | ⟨k, u, z, h1, h2, h3, h4⟩
          · rw [e]
            exact .inr ⟨0, w, w, h.ne, rfl, List.prefix_refl _, rfl⟩
          · exact .inr ⟨k + 1, u, z, h1, by simpa using h2, h3, by rw [h4]; rfl⟩
/-! ### Remarks -/
theorem ib_no : ∀ (s : List UInt8), (∀ c ∈ s, c ≠ 35) → Lib.indexByte s 35 = -1
  | [], _ => rfl
  | c :: s, h => by
    rw [Lib.indexByte, ib_no s fun x hx => h x (by simp [hx])]
    rw [if_neg (by simpa using h c (by simp))]
    rfl
theorem ib_at : ∀ (s r : List UInt8), (∀ c ∈ s, c ≠ 35) → Lib.indexByte (s ++ 35 :: r) 35 = s.length
  | [], _, _ => rfl
  | c :: s, r, h => by
    rw [List.cons_append, Lib.indexByte, ib_at s r fun x hx => h x (by simp [hx]), if_neg (by simpa using h c (by simp))]
    rw [if_neg (by simp), List.length_cons]; omega
theorem cut_no (s : List UInt8) (h : ∀ c ∈ s, c ≠ 35) : (Lib.cut s [35]).1 = s := by
  unfold Lib.cut
  rw [Lib.index_one, ib_no s h]; rfl
theorem cut_at (s r : List UInt8) (h : ∀ c ∈ s, c ≠ 35) : (Lib.cut (s ++ 35 :: r) [35]).1 = s := by
  unfold Lib.cut
  rw [Lib.index_one, ib_at s r h, if_pos (by omega)]
  show (s ++ 35 :: r).take (s.length : Int).toNat = s
  rw [Int.toNat_natCast, List.take_left]
theorem fields_no (s : List UInt8) (h : Asc s) (h2 : ∀ c ∈ s, c ≠ 35) : fieldsL s = wordsA [] s := by
  unfold fieldsL
  rw [cut_no s h2, fieldsT_words s h]
theorem fields_at (s r : List UInt8) (h : Asc s) (h2 : ∀ c ∈ s, c ≠ 35) : fieldsL (s ++ 35 :: r) = wordsA [] s := by
  unfold fieldsL
  rw [cut_at s r h2, fieldsT_words s h]
theorem blank_asc {c : UInt8} (h : blankB c = true) : c.toNat < 128 ∧ c ≠ 35 ∧ c ≠ 10 := by
  unfold blankB at h
  rw [Bool.or_eq_true, beq_iff_eq, beq_iff_eq] at h
  rcases h with rfl | rfl <;> decide
/-! ### Lines of words -/
/-- What a line of words does. -/
def lineW (p : PrR) : List (List UInt8) → Option PrR
  | [] => some p
  | w :: l =>
    if w = constW' then (if (constL l).2 = true then none else some ⟨p.fns, p.consts ++ [(constL l).1], p.texts⟩)
    else if w = fnW ∨ w = genW then (match l with
      | [w1, w2] => if (numB w1 || numB w2) = true then none else some ⟨p.fns ++ [⟨numV w1, numV w2, genB w, [], []⟩], p.consts, p.texts⟩
      | _ => none)
    else match p.fns.getLast? with
      | none => none
      | some f => if w = caughtW then (if l.any numB = true then none else some ⟨p.fns.dropLast ++ [⟨f.params, f.regs, f.gen, f.caught ++ l.map numV, f.code⟩], p.consts, p.texts⟩)
        else match opM w with
          | none => none
          | some op => if (orderBad (w :: l) || orderB2 (w :: l)) = true then none else some ⟨p.fns.dropLast ++ [⟨f.params, f.regs, f.gen, f.caught, f.code ++ [orderI op (w :: l)]⟩], p.consts, p.texts⟩
theorem lineM_of {p : PrR} {s : List UInt8} {l : List (List UInt8)} (h : isT s = false) (hf : fieldsL s = l) : lineM p s = lineW p l := by
  subst hf
  unfold lineM lineW
  rw [if_neg (by rw [h]; decide)]
  generalize fieldsL s = F
  cases F with
  | nil => rfl
  | cons w l =>
    dsimp only
    split
    · rfl
    · split
      · cases l with
        | nil => rfl
        | cons a l => cases l with
          | nil => rfl
          | cons b l => cases l <;> rfl
      · cases p.fns.getLast? <;> rfl
/-- A word that is not the beginning of a text's line. -/
def mism (w : List UInt8) : Bool := (w.zip txtW).any fun p => !(p.1 == p.2)
theorem mism_no : ∀ (w r t : List UInt8), (w.zip t).any (fun p => !(p.1 == p.2)) = true → t.isPrefixOf (w ++ r) = false
  | [], r, t, h => by simp at h
  | c :: w, r, [], h => by simp at h
  | c :: w, r, d :: t, h => by
    rw [List.zip_cons_cons, List.any_cons, Bool.or_eq_true] at h
    rw [List.cons_append, List.isPrefixOf]
    rcases h with h | h
    · have : (d == c) = false := by
        cases e : d == c with
        | false => rfl
        | true => rw [beq_iff_eq.1 e] at h; simp at h
      rw [this]; rfl
    · rw [mism_no w r t h, Bool.and_false]
theorem drop_blanks : ∀ (b r : List UInt8), (∀ c ∈ b, blankB c = true) → bareL (b ++ r) = bareL r
  | [], r, _ => rfl
  | c :: b, r, h => by
    have h1 : [32, 9].contains c = true := by
      have := h c (by simp)
      unfold blankB at this
      rw [Bool.or_eq_true, beq_iff_eq, beq_iff_eq] at this
      rcases this with rfl | rfl <;> rfl
    have := drop_blanks b r fun x hx => h x (by simp [hx])
    unfold bareL Lib.trimLeftS at this ⊢
    rw [List.cons_append, List.dropWhile_cons, if_pos h1, this]
theorem bare_plain (c : UInt8) (r : List UInt8) (h : blankB c = false) : bareL (c :: r) = c :: r := by
  have h1 : ¬ [32, 9].contains c = true := by
    unfold blankB at h
    rw [Bool.or_eq_false_iff, beq_eq_false_iff_ne, beq_eq_false_iff_ne] at h
    simp [h.1, h.2]
  unfold bareL Lib.trimLeftS
  rw [List.dropWhile_cons, if_neg h1]
theorem isT_word {b w r : List UInt8} (hb : ∀ c ∈ b, blankB c = true) (hw : Pl w) (hm : mism w = true) : isT (b ++ (w ++ r)) = false := by
  unfold isT
  rw [drop_blanks b _ hb]
  cases w with
  | nil => exact absurd rfl hw.ne
  | cons c w =>
    rw [List.cons_append, bare_plain c _ (hw.ok c (by simp)).2.1]
    have : Lib.hasPrefix (c :: (w ++ r)) txtW = false := mism_no (c :: w) r txtW hm
    rw [this]; rfl
theorem isT_short {b : List UInt8} (hb : ∀ c ∈ b, blankB c = true) {x w : List UInt8} (hw : Pl w) (hx : x <+: w) (hm : mism w = true) : isT (b ++ x) = false := by
  unfold isT
  rw [drop_blanks b _ hb]
  have : Lib.hasPrefix (bareL x) txtW = false := by
    cases x with
    | nil => rfl
    | cons c x =>
      rw [bare_plain c _ (hw.ok c (hx.subset (by simp))).2.1]
      cases e : Lib.hasPrefix (c :: x) txtW with
      | false => rfl
      | true =>
        exfalso
        obtain ⟨r, hr⟩ := hx
        have h1 : txtW <+: (c :: x) := List.isPrefixOf_iff_prefix.1 e
        have h2 : txtW.isPrefixOf (w ++ []) = true := by
          rw [List.isPrefixOf_iff_prefix, List.append_nil, ← hr]
          exact h1.trans (List.prefix_append _ _)
        have h3 := mism_no w [] txtW hm
        rw [h2] at h3; cases h3
  rw [this]; rfl
section
variable {p : PrR} {b w : List UInt8} {ws : List (List UInt8)}
theorem wline_asc (hb : ∀ c ∈ b, blankB c = true) (hw : Pl w) (hs : ∀ x ∈ ws, Pl x) : ∀ c ∈ b ++ (w ++ spW ws), c.toNat < 128 ∧ c ≠ 35 ∧ c ≠ 10 := by
  intro c hc
  rcases List.mem_append.1 hc with hc | hc
  · exact blank_asc (hb c hc)
  · rcases List.mem_append.1 hc with hc | hc
    · have := hw.ok c hc
      exact ⟨this.1, this.2.2⟩
    · obtain ⟨x, hx, hc⟩ := List.mem_flatMap.1 hc
      rcases List.mem_cons.1 hc with rfl | hc
      · decide
      · have := (hs x hx).ok c hc
        exact ⟨this.1, this.2.2⟩
theorem wline_whole (hb : ∀ c ∈ b, blankB c = true) (hw : Pl w) (hm : mism w = true) (hs : ∀ x ∈ ws, Pl x) : lineM p (b ++ (w ++ spW ws)) = lineW p (w :: ws) := by
  have ha := wline_asc hb hw hs
  refine lineM_of (isT_word hb hw hm) ?_
  rw [fields_no _ (fun c hc => (ha c hc).1) fun c hc => (ha c hc).2.1, wordsA_blanks b _ hb, words_sp ws w hw hs]
theorem wline_rem (hb : ∀ c ∈ b, blankB c = true) (hw : Pl w) (hm : mism w = true) (hs : ∀ x ∈ ws, Pl x) (f r : List UInt8) (hf : ∀ c ∈ f, blankB c = true) : lineM p (f ++ (b ++ (w ++ spW ws)) ++ (f ++ 35 :: r)) = lineW p (w :: ws) := by
  have ha := wline_asc hb hw hs
  have hfb : ∀ c ∈ f ++ b, blankB c = true := fun c hc => (List.mem_append.1 hc).elim (hf c) (hb c)
  have e : f ++ (b ++ (w ++ spW ws)) ++ (f ++ 35 :: r) = (f ++ b) ++ (w ++ (spW ws ++ (f ++ 35 :: r))) := by simp
  refine lineM_of (by rw [e]; exact isT_word hfb hw hm) ?_
  have hA : ∀ c ∈ f ++ (b ++ (w ++ spW ws)) ++ f, c.toNat < 128 ∧ c ≠ 35 := fun c hc => by
    rcases List.mem_append.1 hc with hc | hc
    · rcases List.mem_append.1 hc with hc | hc
      · have := blank_asc (hf c hc); exact ⟨this.1, this.2.1⟩
      · have := ha c hc; exact ⟨this.1, this.2.1⟩
    · have := blank_asc (hf c hc); exact ⟨this.1, this.2.1⟩
  rw [← List.append_assoc (f ++ _) f, fields_at _ _ (fun c hc => (hA c hc).1) fun c hc => (hA c hc).2, wordsA_tail _ _ _ hf, wordsA_blanks f _ hf, wordsA_blanks b _ hb, words_sp ws w hw hs]
theorem wline_cut (hb : ∀ c ∈ b, blankB c = true) (hw : Pl w) (hm : mism w = true) (hs : ∀ x ∈ ws, Pl x) {x : List UInt8} (hx : x <+: b ++ (w ++ spW ws)) :
    lineM p x = some p ∨ ∃ k y z, y ≠ [] ∧ (w :: ws)[k]? = some z ∧ y <+: z ∧ lineM p x = lineW p ((w :: ws).take k ++ [y]) := by
  have ha := wline_asc hb hw hs
  have hT : isT x = false := by
    rcases pre_app hx with h1 | ⟨t, rfl, ht⟩
    · have := isT_short (x := []) (fun c hc => hb c (h1.subset hc)) hw (List.nil_prefix) hm
      rwa [List.append_nil] at this
    · rcases pre_app ht with h1 | ⟨t, rfl, ht⟩
      · exact isT_short hb hw h1 hm
      · exact isT_word hb hw hm
  have hF : fieldsL x = wordsA [] x := fields_no _ (fun c hc => (ha c (hx.subset hc)).1) fun c hc => (ha c (hx.subset hc)).2.1
  rw [lineM_of hT hF]
  rcases pre_app hx with h1 | ⟨t, rfl, ht⟩
  · rw [wordsA_end [] x fun c hc => hb c (h1.subset hc), if_pos rfl]
    exact .inl rfl
  · rw [wordsA_blanks b t hb]
    rcases words_cut ws w t hw hs ht with e | ⟨k, y, z, h1, h2, h3, h4⟩
    · rw [e]; exact .inl rfl
    · rw [h4]; exact .inr ⟨k, y, z, h1, h2, h3, rfl⟩
end
/-! ### Numbers -/
theorem dec_pl (u : Nat) : ∀ c ∈ Lib.decDigits u, 48 ≤ c.toNat ∧ c.toNat ≤ 57 := by
  induction u using Nat.strongRecOn with
  | _ u ih =>
    intro c hc
    rw [Lib.decDigits] at hc
    split at hc
    · next h1 =>
      rw [List.mem_singleton.1 hc, UInt8.toNat_ofNat']; omega
    · next h1 =>
      rcases List.mem_append.1 hc with hc | hc
      · exact ih (u / 10) (by omega) c hc
      · rw [List.mem_singleton.1 hc, UInt8.toNat_ofNat']; omega
theorem dec_len : ∀ (k u : Nat), u < 10 ^ (k + 1) → (Lib.decDigits u).length ≤ k + 1
  | 0, u, h => by rw [Lib.decDigits, dif_pos (by omega)]; simp
  | k + 1, u, h => by
    rw [Lib.decDigits]
    split
    · simp
    · rw [List.length_append, List.length_singleton]
      have := dec_len k (u / 10) (by rw [Nat.pow_succ] at h; omega)
      omega
theorem dec_ne (u : Nat) : Lib.decDigits u ≠ [] := by
  obtain ⟨c, r, h, -⟩ := dec_head u
  rw [h]; exact List.cons_ne_nil _ _
theorem plain_digit {c : UInt8} (h : 45 ≤ c.toNat ∧ c.toNat ≤ 64) : c.toNat < 128 ∧ blankB c = false ∧ c ≠ 35 ∧ c ≠ 10 := by
  refine ⟨by omega, ?_, fun e => by subst e; exact absurd h (by decide), fun e => by subst e; exact absurd h (by decide)⟩
  unfold blankB
  rw [Bool.or_eq_false_iff, beq_eq_false_iff_ne, beq_eq_false_iff_ne]
  exact ⟨fun e => by subst e; exact absurd h (by decide), fun e => by subst e; exact absurd h (by decide)⟩
theorem itoa_pl (n : Int) : Pl (Lib.itoa n) := by
  unfold Lib.itoa
  split
  · refine ⟨List.cons_ne_nil _ _, fun c hc => ?_⟩
    rcases List.mem_cons.1 hc with rfl | hc
    · decide
    · have := dec_pl _ c hc
      exact plain_digit (by omega)
  · refine ⟨dec_ne _, fun c hc => ?_⟩
    have := dec_pl _ c hc
    exact plain_digit (by omega)
theorem itoa_digits (n : Int) : Lib.trimPrefix (Lib.itoa n) [45] = Lib.decDigits n.natAbs := by
  unfold Lib.itoa
  split
  · next h => rfl
  · next h =>
    have e : n.toNat = n.natAbs := by omega
    rw [e]
    unfold Lib.trimPrefix
    obtain ⟨c, r, h1, h2, h3⟩ := dec_head n.natAbs
    have : Lib.hasPrefix (Lib.decDigits n.natAbs) [45] = false := by
      rw [h1]
      unfold Lib.hasPrefix
      rw [List.isPrefixOf]
      have : ((45 : UInt8) == c) = false := by rw [beq_eq_false_iff_ne]; rintro rfl; have : (45 : UInt8).toNat = 45 := rfl; omega
      rw [this]; rfl
    rw [this]; rfl
theorem drop_all (p : UInt8 → Bool) : ∀ l : List UInt8, (∀ c ∈ l, p c = true) → l.dropWhile p = []
  | [], _ => rfl
  | c :: l, h => by rw [List.dropWhile_cons, if_pos (h c (by simp)), drop_all p l fun x hx => h x (by simp [hx])]
theorem digit_in {c : UInt8} (h : 48 ≤ c.toNat ∧ c.toNat ≤ 57) : digitsL.contains c = true := by
  have key : ∀ n : Fin 58, 48 ≤ n.1 → digitsL.contains (UInt8.ofNat n.1) = true := by decide +kernel
  have := key ⟨c.toNat, by omega⟩ h.1
  rwa [UInt8.ofNat_toNat] at this
theorem num_back {n : Int} (h : in64 n) : numV (Lib.itoa n) = n ∧ numB (Lib.itoa n) = false := by
  have hp := parse_itoa n h.1 h.2
  have h1 : in64 n := h
  have ht : Lib.trimS (Lib.decDigits n.natAbs) digitsL = [] := by
    unfold Lib.trimS Lib.trimRightS
    rw [drop_all _ _ fun c hc => digit_in (dec_pl _ c (List.mem_reverse.1 hc))]
    rfl
  refine ⟨by unfold numV; rw [hp], ?_⟩
  unfold numB
  have hl := dec_len 18 n.natAbs (by have := h1.1; have := h1.2; omega)
  have he : (Lib.decDigits n.natAbs).isEmpty = false := by
    cases e : Lib.decDigits n.natAbs with
    | nil => exact absurd e (dec_ne _)
    | cons _ _ => rfl
  rw [itoa_digits, ht, he, show numOk (Lib.itoa n) = true by unfold numOk; rw [hp]]
  simp; omega
end Go.Proofs.YtddmcmkhjkleoaaGreatDoor
end

section
namespace Go.Proofs.YtddmcmkhjkleoaaGreatDoor

/-! ### Beginnings -/
def Frag (x y : FnR) : Prop := x.params = y.params ∧ x.gen = y.gen ∧ (x.code <+: y.code ∨ ∃ m z, m < y.code.length ∧ x.code = y.code.take m ++ [z])
structure Beg (q P : PrR) : Prop where
  texts : q.texts <+: P.texts
  consts : q.consts.length ≤ P.consts.length
  fns : q.fns = [] ∨ ∃ j x y, q.fns = P.fns.take j ++ [x] ∧ P.fns[j]? = some y ∧ Frag x y
theorem Beg.whole {q P : PrR} {j : Nat} (h1 : q.texts <+: P.texts) (h2 : q.consts.length ≤ P.consts.length) (h3 : q.fns = P.fns.take j) : Beg q P := by
  refine ⟨h1, h2, ?_⟩
  rw [h3]
  by_cases h0 : P.fns.take j = []
  · exact .inl h0
  · right
    obtain ⟨y, hy⟩ : ∃ y, (P.fns.take j).getLast? = some y := by
      rw [List.getLast?_eq_some_getLast h0]; exact ⟨_, rfl⟩
    have hl : 0 < (P.fns.take j).length := List.length_pos_iff.2 h0
    have e := List.dropLast_concat_getLast h0
    refine ⟨(P.fns.take j).length - 1, (P.fns.take j).getLast h0, (P.fns.take j).getLast h0, ?_, ?_, rfl, rfl, .inl (List.prefix_refl _)⟩
    · conv => lhs; rw [← e]
      congr 1
      rw [List.dropLast_eq_take, List.take_take]
      congr 1
      rw [List.length_take]; omega
    · rw [List.getLast_eq_getElem, List.getElem?_eq_some_iff]
      have h5 : (P.fns.take j).length ≤ P.fns.length := by rw [List.length_take]; omega
      exact ⟨by omega, by rw [List.getElem_take]⟩
/-! ### Steps -/
/-- What a line of a written program does to what is read: whole, with a remark, and cut. -/
structure Step (P a : PrR) (l : List UInt8) (b : PrR) : Prop where
  nl : ∀ c ∈ l, c ≠ 10
  whole : lineM a l = some b
  rem : ∀ f r, (∀ c ∈ f, blankB c = true) → lineM a (f ++ l ++ (f ++ 35 :: r)) = some b
  cut : ∀ x q, x <+: l → lineM a x = some q → Beg q P
inductive Run' (P : PrR) : PrR → List (List UInt8) → PrR → Prop
  | nil {a : PrR} (h : Beg a P) : Run' P a [] a
  | cons {a b c : PrR} {l : List UInt8} {ls : List (List UInt8)} (h : Step P a l b) (t : Run' P b ls c) : Run' P a (l :: ls) c
theorem Run'.trans {P a b c : PrR} {l m : List (List UInt8)} (h : Run' P a l b) (k : Run' P b m c) : Run' P a (l ++ m) c := by
  induction h with
  | nil _ => exact k
  | cons h _ ih => exact .cons h (ih k)
theorem line_nil (a : PrR) : lineM a [] = some a := by
  rw [lineM_of (s := []) (l := []) rfl (by rw [fields_no [] (fun c h => by cases h) (fun c h => by cases h)]; rfl)]; rfl
theorem Run'.whole {P a b : PrR} {l : List (List UInt8)} (h : Run' P a l b) : (l ++ [[]]).foldlM lineM a = some b := by
  induction h with
  | nil _ => rw [List.nil_append, List.foldlM_cons, line_nil]; rfl
  | cons h _ ih => rw [List.cons_append, List.foldlM_cons, h.whole]; exact ih
theorem Run'.rem {P a b : PrR} {l : List (List UInt8)} (h : Run' P a l b) (f r : List UInt8) (hf : ∀ c ∈ f, blankB c = true) : (l.flatMap (fun x => [f ++ x ++ (f ++ 35 :: r), []]) ++ [[]]).foldlM lineM a = some b := by
  induction h with
  | nil _ => rw [List.flatMap_nil, List.nil_append, List.foldlM_cons, line_nil]; rfl
  | cons h _ ih =>
    rw [List.flatMap_cons, List.append_assoc, List.cons_append, List.cons_append, List.foldlM_cons, h.rem f r hf]
    show List.foldlM lineM _ _ = _
    rw [List.foldlM_cons, line_nil]
    exact ih
theorem lines_lf : ∀ (l r : List UInt8), (∀ c ∈ l, c ≠ 10) → linesM (l ++ 10 :: r) = l :: linesM r
  | [], r, _ => by rw [List.nil_append, linesM, if_pos rfl]
  | c :: l, r, h => by
    rw [List.cons_append]
    exact lines_cons c _ (h c (by simp)) (lines_lf l r fun x hx => h x (by simp [hx]))
theorem lines_no : ∀ (l : List UInt8), (∀ c ∈ l, c ≠ 10) → linesM l = [l]
  | [], _ => rfl
  | c :: l, h => lines_cons c _ (h c (by simp)) (lines_no l fun x hx => h x (by simp [hx]))
def textOf (ls : List (List UInt8)) : List UInt8 := ls.flatMap fun l => l ++ [10]
theorem textOf_cons (l : List UInt8) (ls : List (List UInt8)) : textOf (l :: ls) = l ++ 10 :: textOf ls := by simp [textOf]
theorem lines_text : ∀ (ls : List (List UInt8)), (∀ l ∈ ls, ∀ c ∈ l, c ≠ 10) → linesM (textOf ls) = ls ++ [[]]
  | [], _ => rfl
  | l :: ls, h => by rw [textOf_cons, lines_lf l _ (h l (by simp)), lines_text ls fun x hx => h x (by simp [hx])]; rfl
theorem Run'.nl {P a b : PrR} {l : List (List UInt8)} (h : Run' P a l b) : ∀ x ∈ l, ∀ c ∈ x, c ≠ 10 := by
  induction h with
  | nil _ => intro x hx; cases hx
  | cons h _ ih =>
    intro x hx
    rcases List.mem_cons.1 hx with rfl | hx
    · exact h.nl
    · exact ih x hx
theorem Run'.cut {P a b : PrR} {l : List (List UInt8)} (h : Run' P a l b) : ∀ (n : Nat) (q : PrR), (linesM ((textOf l).take n)).foldlM lineM a = some q → Beg q P := by
  induction h with
  | nil hB =>
    intro n q hq
    rw [show (textOf []).take n = [] from List.take_nil] at hq
    rw [show linesM [] = [[]] from rfl, List.foldlM_cons, line_nil] at hq
    cases hq; exact hB
  | @cons a b c l ls h _ ih =>
    intro n q hq
    rw [textOf_cons] at hq
    by_cases hn : n ≤ l.length
    · rw [List.take_append_of_le_length hn] at hq
      have hx : l.take n <+: l := List.take_prefix _ _
      rw [lines_no _ fun c hc => h.nl c (hx.subset hc), List.foldlM_cons] at hq
      cases e : lineM a (l.take n) with
      | none => rw [e] at hq; cases hq
      | some q' =>
        rw [e] at hq
        cases hq
        exact h.cut _ _ hx e
    · obtain ⟨k, rfl⟩ : ∃ k, n = l.length + (k + 1) := ⟨n - l.length - 1, by omega⟩
      rw [List.take_length_add_append, List.take_succ_cons, lines_lf l _ h.nl, List.foldlM_cons, h.whole] at hq
      exact ih k q hq
/-! ### Lines of words -/
theorem Step.words {P a b : PrR} {b0 w : List UInt8} {ws : List (List UInt8)} (hb : ∀ c ∈ b0, blankB c = true) (hw : Pl w) (hm : mism w = true) (hs : ∀ x ∈ ws, Pl x) (h1 : lineW a (w :: ws) = some b) (hB : Beg a P)
    (hc : ∀ k y z q, y ≠ [] → (w :: ws)[k]? = some z → y <+: z → lineW a ((w :: ws).take k ++ [y]) = some q → Beg q P) : Step P a (b0 ++ (w ++ spW ws)) b := by
  refine ⟨fun c hc => (wline_asc hb hw hs c hc).2.2, by rw [wline_whole hb hw hm hs, h1], fun f r hf => by rw [wline_rem hb hw hm hs f r hf, h1], fun x q hx hq => ?_⟩
  rcases wline_cut (p := a) hb hw hm hs hx with e | ⟨k, y, z, h2, h3, h4, e⟩
  · rw [e] at hq; cases hq; exact hB
  · rw [e] at hq; exact hc k y z q h2 h3 h4 hq
/-! ### Texts -/
theorem quote_len (s : List UInt8) : s.length ≤ (s.flatMap quoteB).length := by
  induction s with
  | nil => exact Nat.le_refl _
  | cons c s ih =>
    rw [List.flatMap_cons, List.length_append, List.length_cons]
    have : 1 ≤ (quoteB c).length := by unfold quoteB; split <;> simp
    omega
theorem plain_of {b : UInt8} (h : plainB b = true) : ¬ b = 34 ∧ ¬ b = 92 ∧ ¬ (b = 92 ∨ (b.toNat < 32 ∧ b.toNat ≠ 9)) := by
  simp only [plainB, Bool.not_eq_true', Bool.or_eq_false_iff, decide_eq_false_iff_not, beq_eq_false_iff_ne, ne_eq] at h
  obtain ⟨⟨⟨h1, h2⟩, h3⟩, h4⟩ := h
  refine ⟨h3, h4, ?_⟩
  rintro (h | h)
  · exact h4 h
  · exact h1 (UInt8.lt_iff_toNat_lt.2 h.1)
theorem uq_read : ∀ (s : List UInt8) (n : Nat) (out T : List UInt8), s.length < n → uqM n (s.flatMap quoteB ++ 34 :: T) out false = ((out ++ s, T), false)
  | [], n + 1, out, T, _ => by simp [uqM]
  | b :: s, n + 1, out, T, h => by
    have ih := fun o => uq_read s n o T (by simpa using h)
    rw [List.flatMap_cons, List.append_assoc]
    by_cases hp : plainB b = true
    · rw [show quoteB b = [b] from if_pos hp]
      obtain ⟨h1, h2, h3⟩ := plain_of hp
      show uqM (n + 1) (b :: (s.flatMap quoteB ++ 34 :: T)) out false = _
      rw [uqM, if_neg h1, if_neg (fun h => h2 h.1), if_neg h3, ih]
      simp
    · rw [show quoteB b = [92, hexM (b.toNat / 16), hexM (b.toNat % 16)] from if_neg hp]
      have hb : b.toNat < 256 := b.toNat_lt
      have e1 := hex_all ⟨b.toNat / 16, by omega⟩
      have e2 := hex_all ⟨b.toNat % 16, by omega⟩
      dsimp only at e1 e2
      show uqM (n + 1) (92 :: (hexM (b.toNat / 16) :: hexM (b.toNat % 16) :: (s.flatMap quoteB ++ 34 :: T))) out false = _
      have e3 : UInt8.ofNat (b.toNat / 16 * 16 + b.toNat % 16) = b := by rw [show b.toNat / 16 * 16 + b.toNat % 16 = b.toNat by omega]; exact UInt8.ofNat_toNat
      rw [uqM, if_neg (by decide)]
      simp only [List.getD_cons_zero, List.getD_cons_succ, e1, e2, List.length_cons, List.drop_succ_cons, List.drop_zero, Int.toNat_natCast, e3]
      rw [if_pos ⟨trivial, by omega, by omega, by omega⟩, ih]
      simp
theorem uq_true : ∀ (n : Nat) (l out : List UInt8), (uqM n l out true).2 = true
  | 0, _, _ => rfl
  | _ + 1, [], _ => rfl
  | n + 1, c :: l, out => by
    rw [uqM]
    split
    · rfl
    · split
      · exact uq_true n _ _
      · split
        · exact uq_true n _ _
        · exact uq_true n _ _
theorem uq_cut : ∀ (s : List UInt8) (n : Nat) (u out : List UInt8), u <+: s.flatMap quoteB → (uqM n u out false).2 = true
  | _, 0, _, _, _ => rfl
  | [], n + 1, u, out, h => by
    have : u = [] := List.prefix_nil.1 h
    subst this; rfl
  | b :: s, n + 1, u, out, h => by
    rw [List.flatMap_cons] at h
    by_cases hp : plainB b = true
    · rw [show quoteB b = [b] from if_pos hp] at h
      rcases pre_cons h with rfl | ⟨t, rfl, ht⟩
      · rfl
      · obtain ⟨h1, h2, h3⟩ := plain_of hp
        rw [uqM, if_neg h1, if_neg (fun h => h2 h.1), if_neg h3]
        exact uq_cut s n t _ ht
    · rw [show quoteB b = [92, hexM (b.toNat / 16), hexM (b.toNat % 16)] from if_neg hp] at h
      rcases pre_cons h with rfl | ⟨t, rfl, ht⟩
      · rfl
      · rcases pre_cons ht with rfl | ⟨t1, rfl, ht1⟩
        · rw [uqM, if_neg (by decide), if_neg (by simp), if_pos (by simp)]
          exact uq_true n _ _
        · rcases pre_cons ht1 with rfl | ⟨t2, rfl, ht2⟩
          · rw [uqM, if_neg (by decide), if_neg (by simp), if_pos (by simp)]
            exact uq_true n _ _
          · rw [uqM, if_neg (by decide)]
            split
            · exact uq_cut s n t2 _ ht2
            · rw [if_pos (by simp)]
              exact uq_true n _ _
abbrev textLn (s : List UInt8) : List UInt8 := txtW ++ (32 :: quotedM s)
theorem quoted_nl (s : List UInt8) : ∀ c ∈ quotedM s, c ≠ 10 := by
  have key : ∀ n : Fin 256, (quoteB (UInt8.ofNat n.1)).all (fun c => !(c == 10)) = true := by decide +kernel
  intro c hc
  unfold quotedM at hc
  rcases List.mem_cons.1 hc with rfl | hc
  · decide
  · rcases List.mem_append.1 hc with hc | hc
    · obtain ⟨b, -, hb⟩ := List.mem_flatMap.1 hc
      have := key ⟨b.toNat, b.toNat_lt⟩
      rw [UInt8.ofNat_toNat] at this
      have := List.all_eq_true.1 this c hb
      simpa using this
    · rw [List.mem_singleton.1 hc]; decide
section
variable {p : PrR}
theorem bare_txt (f r : List UInt8) (hf : ∀ c ∈ f, blankB c = true) : bareL (f ++ (txtW ++ r)) = txtW ++ r := by
  rw [drop_blanks f _ hf]
  exact bare_plain 116 _ (by decide)
theorem rest_txt (f r : List UInt8) (hf : ∀ c ∈ f, blankB c = true) : restL (f ++ (txtW ++ r)) = r := by
  unfold restL
  rw [bare_txt f r hf]; rfl
theorem isT_txt (f r : List UInt8) (hf : ∀ c ∈ f, blankB c = true) : isT (f ++ (txtW ++ 32 :: r)) = true := by
  unfold isT
  rw [bare_txt f _ hf, rest_txt f _ hf]; rfl
theorem unq_txt (f z : List UInt8) (hf : ∀ c ∈ f, blankB c = true) : unqL (f ++ (txtW ++ 32 :: z)) false = unquoteM (Lib.trimLeftS z [32, 9]) false := by
  unfold unqL
  rw [rest_txt f _ hf]; rfl
theorem fields_nil : fieldsL [] = [] := by rw [fields_no [] (fun c h => by cases h) (fun c h => by cases h)]; rfl
theorem text_whole (f T : List UInt8) (hf : ∀ c ∈ f, blankB c = true) (s : List UInt8) (hT : fieldsL T = []) : lineM p (f ++ (txtW ++ 32 :: (quotedM s ++ T))) = some ⟨p.fns, p.consts, p.texts ++ [s]⟩ := by
  have h1 : unqL (f ++ (txtW ++ 32 :: (quotedM s ++ T))) false = ((s, T), false) := by
    rw [unq_txt f _ hf]
    unfold quotedM
    have e : Lib.trimLeftS (34 :: (s.flatMap quoteB ++ [34]) ++ T) [32, 9] = 34 :: (s.flatMap quoteB ++ 34 :: T) := by
      rw [List.cons_append, List.append_assoc]
      exact bare_plain 34 _ (by decide)
    rw [e]
    show uqM _ _ _ _ = _
    rw [uq_read s _ [] T (by have := quote_len s; rw [List.length_append]; omega)]
    rfl
  unfold lineM
  rw [if_pos (isT_txt f _ hf), h1, if_neg]
  unfold textBad
  rw [h1, rest_txt f _ hf]
  dsimp only
  rw [hT]; simp
theorem text_bad {z : List UInt8} (h : (unquoteM (Lib.trimLeftS z [32, 9]) false).2 = true) : lineM p (txtW ++ 32 :: z) = none := by
  have h1 := unq_txt [] z (fun c h => by cases h)
  have h2 := isT_txt [] z (fun c h => by cases h)
  rw [List.nil_append] at h1 h2
  unfold lineM
  rw [if_pos h2, if_pos]
  unfold textBad
  rw [h1, h]; rfl
theorem short_none {w : List UInt8} (hw : Pl w) (hT : isT w = false) (hp : p.fns = []) (h : w ≠ constW' ∧ w ≠ fnW ∧ w ≠ genW) : lineM p w = none := by
  have hF : fieldsL w = [w] := by
    rw [fields_no w (fun c hc => (hw.ok c hc).1) fun c hc => (hw.ok c hc).2.2.1]
    have := words_sp [] w hw (fun x hx => by cases hx)
    rwa [show spW [] = [] from rfl, List.append_nil] at this
  rw [lineM_of hT hF]
  unfold lineW
  dsimp only
  rw [if_neg h.1, if_neg (by rintro (e | e); exact h.2.1 e; exact h.2.2 e), hp]; rfl
theorem text_cut {s x : List UInt8} {q : PrR} (hp : p.fns = []) (hx : x <+: textLn s) (hq : lineM p x = some q) : q = p ∨ q = ⟨p.fns, p.consts, p.texts ++ [s]⟩ := by
  have hbad : ∀ z : List UInt8, (unquoteM (Lib.trimLeftS z [32, 9]) false).2 = true → x = txtW ++ 32 :: z → False := fun z h e => by
    rw [e, text_bad h] at hq; cases hq
  have hsh : ∀ w, x = w → Pl w → isT w = false → w ≠ constW' ∧ w ≠ fnW ∧ w ≠ genW → False := fun w e h1 h2 h3 => by
    rw [e, short_none h1 h2 hp h3] at hq; cases hq
  rcases pre_cons hx with rfl | ⟨t, rfl, ht⟩
  · rw [line_nil] at hq; cases hq; exact .inl rfl
  rcases pre_cons ht with rfl | ⟨t0, rfl, ht0⟩
  · exact (hsh _ rfl (.of (by decide)) (by decide) (by decide)).elim
  rcases pre_cons ht0 with rfl | ⟨t1, rfl, ht1⟩
  · exact (hsh _ rfl (.of (by decide)) (by decide) (by decide)).elim
  rcases pre_cons ht1 with rfl | ⟨t2, rfl, ht2⟩
  · exact (hsh _ rfl (.of (by decide)) (by decide) (by decide)).elim
  rcases pre_cons ht2 with rfl | ⟨t3, rfl, ht3⟩
  · exfalso
    have : lineM p txtW = none := by
      unfold lineM
      rw [if_pos (by decide), if_pos (by decide)]
    rw [this] at hq; cases hq
  · rcases pre_cons ht3 with rfl | ⟨u, rfl, hu⟩
    · exact (hbad [] rfl rfl).elim
    · have hu34 : ∀ v, Lib.trimLeftS (34 :: v) [32, 9] = 34 :: v := fun v => bare_plain 34 v (by decide)
      have hcut : ∀ v, v <+: s.flatMap quoteB → u = v → False := fun v hv e => hbad (34 :: v) (by rw [hu34]; exact uq_cut s _ v [] hv) (by rw [e]; rfl)
      rcases pre_app hu with h1 | ⟨v, rfl, hv⟩
      · exact (hcut u h1 rfl).elim
      · rcases pre_cons hv with rfl | ⟨v1, rfl, hv1⟩
        · exact (hcut (s.flatMap quoteB) (List.prefix_refl _) (List.append_nil _)).elim
        · have : v1 = [] := List.prefix_nil.1 hv1
          subst this
          right
          have h2 := text_whole (p := p) [] [] (fun c h => by cases h) s fields_nil
          rw [List.append_nil, List.nil_append] at h2
          have h3 : lineM p (txtW ++ 32 :: quotedM s) = some q := hq
          rw [h2] at h3
          exact (Option.some.inj h3).symm
end
theorem step_text {P a : PrR} {s : List UInt8} (hf : a.fns = []) (hc : a.consts.length ≤ P.consts.length) (ht : a.texts ++ [s] <+: P.texts) : Step P a (textLn s) ⟨a.fns, a.consts, a.texts ++ [s]⟩ := by
  refine ⟨fun c hc => ?_, ?_, fun f r hf => ?_, fun x q hx hq => ?_⟩
  · rcases List.mem_append.1 hc with hc | hc
    · exact (by decide : ∀ c ∈ txtW, c ≠ 10) c hc
    · rcases List.mem_cons.1 hc with rfl | hc
      · decide
      · exact quoted_nl s c hc
  · have := text_whole (p := a) [] [] (fun c h => by cases h) s fields_nil
    rwa [List.append_nil, List.nil_append] at this
  · have e : f ++ textLn s ++ (f ++ 35 :: r) = f ++ (txtW ++ 32 :: (quotedM s ++ (f ++ 35 :: r))) := by simp
    rw [e]
    refine text_whole f _ hf s ?_
    rw [fields_at f r (fun c hc => (blank_asc (hf c hc)).1) fun c hc => (blank_asc (hf c hc)).2.1, wordsA_end [] f hf]; rfl
  · rcases text_cut hf hx hq with rfl | rfl
    · exact ⟨(List.prefix_append _ _).trans ht, hc, .inl hf⟩
    · exact ⟨ht, hc, .inl hf⟩
end Go.Proofs.YtddmcmkhjkleoaaGreatDoor
end
