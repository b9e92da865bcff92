/-
  Ul, Um, Ue, in one.
-/
import Derived.Test.YtngklbnodknadaaGreatDoorMau
import Derived.Test.YtngklbnodknadaaGreatDoorMal
import Derived.Test.YtngklbnodknadaaGreatDoorMat
section
namespace Go.Proofs.YtngklbnodknadaaGreatDoor

/-- One byte of a gap; whether a remark is open. -/
def stepG (r : Bool) (c : UInt8) : Option Bool := if c = 10 then some false else if c = 35 then some true else if r = true ∨ isBl c = true then some r else none
/-- A gap from a place to b. -/
inductive Gp (s : List UInt8) (b : Nat) : Nat → Bool → Bool → Prop
  | done {r : Bool} : Gp s b b r r
  | step {k : Nat} {r r1 r' : Bool} {c : UInt8} (hk : k < b) (hc : s[k]? = some c) (h1 : stepG r c = some r1) (h : Gp s b (k + 1) r1 r') : Gp s b k r r'
inductive Wh (s : List UInt8) : Bool → Nat → List Tok → Prop
  | nil {r r' : Bool} {a : Nat} (h : a ≤ s.length) (hg : Gp s s.length a r r') : Wh s r a []
  | tok {r : Bool} {a : Nat} {x : Tok} {l : List Tok} (b e : Nat) (h1 : x.at' = (b : Int)) (h2 : x.to = (e : Int)) (hab : a ≤ b) (hbe : b < e) (hes : e ≤ s.length) (hg : Gp s b a r false) (hl : x.line = 1 + ((s.take b).count 10 : Nat)) (hn : (s.take e).count 10 = (s.take b).count 10) (ht : x.kind = 5 ∨ x.text = (s.drop b).take (e - b)) (h : Wh s false e l) : Wh s r a (x :: l)
theorem run_stop (p : UInt8 → Bool) : ∀ (l : List UInt8) (c : UInt8), l[runN p l]? = some c → p c = false
  | [], c, h => by cases h
  | x :: l, c, h => by
    rw [runN] at h
    split at h
    · rw [List.getElem?_cons_succ] at h; exact run_stop p l c h
    · next hx =>
      rw [List.getElem?_cons_zero] at h
      rw [← Option.some.inj h]
      simpa using hx
section
variable {s : List UInt8}
theorem wh_step {r r1 : Bool} {a : Nat} {c : UInt8} {l : List Tok} (hc : s[a]? = some c) (h1 : stepG r c = some r1) (h : Wh s r1 (a + 1) l) : Wh s r a l := by
  have ha : a < s.length := (List.getElem?_eq_some_iff.1 hc).1
  cases h with
  | nil h hg => exact .nil (by omega) (.step ha hc h1 hg)
  | tok b e e1 e2 hab hbe hes hg hl hn ht h => exact .tok b e e1 e2 (by omega) hbe hes (.step (by omega) hc h1 hg) hl hn ht h
theorem wh_run {l : List Tok} : ∀ (n a : Nat), runN notNl (s.drop a) = n → Wh s true (a + n) l → Wh s true a l
  | 0, a, _, h => h
  | n + 1, a, hn, h => by
    rcases Nat.lt_or_ge a s.length with ha | ha
    · have hc : s[a]? = some s[a] := List.getElem?_eq_getElem ha
      have hd := drop_head hc
      rw [hd, runN] at hn
      split at hn
      · next hb =>
        refine wh_step hc (r1 := true) ?_ (wh_run n (a + 1) (by omega) (by rwa [show a + 1 + n = a + (n + 1) by omega]))
        have h10 : s[a] ≠ 10 := by unfold notNl at hb; simpa using hb
        unfold stepG
        rw [if_neg h10]
        split
        · rfl
        · rw [if_pos (Or.inl rfl)]
      · omega
    · rw [List.drop_of_length_le ha] at hn
      cases hn
theorem lx_wh {pf : List UInt8 → Nat} {a : Nat} {l : List Tok} (h : Lx pf s a l) : ∀ r : Bool, (r = false ∨ s[a]? = some 10 ∨ s.length ≤ a) → a ≤ s.length → Wh s r a l := by
  induction h with
  | nil h =>
    intro r _ ha
    obtain rfl : _ = s.length := Nat.le_antisymm ha h
    exact .nil (Nat.le_refl _) .done
  | @bl a l c hc hb h ih =>
    intro r hr ha
    have hl : a < s.length := (List.getElem?_eq_some_iff.1 hc).1
    refine wh_step hc (r1 := false) ?_ (ih false (Or.inl rfl) hl)
    have h35 : c ≠ 35 := by rintro rfl; cases hb
    unfold stepG
    by_cases h10 : c = 10
    · rw [if_pos h10]
    · rw [if_neg h10, if_neg h35, if_pos (Or.inr hb)]
      rcases hr with hr | hr | hr
      · rw [hr]
      · rw [hc] at hr; exact absurd (Option.some.inj hr) h10
      · omega
  | @rem a l hc h ih =>
    intro r hr ha
    have hl : a < s.length := (List.getElem?_eq_some_iff.1 hc).1
    have hd := drop_head hc
    have hrun : runN notNl (s.drop a) = runN notNl (s.drop (a + 1)) + 1 := by rw [hd, runN, if_pos (by decide)]
    have hle := runN_le notNl (s.drop a)
    rw [List.length_drop] at hle
    have hw := ih true (by
      rcases Nat.lt_or_ge (a + runN notNl (s.drop a)) s.length with h | h
      · refine Or.inr (Or.inl ?_)
        obtain ⟨c', hg⟩ : ∃ c', s[a + runN notNl (s.drop a)]? = some c' := ⟨_, List.getElem?_eq_getElem h⟩
        have q : decide (c' ≠ 10) = false := run_stop notNl (s.drop a) c' (by rw [List.getElem?_drop]; exact hg)
        rw [hg]
        simpa using q
      · exact Or.inr (Or.inr h)) (by omega)
    refine wh_step hc (r1 := true) (by cases r <;> rfl) ?_
    refine wh_run _ _ rfl ?_
    rwa [show a + 1 + runN notNl (s.drop (a + 1)) = a + runN notNl (s.drop a) by omega]
  | @tok a l c hc hb h35 ho h ih =>
    intro r hr ha
    have hl : a < s.length := (List.getElem?_eq_some_iff.1 hc).1
    have hr : r = false := by
      rcases hr with hr | hr | hr
      · exact hr
      · rw [hc] at hr; rw [Option.some.inj hr] at hb; cases hb
      · omega
    subst hr
    obtain ⟨m, e1, e2, e3⟩ := oneM_to pf ho
    rw [List.length_drop] at e3
    rw [e1, Int.toNat_natCast] at ih
    have hw := ih false (Or.inl rfl) (by omega)
    refine .tok a (a + m) rfl (by unfold putM; dsimp only; rw [e1, Int.natCast_add]) (Nat.le_refl _) (by omega) (by omega) .done rfl (one_nl pf ho e1) ?_ hw
    unfold putM
    dsimp only
    rw [e1, Int.toNat_natCast, Nat.add_sub_cancel_left]
    by_cases h5 : (oneM pf (s.drop a)).1.kind = 5
    · exact Or.inl h5
    · exact Or.inr (if_neg h5)
theorem tokM_wh {pf : List UInt8 → Nat} {l : List Tok} (h : tokM pf s = (l, 0)) : s.length ≤ 2000 ∧ l.length ≤ 800 ∧ Wh s false 0 l := by
  obtain ⟨h1, h2, h3⟩ := tokM_lx.1 h
  exact ⟨h1, h2, lx_wh h3 false (Or.inl rfl) (Nat.zero_le _)⟩
end
end Go.Proofs.YtngklbnodknadaaGreatDoor
end

section
namespace Go.Proofs.YtngklbnodknadaaGreatDoor
open Go.RowKit

theorem step_cases {r r1 : Bool} {c : UInt8} (h : stepG r c = some r1) : (c = 10 ∧ r1 = false) ∨ (c = 35 ∧ r1 = true) ∨ (c ≠ 10 ∧ c ≠ 35 ∧ r = true ∧ r1 = true) ∨ (r = false ∧ r1 = false ∧ (c = 32 ∨ c = 9 ∨ c = 13)) := by
  unfold stepG at h
  by_cases h10 : c = 10
  · rw [if_pos h10] at h; exact Or.inl ⟨h10, (Option.some.inj h).symm⟩
  · rw [if_neg h10] at h
    by_cases h35 : c = 35
    · rw [if_pos h35] at h; exact Or.inr (Or.inl ⟨h35, (Option.some.inj h).symm⟩)
    · rw [if_neg h35] at h
      refine Or.inr (Or.inr ?_)
      cases r with
      | true => rw [if_pos (Or.inl rfl)] at h; exact Or.inl ⟨h10, h35, rfl, (Option.some.inj h).symm⟩
      | false =>
        by_cases hb : isBl c = true
        · rw [if_pos (Or.inr hb)] at h
          refine Or.inr ⟨rfl, (Option.some.inj h).symm, ?_⟩
          unfold isBl at hb
          simpa [h10] using hb
        · rw [if_neg (by simpa using hb)] at h; cases h
theorem tokL_err (pf : List UInt8 → Nat) (s : List UInt8) : ∀ (f a : Nat) (out l : List Tok) (e : Int), tokL pf s f a out = (l, e) → e ≠ 0 → l = []
  | 0, a, out, l, e, h, he => by
    rw [tokL] at h; injection h with h1 h2; exact absurd h2.symm he
  | f + 1, a, out, l, e, h, he => by
    rw [tokL] at h
    split at h
    · injection h with h1 h2; exact absurd h2.symm he
    · split at h
      · exact tokL_err pf s f _ out l e h he
      · split at h
        · injection h with h1 h2; exact h1.symm
        · exact tokL_err pf s f _ _ l e h he
theorem tokM_err {pf : List UInt8 → Nat} {s : List UInt8} {l : List Tok} {e : Int} (h : tokM pf s = (l, e)) (he : e ≠ 0) : l = [] := by
  unfold tokM at h
  split at h
  · injection h with h1 h2; exact h1.symm
  · split at h
    · injection h with h1 h2; exact h1.symm
    · split at h
      · injection h with h1 h2; exact h1.symm
      · injection h with h1 h2; exact absurd h2.symm he
set_option maxRecDepth 100000 in
set_option maxHeartbeats 20000000 in
theorem whole_fn (s : List UInt8) : FnD Tryz.prog 3 [strT s] (boolT true) := by
  have hbg := begun_fn
  have h1 := tokens_fn s
  cases e1 : tokM pfM s with
  | mk l e =>
  rw [e1] at h1
  unfold toksT at h1
  dsimp only at h1
  have hL : (l.map tokD).length = l.length := List.length_map _
  by_cases he : e = 0
  · subst he
    obtain ⟨ls, ll, hwh⟩ := tokM_wh e1
    clear e1
    refine FnD.of1 (n := 134) [] fax_ok Tryz.func3 rfl rfl rfl (by rfl) (by kernel_rfl) (by intro _; rfl) fun Γ hA hbA => ?_
    (repeat ((conv => whnf); (first | refine exR ?_ | refine gd (enters_of Tryz.func7 rfl rfl) hbg ?_ | refine gd (enters_of Tryz.func8 rfl rfl) h1 ?_ | refine tF ?_)))
    refine ev_loopX [] fax_ok hA (by kernel_rfl) (fun y : Nat × Nat => y.1 ≤ l.length ∧ y.2 ≤ s.length ∧ Wh s false y.2 (l.drop y.1)) (fun y => [(0, strT s), (3, .d (.sl 6 (l.map tokD))), (5, intT y.2), (6, intT (1 + ((s.take y.2).count 10 : Nat))), (7, intT y.1)]) (fun _ => []) (fun y => l.length - y.1) 0 (fun _ => True) (fun _ => [(0, strT s)]) (fun _ => []) (0, 0) ⟨Nat.zero_le _, Nat.zero_le _, hwh⟩ fiE fiO ?_ ?_
    · rintro ⟨i, a⟩ ⟨hi, ha, hw⟩ - -
      dsimp only at hi ha hw
      clear hwh
      by_cases h : i < l.length
      · have hx : (l.map tokD)[i]? = some (tokD l[i]) := by rw [List.getElem?_map, List.getElem?_eq_getElem h, Option.map_some]
        rw [List.drop_eq_getElem_cons h] at hw
        generalize l[i] = x at *
        obtain ⟨kd, tx, nm, a0, tz, ln⟩ := x
        replace hx : (l.map tokD)[i]? = some (.agg [.v (.int .i64 kd), .v (.string ⟨⟨tx⟩⟩), .v (.int .i64 nm), .v (.int .i64 a0), .v (.int .i64 tz), .v (.int .i64 ln)]) := hx
        cases hw with
        | tok b e e1 e2 hab hbe hes hg hl hn ht hw =>
        dsimp only at e1 e2 hl ht
        subst e1 e2
        have hle : b ≤ e := Nat.le_of_lt hbe
        have hie : ((i : Int) == ((l.map tokD).length : Int)) = false := by rw [hL]; simp; omega
        have hcb : (s.take b).count 10 ≤ 2000 := Nat.le_trans List.count_le_length (by rw [List.length_take]; omega)
        have hiw : IntKind.i64.wrap ((i : Int) + 1) = ((i + 1 : Nat) : Int) := i_nat (by omega) (by omega)
        have him : l.length - (i + 1) < l.length - i := by omega
        (repeat ((conv => whnf); (first | refine exR ?_ | refine tT ?_ | refine tF ?_ | refine exI _ rfl (by assumption) ?_)))
        refine ev_loopX [] fax_ok hA (by kernel_rfl) (fun y : Nat × Bool => a ≤ y.1 ∧ y.1 ≤ b ∧ Gp s b y.1 y.2 false) (fun y => [(0, strT s), (3, .d (.sl 6 (l.map tokD))), (5, intT a), (6, intT (1 + ((s.take y.1).count 10 : Nat))), (7, intT i), (8, intT b), (9, boolT y.2), (10, intT y.1)]) (fun _ => []) (fun y => b - y.1) 2 (fun y => y.1 = b ∧ y.2 = false) (fun y => [(0, strT s), (3, .d (.sl 6 (l.map tokD))), (5, intT a), (6, intT (1 + ((s.take y.1).count 10 : Nat))), (7, intT i), (8, intT b), (9, boolT y.2)]) (fun _ => []) (a, false) ⟨Nat.le_refl _, hab, hg⟩ fiE fiO ?_ ?_
        · rintro ⟨k, r⟩ ⟨hk1, hk2, hgk⟩ - -
          dsimp only at hk1 hk2 hgk
          clear hg
          cases hgk with
          | done =>
            (repeat ((conv => whnf); (first | refine exR ?_ | refine tF ?_ | refine And.intro rfl ?_)))
            exact ⟨(b, false), ⟨hk1, hk2, .done⟩, ⟨rfl, rfl⟩, fiE, fiO⟩
          | @step _ _ r1 _ c hkb hc h1 hgk =>
            have hcnt := cnt_step hc
            have hcl : (s.take k).count 10 ≤ 2000 := Nat.le_trans List.count_le_length (by rw [List.length_take]; omega)
            have hiw : IntKind.i64.wrap ((k : Int) + 1) = ((k + 1 : Nat) : Int) := i_nat (by omega) (by omega)
            have hk3 : b - (k + 1) < b - k := by omega
            have hk4 : a ≤ k + 1 := by omega
            generalize hn0 : (s.take k).count 10 = n at hcnt hcl
            rcases step_cases h1 with ⟨rfl, rfl⟩ | ⟨rfl, rfl⟩ | ⟨h10, h35, rfl, rfl⟩ | ⟨rfl, rfl, hc3⟩
            · have hcnt : (s.take (k + 1)).count 10 = n + 1 := hcnt
              have hw : IntKind.i64.wrap (1 + (n : Int) + 1) = 1 + ((n + 1 : Nat) : Int) := by rw [show 1 + (n : Int) + 1 = 1 + ((n + 1 : Nat) : Int) by omega]; exact wrap_in (by omega) (by omega)
              (repeat ((conv => whnf); (first | with_reducible refine exE (α := Int) _ (by assumption) ?_ | refine exR ?_ | refine tT ?_ | refine exB _ rfl (by assumption) ?_)))
              exact ⟨(k + 1, false), ⟨hk4, hkb, hgk⟩, hk3, (by dsimp only; rw [hcnt]; exact fiE), fiO⟩
            · have hcnt : (s.take (k + 1)).count 10 = n := hcnt
              (repeat ((conv => whnf); (first | with_reducible refine exE (α := Int) _ (by assumption) ?_ | refine exR ?_ | refine tT ?_ | refine tF ?_ | refine exB _ rfl (by assumption) ?_)))
              exact ⟨(k + 1, true), ⟨hk4, hkb, hgk⟩, hk3, (by dsimp only; rw [hcnt]; exact fiE), fiO⟩
            · have hcnt : (s.take (k + 1)).count 10 = n := by rw [hcnt, if_neg h10]; rfl
              have q10 : ((c.toNat : Int) == 10) = false := (eqB c 10).trans (decide_eq_false h10)
              have q35 : ((c.toNat : Int) == 35) = false := (eqB c 35).trans (decide_eq_false h35)
              (repeat ((conv => whnf); (first | with_reducible refine exE (α := Int) _ (by assumption) ?_ | refine exR ?_ | refine tT ?_ | refine tF ?_ | refine exB _ rfl (by assumption) ?_)))
              exact ⟨(k + 1, true), ⟨hk4, hkb, hgk⟩, hk3, (by dsimp only; rw [hcnt]; exact fiE), fiO⟩
            · rcases hc3 with rfl | rfl | rfl
              · have hcnt : (s.take (k + 1)).count 10 = n := hcnt
                (repeat ((conv => whnf); (first | with_reducible refine exE (α := Int) _ (by assumption) ?_ | refine exR ?_ | refine tT ?_ | refine tF ?_ | refine exB _ rfl (by assumption) ?_)))
                exact ⟨(k + 1, false), ⟨hk4, hkb, hgk⟩, hk3, (by dsimp only; rw [hcnt]; exact fiE), fiO⟩
              · have hcnt : (s.take (k + 1)).count 10 = n := hcnt
                (repeat ((conv => whnf); (first | with_reducible refine exE (α := Int) _ (by assumption) ?_ | refine exR ?_ | refine tT ?_ | refine tF ?_ | refine exB _ rfl (by assumption) ?_)))
                exact ⟨(k + 1, false), ⟨hk4, hkb, hgk⟩, hk3, (by dsimp only; rw [hcnt]; exact fiE), fiO⟩
              · have hcnt : (s.take (k + 1)).count 10 = n := hcnt
                (repeat ((conv => whnf); (first | with_reducible refine exE (α := Int) _ (by assumption) ?_ | refine exR ?_ | refine tT ?_ | refine tF ?_ | refine exB _ rfl (by assumption) ?_)))
                exact ⟨(k + 1, false), ⟨hk4, hkb, hgk⟩, hk3, (by dsimp only; rw [hcnt]; exact fiE), fiO⟩
        · rintro ⟨k, r⟩ - ⟨hk, hr⟩
          dsimp only at hk hr
          have hk := hk.symm
          subst hk hr
          have hlne : (ln != 1 + ((s.take b).count 10 : Nat)) = false := by rw [hl]; simp
          have hcn : (1 + ((s.take e).count 10 : Nat) : Int) = 1 + ((s.take b).count 10 : Nat) := by rw [hn]
          have hbe2 : ¬ ((e : Int) ≤ (b : Int)) := by omega
          have hes2 : ¬ ((s.length : Int) < (e : Int)) := by omega
          by_cases h5 : kd = 5
          · have hk : (kd != 5) = false := by simp [h5]
            (repeat ((conv => whnf); (first | with_reducible refine exE (α := Int) _ (by assumption) ?_ | refine exR ?_ | refine tF ?_ | refine uT ?_ | refine oB ?_ | refine And.intro rfl ?_ | refine exI _ rfl (by assumption) ?_)))
            exact ⟨(i + 1, e), ⟨h, hes, hw⟩, him, (by dsimp only; rw [hn]; exact fiE), fiO⟩
          · have hk : (kd != 5) = true := by simp [h5]
            have htx : tx = (s.drop b).take (e - b) := ht.resolve_left h5
            have htt : (!(List.take (e - b) (List.drop b s) == List.take (e - b) (List.drop b s))) = false := by simp
            subst htx
            (repeat ((conv => whnf); (first | refine exR ?_ | refine tT ?_ | refine tF ?_ | refine uT ?_ | refine And.intro rfl ?_ | refine exI _ rfl (by assumption) ?_)))
            refine ⟨b, e, rfl, rfl, hle, hes, ?_⟩
            (repeat ((conv => whnf); (first | with_reducible refine exE (α := Int) _ (by assumption) ?_ | refine exR ?_ | refine tT ?_ | refine tF ?_ | refine uT ?_ | refine oB ?_)))
            exact ⟨(i + 1, e), ⟨h, hes, hw⟩, him, (by dsimp only; rw [hn]; exact fiE), fiO⟩
      · have hil : i = l.length := by omega
        have hie : ((i : Int) == ((l.map tokD).length : Int)) = true := by rw [hL, hil]; simp
        rw [hil, List.drop_length] at hw
        cases hw with
        | @nil _ rr _ hab hg =>
        (repeat ((conv => whnf); (first | refine exR ?_ | refine tT ?_ | refine tF ?_)))
        refine ev_loopX [] fax_ok hA (by kernel_rfl) (fun y : Nat × Bool => a ≤ y.1 ∧ y.1 ≤ s.length ∧ Gp s s.length y.1 y.2 rr) (fun y => [(0, strT s), (3, .d (.sl 6 (l.map tokD))), (5, intT a), (6, intT (1 + ((s.take y.1).count 10 : Nat))), (7, intT i), (8, intT s.length), (9, boolT y.2), (10, intT y.1)]) (fun _ => []) (fun y => s.length - y.1) 2 (fun y => y.1 = s.length ∧ y.2 = rr) (fun y => [(0, strT s), (3, .d (.sl 6 (l.map tokD))), (5, intT a), (6, intT (1 + ((s.take y.1).count 10 : Nat))), (7, intT i), (8, intT s.length), (9, boolT y.2)]) (fun _ => []) (a, false) ⟨Nat.le_refl _, hab, hg⟩ fiE fiO ?_ ?_
        · rintro ⟨k, r⟩ ⟨hk1, hk2, hgk⟩ - -
          dsimp only at hk1 hk2 hgk
          clear hg
          cases hgk with
          | done =>
            (repeat ((conv => whnf); (first | refine exR ?_ | refine tF ?_ | refine And.intro rfl ?_)))
            exact ⟨(s.length, rr), ⟨hk1, hk2, .done⟩, ⟨rfl, rfl⟩, fiE, fiO⟩
          | @step _ _ r1 _ c hkb hc h1 hgk =>
            have hcnt := cnt_step hc
            have hcl : (s.take k).count 10 ≤ 2000 := Nat.le_trans List.count_le_length (by rw [List.length_take]; omega)
            have hiw : IntKind.i64.wrap ((k : Int) + 1) = ((k + 1 : Nat) : Int) := i_nat (by omega) (by omega)
            have hk3 : s.length - (k + 1) < s.length - k := by omega
            have hk4 : a ≤ k + 1 := by omega
            generalize hn0 : (s.take k).count 10 = n at hcnt hcl
            rcases step_cases h1 with ⟨rfl, rfl⟩ | ⟨rfl, rfl⟩ | ⟨h10, h35, rfl, rfl⟩ | ⟨rfl, rfl, hc3⟩
            · have hcnt : (s.take (k + 1)).count 10 = n + 1 := hcnt
              have hw : IntKind.i64.wrap (1 + (n : Int) + 1) = 1 + ((n + 1 : Nat) : Int) := by rw [show 1 + (n : Int) + 1 = 1 + ((n + 1 : Nat) : Int) by omega]; exact wrap_in (by omega) (by omega)
              (repeat ((conv => whnf); (first | with_reducible refine exE (α := Int) _ (by assumption) ?_ | refine exR ?_ | refine tT ?_ | refine exB _ rfl (by assumption) ?_)))
              exact ⟨(k + 1, false), ⟨hk4, hkb, hgk⟩, hk3, (by dsimp only; rw [hcnt]; exact fiE), fiO⟩
            · have hcnt : (s.take (k + 1)).count 10 = n := hcnt
              (repeat ((conv => whnf); (first | with_reducible refine exE (α := Int) _ (by assumption) ?_ | refine exR ?_ | refine tT ?_ | refine tF ?_ | refine exB _ rfl (by assumption) ?_)))
              exact ⟨(k + 1, true), ⟨hk4, hkb, hgk⟩, hk3, (by dsimp only; rw [hcnt]; exact fiE), fiO⟩
            · have hcnt : (s.take (k + 1)).count 10 = n := by rw [hcnt, if_neg h10]; rfl
              have q10 : ((c.toNat : Int) == 10) = false := (eqB c 10).trans (decide_eq_false h10)
              have q35 : ((c.toNat : Int) == 35) = false := (eqB c 35).trans (decide_eq_false h35)
              (repeat ((conv => whnf); (first | with_reducible refine exE (α := Int) _ (by assumption) ?_ | refine exR ?_ | refine tT ?_ | refine tF ?_ | refine exB _ rfl (by assumption) ?_)))
              exact ⟨(k + 1, true), ⟨hk4, hkb, hgk⟩, hk3, (by dsimp only; rw [hcnt]; exact fiE), fiO⟩
            · rcases hc3 with rfl | rfl | rfl
              · have hcnt : (s.take (k + 1)).count 10 = n := hcnt
                (repeat ((conv => whnf); (first | with_reducible refine exE (α := Int) _ (by assumption) ?_ | refine exR ?_ | refine tT ?_ | refine tF ?_ | refine exB _ rfl (by assumption) ?_)))
                exact ⟨(k + 1, false), ⟨hk4, hkb, hgk⟩, hk3, (by dsimp only; rw [hcnt]; exact fiE), fiO⟩
              · have hcnt : (s.take (k + 1)).count 10 = n := hcnt
                (repeat ((conv => whnf); (first | with_reducible refine exE (α := Int) _ (by assumption) ?_ | refine exR ?_ | refine tT ?_ | refine tF ?_ | refine exB _ rfl (by assumption) ?_)))
                exact ⟨(k + 1, false), ⟨hk4, hkb, hgk⟩, hk3, (by dsimp only; rw [hcnt]; exact fiE), fiO⟩
              · have hcnt : (s.take (k + 1)).count 10 = n := hcnt
                (repeat ((conv => whnf); (first | with_reducible refine exE (α := Int) _ (by assumption) ?_ | refine exR ?_ | refine tT ?_ | refine tF ?_ | refine exB _ rfl (by assumption) ?_)))
                exact ⟨(k + 1, false), ⟨hk4, hkb, hgk⟩, hk3, (by dsimp only; rw [hcnt]; exact fiE), fiO⟩
        · rintro ⟨k, r⟩ - ⟨hk, hr⟩
          dsimp only at hk hr
          have hk := hk.symm
          subst hk hr
          (repeat ((conv => whnf); (first | refine exR ?_ | refine tT ?_ | refine And.intro rfl ?_)))
          exact ⟨(i, s.length), ⟨hi, Nat.le_refl _, by dsimp only; rw [hil, List.drop_length]; exact .nil (Nat.le_refl _) .done⟩, trivial, fiE, fiO⟩
    · rintro ⟨i, a⟩ - -
      (repeat ((conv => whnf); refine gd (enters_of Tryz.func7 rfl rfl) hbg ?_))
      exact ⟨eN, rS, fiO⟩
  · have hne : (e != 0) = true := by simp [he]
    have hl0 : l = [] := by
      have := tokM_err e1 he
      exact this
    subst hl0
    refine FnD.of1 (n := 134) [] fax_ok Tryz.func3 rfl rfl rfl (by rfl) (by kernel_rfl) (by intro _; rfl) fun Γ hA hbA => ?_
    (repeat ((conv => whnf); (first | refine exR ?_ | refine gd (enters_of Tryz.func7 rfl rfl) hbg ?_ | refine gd (enters_of Tryz.func8 rfl rfl) h1 ?_ | refine tT ?_ | refine tF ?_)))
    exact ⟨eN, rS, fiO⟩
end Go.Proofs.YtngklbnodknadaaGreatDoor
end

section
namespace Go.Proofs.YtngklbnodknadaaGreatDoor
open Go.RowKit

set_option maxRecDepth 100000 in
set_option maxHeartbeats 8000000 in
theorem alone_fn (s : List UInt8) (i : Int) : FnD Tryz.prog 4 [strT s, intT i] (boolT true) := by
  have hbg := begun_fn
  have h1 := tokens_fn s
  have hal := @tok_alone pfM s
  have hlen := tokM_len pfM s
  generalize tokM pfM s = R at *
  obtain ⟨l, e⟩ := R
  unfold toksT at h1
  dsimp only at h1 hal hlen
  have hL : (l.map tokD).length = l.length := List.length_map _
  by_cases he : e = 0
  · have hne : (e != 0) = false := by simp [he]
    have hal := fun {x} => @hal he x
    have hlen := hlen he
    by_cases hi : 0 ≤ i ∧ i < (l.length : Int)
    · obtain ⟨j, rfl⟩ : ∃ j : Nat, i = (j : Int) := ⟨i.toNat, by omega⟩
      have hj : j < l.length := by omega
      have hx : (l.map tokD)[j]? = some (tokD l[j]) := by rw [List.getElem?_map, List.getElem?_eq_getElem hj, Option.map_some]
      obtain ⟨a, m, e1, e2, m1, m2, hone⟩ := hal (List.getElem_mem hj)
      generalize l[j] = x at *
      obtain ⟨kd, tx, nm, a0, tz, ln⟩ := x
      dsimp only at e1 e2 hone
      subst e1 e2
      have h3 := tokens_fn ((s.drop a).take (a + m - a))
      rw [hone] at h3
      unfold toksT at h3
      dsimp only [List.map_cons, List.map_nil, tokD] at h3
      unfold tokD at hx
      dsimp only at hx
      have hw : IntKind.i64.wrap (((a + m : Nat) : Int) - (a : Int)) = (m : Int) := by rw [show ((a + m : Nat) : Int) - (a : Int) = (m : Int) by omega]; exact wrap_in (by omega) (by omega)
      have heq := tok_eq kd nm 0 m 1 tx
      have hle : a ≤ a + m := Nat.le_add_right a m
      refine FnD.of1 (n := 72) [] fax_ok Tryz.func4 rfl rfl rfl (by rfl) (by kernel_rfl) (by intro _; rfl) fun Γ hA hbA => ?_
      (repeat ((conv => whnf); (first | refine exR ?_ | refine gd (enters_of Tryz.func7 rfl rfl) hbg ?_ | refine gd (enters_of Tryz.func8 rfl rfl) h1 ?_ | refine tF ?_ | refine uT ?_ | refine And.intro rfl ?_ | refine exI _ rfl (by assumption) ?_)))
      refine ⟨a, a + m, rfl, rfl, hle, m2, ?_⟩
      (repeat ((conv => whnf); (first | with_reducible refine exE (α := Int) _ (by assumption) ?_ | refine exR ?_ | refine gd (enters_of Tryz.func8 rfl rfl) h3 ?_ | refine gd (enters_of Tryz.func7 rfl rfl) hbg ?_ | refine tT ?_ | refine oB ?_ | refine And.intro rfl ?_ | refine exBR _ (by assumption) ?_ | refine exI 0 rfl rfl ?_)))
      exact ⟨eN, rS, fiO⟩
    · by_cases hi0 : i < 0
      · refine FnD.of1 (n := 72) [] fax_ok Tryz.func4 rfl rfl rfl (by rfl) (by kernel_rfl) (by intro _; rfl) fun Γ hA hbA => ?_
        (repeat ((conv => whnf); (first | refine exR ?_ | refine gd (enters_of Tryz.func7 rfl rfl) hbg ?_ | refine gd (enters_of Tryz.func8 rfl rfl) h1 ?_ | refine tT ?_ | refine tF ?_ | refine uT ?_ | refine uF ?_)))
        exact ⟨eN, rS, fiO⟩
      · have hi1 : (l.length : Int) ≤ i := by omega
        rw [← hL] at hi1
        refine FnD.of1 (n := 72) [] fax_ok Tryz.func4 rfl rfl rfl (by rfl) (by kernel_rfl) (by intro _; rfl) fun Γ hA hbA => ?_
        (repeat ((conv => whnf); (first | refine exR ?_ | refine gd (enters_of Tryz.func7 rfl rfl) hbg ?_ | refine gd (enters_of Tryz.func8 rfl rfl) h1 ?_ | refine tT ?_ | refine tF ?_ | refine uT ?_)))
        exact ⟨eN, rS, fiO⟩
  · have hne : (e != 0) = true := by simp [he]
    refine FnD.of1 (n := 72) [] fax_ok Tryz.func4 rfl rfl rfl (by rfl) (by kernel_rfl) (by intro _; rfl) fun Γ hA hbA => ?_
    (repeat ((conv => whnf); (first | refine exR ?_ | refine gd (enters_of Tryz.func7 rfl rfl) hbg ?_ | refine gd (enters_of Tryz.func8 rfl rfl) h1 ?_ | refine tT ?_ | refine tF ?_ | refine uF ?_)))
    exact ⟨eN, rS, fiO⟩
end Go.Proofs.YtngklbnodknadaaGreatDoor
end
