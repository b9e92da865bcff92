/-
  Rr, Ct, in one.
-/
import Derived.Test.YtddmcmkhjkleoaaGreatDoorMal
import Derived.Test.YtddmcmkhjkleoaaGreatDoorMba
section
namespace Go.Proofs.YtddmcmkhjkleoaaGreatDoor
open Go.RowKit

def blB (b : UInt8) : UInt8 := if b.toNat % 2 = 0 then 32 else 9
def frM (l : List UInt8) : List UInt8 := l.map blB
abbrev remT : List UInt8 := [32, 115, 111, 32, 34, 105, 116, 34, 32, 105, 115]
abbrev remS : List UInt8 := [35, 32, 115, 111, 32, 34, 105, 116, 34, 32, 105, 115, 10, 10]
def remG (fr : List UInt8) : Bool → List UInt8 → List UInt8
  | _, [] => []
  | st, c :: l => (if st = true then fr else []) ++ ((if c = 10 then fr ++ remS else [c]) ++ remG fr (c == 10) l)
def lastN (st : Bool) (l : List UInt8) : Bool := match l.getLast? with | none => st | some c => c == 10
theorem remG_snoc (fr : List UInt8) (c : UInt8) : ∀ (l : List UInt8) (st : Bool), remG fr st (l ++ [c]) = remG fr st l ++ ((if lastN st l = true then fr else []) ++ (if c = 10 then fr ++ remS else [c]))
  | [], st => by cases st <;> simp [remG, lastN]
  | d :: l, st => by
    rw [List.cons_append, remG, remG, remG_snoc fr c l (d == 10)]
    have e : lastN st (d :: l) = lastN (d == 10) l := by
      unfold lastN
      cases l with
      | nil => rfl
      | cons x l => rw [List.getLast?_cons_cons]; cases h : (x :: l).getLast? with
        | none => simp at h
        | some _ => rfl
    rw [e]
    simp
def startB (t : List UInt8) (i : Nat) : Bool := if i = 0 then true else t.getD (i - 1) 0 == 10
theorem remG_step {fr t : List UInt8} {i : Nat} {c : UInt8} (h : t[i]? = some c) : remG fr true (t.take (i + 1)) = (remG fr true (t.take i) ++ (if startB t i = true then fr else [])) ++ (if c = 10 then fr ++ remS else [c]) := by
  rw [List.take_add_one, h, Option.toList_some, remG_snoc, List.append_assoc]
  have e : lastN true (t.take i) = startB t i := by
    have hi := (List.getElem?_eq_some_iff.1 h).1
    unfold lastN startB
    by_cases h0 : i = 0
    · subst h0; rfl
    · rw [if_neg h0]
      have : (t.take i).getLast? = some (t.getD (i - 1) 0) := by
        rw [List.getLast?_eq_getElem?, List.length_take, Nat.min_eq_left (by omega), List.getElem?_take, if_pos (by omega), List.getElem?_eq_getElem (by omega)]
        congr 1
        rw [List.getD_eq_getElem?_getD, List.getElem?_eq_getElem (by omega)]; rfl
      rw [this]
  rw [e]
theorem remG_len (fr : List UInt8) (hf : fr.length ≤ 5) : ∀ (l : List UInt8) (st : Bool), (remG fr st l).length ≤ 24 * l.length
  | [], _ => by simp [remG]
  | c :: l, st => by
    have := remG_len fr hf l (c == 10)
    rw [remG, List.length_append, List.length_append, List.length_cons]
    have h1 : (if st = true then fr else []).length ≤ 5 := by split <;> simp [hf]
    have h2 : (if c = 10 then fr ++ remS else [c]).length ≤ 19 := by
      split
      · rw [List.length_append]; show fr.length + 14 ≤ 19; omega
      · simp
    omega
theorem remG_line (fr r : List UInt8) : ∀ (l : List UInt8), (∀ c ∈ l, c ≠ 10) → remG fr false (l ++ 10 :: r) = l ++ ((fr ++ remS) ++ remG fr true r)
  | [], _ => by rw [List.nil_append, remG]; simp
  | c :: l, h => by
    have hc : c ≠ 10 := h c (by simp)
    have e : (c == 10) = false := by simpa using hc
    rw [List.cons_append, remG, if_neg (by decide), if_neg hc, e, remG_line fr r l fun x hx => h x (by simp [hx])]
    simp
theorem remG_true (fr r l : List UInt8) (h : ∀ c ∈ l, c ≠ 10) : remG fr true (l ++ 10 :: r) = (fr ++ l) ++ ((fr ++ remS) ++ remG fr true r) := by
  cases l with
  | nil => rw [List.nil_append, remG]; simp
  | cons c l =>
    have hc : c ≠ 10 := h c (by simp)
    have e : (c == 10) = false := by simpa using hc
    rw [List.cons_append, remG, if_pos rfl, if_neg hc, e, remG_line fr r l fun x hx => h x (by simp [hx])]
    simp
theorem remG_text (fr : List UInt8) : ∀ ls : List (List UInt8), (∀ l ∈ ls, ∀ c ∈ l, c ≠ 10) → remG fr true (textOf ls) = textOf (ls.flatMap fun x => [fr ++ x ++ (fr ++ 35 :: remT), []])
  | [], _ => rfl
  | l :: ls, h => by
    rw [textOf_cons, remG_true fr _ l (h l (by simp)), remG_text fr ls fun x hx => h x (by simp [hx]), List.flatMap_cons, textOf_app]
    have : textOf [fr ++ l ++ (fr ++ 35 :: remT), []] = (fr ++ l) ++ (fr ++ remS) := by simp [textOf]
    rw [this]
    simp
theorem frM_blank (l : List UInt8) : ∀ c ∈ frM l, blankB c = true := fun c hc => by
  obtain ⟨b, -, rfl⟩ := List.mem_map.1 hc
  unfold blB; split <;> rfl
theorem readM_rem {p : PrR} (hp : PrIn p) (h : checkM p = 0) (bl : List UInt8) : readM (remG (frM bl) true (writeT p)) = (⟨[], [], []⟩, 2) ∨ readM (remG (frM bl) true (writeT p)) = (p, 0) := by
  have e : remG (frM bl) true (writeT p) = textOf ((linesP p).flatMap fun x => [frM bl ++ x ++ (frM bl ++ 35 :: remT), []]) := by
    rw [← linesP_text, remG_text _ _ (run_all hp h).nl]
  have h1 := read_rem hp h (frM bl) remT (frM_blank bl) (by decide)
  rw [← e] at h1
  unfold readM
  by_cases hl : 1048576 < (remG (frM bl) true (writeT p)).length
  · rw [if_pos hl]; exact .inl rfl
  · rw [if_neg hl, h1]
    dsimp only
    rw [if_pos h]; exact .inr rfl
theorem and1 (b : UInt8) : IntKind.u8.wrap ((BitVec.ofInt IntKind.u8.bits (b.toNat : Int) &&& BitVec.ofInt IntKind.u8.bits 1).toNat : Int) = ((b.toNat % 2 : Nat) : Int) := by
  have key : ∀ n : Fin 256, IntKind.u8.wrap ((BitVec.ofInt IntKind.u8.bits ((n.1 : Nat) : Int) &&& BitVec.ofInt IntKind.u8.bits 1).toNat : Int) = ((n.1 % 2 : Nat) : Int) := by decide +kernel
  exact key ⟨b.toNat, b.toNat_lt⟩
theorem frM_snoc {l : List UInt8} {i : Nat} {b : UInt8} (h : l[i]? = some b) : frM (l.take (i + 1)) = frM (l.take i) ++ [blB b] := by
  rw [List.take_add_one, h]; simp [frM]
theorem info_u8 : ∃ i, Tryz.prog.info? 5 = some i ∧ i.zero = some (.int .u8 0) ∧ i.size = 1 ∧ i.bytes = 1 := by
  have h1 : (Tryz.prog.info? 5).isSome = true := by kernel_rfl
  have h2 : (Tryz.prog.info? 5).bind (·.zero) = some (.int .u8 0) := by kernel_rfl
  have h3 : (Tryz.prog.info? 5).map (·.size) = some 1 := by kernel_rfl
  have h4 : (Tryz.prog.info? 5).map (·.bytes) = some 1 := by kernel_rfl
  obtain ⟨i, hi⟩ := Option.isSome_iff_exists.1 h1
  rw [hi] at h2 h3 h4
  exact ⟨i, hi, h2, by simpa using h3, by simpa using h4⟩
theorem start_cases (t : List UInt8) (i : Nat) (h : i < t.length) : (i = 0 ∧ startB t i = true) ∨ (0 < i ∧ ((i : Int) == 0) = false ∧ t[i - 1]? = some 10 ∧ startB t i = true) ∨ ∃ c, 0 < i ∧ ((i : Int) == 0) = false ∧ t[i - 1]? = some c ∧ ((c.toNat : Int) == 10) = false ∧ startB t i = false := by
  by_cases h0 : i = 0
  · exact .inl ⟨h0, by unfold startB; rw [if_pos h0]⟩
  · have hq : ((i : Int) == 0) = false := by rw [beq_eq_false_iff_ne]; omega
    have hx : t[i - 1]? = some t[i - 1] := List.getElem?_eq_getElem (by omega)
    have hg : t.getD (i - 1) 0 = t[i - 1] := by rw [List.getD_eq_getElem?_getD, hx]; rfl
    by_cases hc : t[i - 1] = 10
    · exact .inr (.inl ⟨by omega, hq, by rw [hx, hc], by unfold startB; rw [if_neg h0, hg, hc]; rfl⟩)
    · refine .inr (.inr ⟨_, by omega, hq, hx, ?_, by unfold startB; rw [if_neg h0, hg]; simpa using hc⟩)
      rw [beq_eq_false_iff_ne]
      intro e
      exact hc (UInt8.toNat_inj.1 (by have : (10 : UInt8).toNat = 10 := rfl; omega))
theorem exSl {n : Nat} {z u : Int} {K : Nat → Nat → Prop} (a b : Nat) (e1 : z = (a : Int)) (e2 : u = (b : Int)) (h1 : a ≤ b) (h2 : b ≤ n) (h : K a b) : ∃ a b : Nat, z = (a : Int) ∧ u = (b : Int) ∧ a ≤ b ∧ b ≤ n ∧ K a b := ⟨a, b, e1, e2, h1, h2, h⟩
set_option maxRecDepth 100000 in
set_option maxHeartbeats 4000000 in
theorem remarks_fn (p : PrR) (hp : PrIn p) (bl : List UInt8) (hl : checkM p = 0 → (writeT p).length ≤ 3000000000) : FnD Tryz.prog 4 [.d (prD p), strT bl] (boolT true) := by
  have hBg := begun_fn
  have hSp := sameprog_fn p
  by_cases h0 : checkM p = 0
  · have hW := write_fn p hp h0
    have hl := hl h0
    have hRd : ∀ fr, (∃ l, fr = frM l) → ∃ q f, FnD Tryz.prog 8 [strT (remG fr true (writeT p))] (.tup [.d (prD q), intT f]) ∧ (f = 2 ∨ (f = 0 ∧ q = p)) := fun fr ⟨l, e⟩ => by
      subst e
      refine ⟨_, _, read_fn _, ?_⟩
      rcases readM_rem hp h0 l with e | e <;> rw [e]
      · exact .inl rfl
      · exact .inr ⟨rfl, rfl⟩
    obtain ⟨ui, hu1, hu2, hu3, hu4⟩ := info_u8
    generalize writeT p = t at *
    refine FnD.of1 (n := 101) [1002, 9, 5080] fax_ok Tryz.func4 rfl rfl rfl (by rfl) (by kernel_rfl) (by intro _; rfl) fun Γ hA hbA => ?_
    (repeat ((conv => whnf); (first | refine exR ?_ | refine gd (enters_of Tryz.func6 rfl rfl) hBg ?_ | refine gd (enters_of Tryz.func7 rfl rfl) hW ?_ | refine tF ?_ | refine And.intro rfl ?_)))
    refine ev_loop [1002, 9, 5080] fax_ok hA (by kernel_rfl) (fun i : Nat => i ≤ bl.length ∧ i ≤ 5) (fun i => [(1, strT bl), (2, .pi [fnsD p.fns, vasD p.consts, txD p.texts]), (5, strT t), (7, strT (frM (bl.take i))), (8, intT i)]) (fun _ => []) (fun i => 5 - i) 0 ⟨Nat.zero_le _, Nat.zero_le _⟩ fiE fiO ?_
    rintro i ⟨hi, hi5⟩ hb -
    by_cases h : i < bl.length ∧ i < 5
    · obtain ⟨h1, h2⟩ := h
      have hx : bl[i]? = some bl[i] := List.getElem?_eq_getElem h1
      have hs := frM_snoc hx
      have ha := and1 bl[i]
      have hfl : (frM (bl.take i)).length ≤ 5 := by rw [frM, List.length_map, List.length_take]; omega
      have q1 : decide ((i : Int) < 5) = true := decide_eq_true (by omega)
      generalize hfs : frM (bl.take (i + 1)) = fr2 at *
      generalize frM (bl.take i) = fr at *
      unfold blB at hs
      generalize bl[i] = b at *
      have hm : b.toNat % 2 = 0 ∨ b.toNat % 2 = 1 := by omega
      rcases hm with hm | hm
      · rw [hm] at ha hs
        rw [if_pos rfl] at hs
        have hw : IntKind.u8.wrap (((0 : Nat) : Int) + 1) = ((1 : Nat) : Int) := rfl
        (repeat ((conv => whnf); (first | with_reducible refine exE (α := Int) _ (by assumption) ?_ | refine exR ?_ | refine tT ?_ | refine exB _ rfl (by assumption) ?_)))
        conv => whnf
        refine exSl 0 1 rfl rfl (by decide) (by decide) ?_
        have hcl : fr.length + 1 ≤ 9223372036854775807 := by omega
        (repeat ((conv => whnf); (first | with_reducible refine exE _ (w_inc (by omega)) ?_ | refine oB ?_ | refine lQ ?_)))
        refine ⟨i + 1, ⟨by omega, by omega⟩, by omega, (by rw [hfs, hs]; exact fiE), fiO⟩
      · rw [hm] at ha hs
        rw [if_neg (by decide)] at hs
        have hw : IntKind.u8.wrap (((1 : Nat) : Int) + 1) = ((2 : Nat) : Int) := rfl
        (repeat ((conv => whnf); (first | with_reducible refine exE (α := Int) _ (by assumption) ?_ | refine exR ?_ | refine tT ?_ | refine exB _ rfl (by assumption) ?_)))
        conv => whnf
        refine exSl 1 2 rfl rfl (by decide) (by decide) ?_
        have hcl : fr.length + 1 ≤ 9223372036854775807 := by omega
        (repeat ((conv => whnf); (first | with_reducible refine exE _ (w_inc (by omega)) ?_ | refine oB ?_ | refine lQ ?_)))
        refine ⟨i + 1, ⟨by omega, by omega⟩, by omega, (by rw [hfs, hs]; exact fiE), fiO⟩
    · obtain ⟨fr, hfr⟩ : ∃ fr, frM (bl.take i) = fr := ⟨_, rfl⟩
      have hfl : fr.length ≤ 5 := by rw [← hfr, frM, List.length_map, List.length_take]; omega
      obtain ⟨q, f, hR, hf⟩ := hRd fr ⟨_, hfr.symm⟩
      rw [hfr]
      have hcc : (decide ((i : Int) < (bl.length : Int)) = false) ∨ (decide ((i : Int) < (bl.length : Int)) = true ∧ decide ((i : Int) < 5) = false) := by
        by_cases h1 : i < bl.length
        · exact .inr ⟨decide_eq_true (by omega), decide_eq_false (by omega)⟩
        · exact .inl (decide_eq_false (by omega))
      clear h
      have hk : ∀ {E0 : En} {L0 : Ob} {Q0 : QE}, True := fun {_ _ _} => trivial
      rcases hcc with hc1 | ⟨hc1, hc2⟩
      all_goals
        (repeat ((conv => whnf); (first | refine exR ?_ | refine tT ?_ | refine tF ?_ | refine And.intro rfl ?_)))
        refine ev_loop [1002, 9, 5080] fax_ok hA (by kernel_rfl) (fun j : Nat => j ≤ t.length) (fun j => [(2, .pi [fnsD p.fns, vasD p.consts, txD p.texts]), (5, strT t), (7, strT fr), (9, .own 1 (byD (remG fr true (t.take j))) 9), (10, intT j)]) (fun j => [(9, .row 5 1 (byD (remG fr true (t.take j))))]) (fun j => t.length - j) 0 (Nat.zero_le _) fiE fiO ?_
        rintro j hj hb2 -
        have hUl := remG_len fr hfl (t.take j) true
        have hjl : (t.take j).length ≤ t.length := by rw [List.length_take]; omega
        by_cases h2 : j < t.length
        · have hx : t[j]? = some t[j] := List.getElem?_eq_getElem h2
          have hs := remG_step (fr := fr) hx
          have hsc := start_cases t j h2
          obtain ⟨U2, hU2⟩ : ∃ U2, remG fr true (t.take (j + 1)) = U2 := ⟨_, rfl⟩
          rw [hU2] at hs
          generalize remG fr true (t.take j) = U at *
          generalize t[j] = c at *
          have hUb : U.length ≤ 72000000000 := by omega
          have hcc : c = 10 ∨ (c ≠ 10 ∧ ((c.toNat : Int) == 10) = false) := by
            by_cases e : c = 10
            · exact .inl e
            · refine .inr ⟨e, ?_⟩
              rw [beq_eq_false_iff_ne]
              intro e2
              exact e (UInt8.toNat_inj.1 (by have : (10 : UInt8).toNat = 10 := rfl; omega))
          rcases hcc with rfl | ⟨hc10, hcq⟩
          all_goals rcases hsc with ⟨rfl, hsb⟩ | ⟨hj0, hq0, hx0, hsb⟩ | ⟨c0, hj0, hq0, hx0, hc0, hsb⟩
          all_goals
            first | rw [if_pos hsb] at hs | rw [hsb, if_neg (by decide), List.append_nil] at hs
            first | rw [if_pos rfl] at hs | rw [if_neg hc10] at hs
            (repeat ((conv => whnf); (first | with_reducible refine exE _ (w_dec (by omega) (by omega)) ?_ | refine exR ?_ | refine tT ?_ | refine tF ?_ | refine uT ?_ | refine uF ?_ | refine lQ ?_ | refine exB _ rfl (by assumption) ?_)))
            try
              refine gen_one (t_app_str (m := fr) (e := 5) rfl (by kernel_rfl) (by kernel_rfl) hu1 hu2 hu3 hu4 rfl rfl (by first | omega | (simp only [List.length_append]; omega) | (simp; omega))) rfl ?_
              (repeat ((conv => whnf); (first | refine exR ?_ | refine tT ?_ | refine tF ?_ | refine lQ ?_ | refine exB _ rfl (by assumption) ?_)))
            first
              | refine gen_one (t_app_str (m := fr ++ remS) (e := 5) rfl (by kernel_rfl) (by kernel_rfl) hu1 hu2 hu3 hu4 rfl rfl (by first | omega | (simp only [List.length_append]; omega) | (simp; omega))) rfl ?_
              | refine gen_one (t_append9 (e := 5) (k := 1) (b := 1) (m := [.v (.int .u8 c.toNat)]) rfl (by kernel_rfl) rfl (TLe.of_eq rfl) (by simp only [List.length_map, List.length_append, List.length_cons, List.length_nil]; omega)) rfl ?_
            (repeat ((conv => whnf); with_reducible refine exE _ (w_inc (by omega)) ?_))
            refine ⟨_ + 1, ?_, ?_, (by first | (rw [hU2, hs]; exact fiE) | (rw [hU2, hs, byD_snoc]; exact fiE)), (by first | (rw [hU2, hs]; exact fiO) | (rw [hU2, hs, byD_snoc]; exact fiO))⟩ <;> omega
        · have ht : t.take j = t := List.take_of_length_le (by omega)
          rw [ht]
          (repeat ((conv => whnf); (first | refine exR ?_ | refine tF ?_)))
          refine gen_nil (conv_bytes (l := remG fr true t) (e := 5) rfl (by kernel_rfl) (by kernel_rfl) (by kernel_rfl) rfl) ?_
          skip
          refine gd (enters_of Tryz.func8 rfl rfl) hR ?_
          rcases hf with rfl | ⟨rfl, rfl⟩
          · (repeat ((conv => whnf); (first | refine exR ?_ | refine gd (enters_of Tryz.func6 rfl rfl) hBg ?_ | refine tT ?_ | refine uF ?_ | refine And.intro rfl ?_)))
            exact ⟨eN, rS, fiO⟩
          · (repeat ((conv => whnf); (first | refine exR ?_ | refine gd (enters_of Tryz.func6 rfl rfl) hBg ?_ | refine gd (enters_of Tryz.func9 rfl rfl) hSp ?_ | refine tT ?_ | refine tF ?_ | refine uT ?_ | refine And.intro rfl ?_)))
            exact ⟨eN, rS, fiO⟩
  · have hW := write_bad p hp _ rfl h0
    generalize checkM p = e at *
    have hq : (e != 0) = true := bne_iff_ne.2 h0
    refine FnD.of1 (n := 101) [1002, 9, 5080] fax_ok Tryz.func4 rfl rfl rfl (by rfl) (by kernel_rfl) (by intro _; rfl) fun Γ hA hbA => ?_
    (repeat ((conv => whnf); (first | refine exR ?_ | refine gd (enters_of Tryz.func6 rfl rfl) hBg ?_ | refine gd (enters_of Tryz.func7 rfl rfl) hW ?_ | refine tT ?_ | refine tF ?_ | refine And.intro rfl ?_)))
    exact ⟨eN, rS, fiO⟩
end Go.Proofs.YtddmcmkhjkleoaaGreatDoor
end

section
namespace Go.Proofs.YtddmcmkhjkleoaaGreatDoor
open Go.RowKit

/-! ### What a beginning is, place by place -/
structure FAt (n i : Nat) (x y : FnR) : Prop where
  params : x.params = y.params
  gen : x.gen = y.gen
  len : x.code.length ≤ y.code.length
  all : i + 1 < n → x.code = y.code
  most : ∀ k a b, x.code[k]? = some a → y.code[k]? = some b → k + 1 < x.code.length → a = b
theorem FAt.refl (n i : Nat) (x : FnR) : FAt n i x x := ⟨rfl, rfl, Nat.le_refl _, fun _ => rfl, fun k a b h1 h2 _ => by rw [h1] at h2; cases h2; rfl⟩
theorem Beg.fnsAt {q p : PrR} (h : Beg q p) : q.fns.length ≤ p.fns.length ∧ ∀ i x y, q.fns[i]? = some x → p.fns[i]? = some y → FAt q.fns.length i x y := by
  rcases h.fns with e | ⟨j, x0, y0, e, hj, hp, hg, hc⟩
  · rw [e]; exact ⟨Nat.zero_le _, fun i x y h1 => by simp at h1⟩
  · have hjl := (List.getElem?_eq_some_iff.1 hj).1
    have hl : (p.fns.take j).length = j := by rw [List.length_take]; omega
    have hn : q.fns.length = j + 1 := by rw [e, List.length_append, hl]; rfl
    refine ⟨by omega, fun i x y h1 h2 => ?_⟩
    have hi := (List.getElem?_eq_some_iff.1 h1).1
    by_cases hij : i < j
    · rw [e, List.getElem?_append_left (by omega), List.getElem?_take, if_pos hij, h2] at h1
      cases h1
      exact .refl _ _ _
    · have hie : i = j := by omega
      subst hie
      rw [e, List.getElem?_append_right (by omega), hl, Nat.sub_self] at h1
      cases h1
      rw [hj] at h2
      cases h2
      refine ⟨hp, hg, ?_, fun h => by omega, fun k a b h3 h4 h5 => ?_⟩
      · rcases hc with hc | ⟨m, z, hm, hc⟩
        · exact hc.length_le
        · rw [hc, List.length_append, List.length_take]; simp; omega
      · rcases hc with hc | ⟨m, z, hm, hc⟩
        · obtain ⟨r, hr⟩ := hc
          rw [← hr, List.getElem?_append_left (by omega), h3] at h4
          cases h4; rfl
        · rw [hc, List.length_append, List.length_singleton, List.length_take] at h5
          rw [hc, List.getElem?_append_left (by rw [List.length_take]; omega), List.getElem?_take, if_pos (by omega), h4] at h3
          cases h3; rfl
theorem Beg.textsAt {q p : PrR} (h : Beg q p) : q.texts.length ≤ p.texts.length ∧ ∀ i, i < q.texts.length → p.texts[i]? = q.texts[i]? := by
  obtain ⟨r, hr⟩ := h.texts
  refine ⟨h.texts.length_le, fun i hi => ?_⟩
  rw [← hr, List.getElem?_append_left hi]
theorem bins_gen (x y : InR) : ∃ c, BinR Tryz.prog .neq 41 (.agg #[.int .i64 x.op, .int .i64 x.a, .int .i64 x.b, .int .i64 x.c, .int .i64 x.line]) (.agg #[.int .i64 y.op, .int .i64 y.a, .int .i64 y.b, .int .i64 y.c, .int .i64 y.line]) (.bool c) ∧ (x = y → c = false) := by
  by_cases e : x = y
  · subst e
    exact ⟨false, bins_ne x.op x.a x.b x.c x.line, fun _ => rfl⟩
  · refine ⟨!(x.op == y.op && (x.a == y.a && (x.b == y.b && (x.c == y.c && (x.line == y.line && true))))), ?_, fun h => absurd h e⟩
    intro o1 o2 w
    have h : (Op.equalIn 10000 41 (.agg #[.int .i64 x.op, .int .i64 x.a, .int .i64 x.b, .int .i64 x.c, .int .i64 x.line]) (.agg #[.int .i64 y.op, .int .i64 y.a, .int .i64 y.b, .int .i64 y.c, .int .i64 y.line])).run Tryz.prog w = .ok (x.op == y.op && (x.a == y.a && (x.b == y.b && (x.c == y.c && (x.line == y.line && true))))) w := by
      rw [show (10000 : Nat) = 9999 + 1 from rfl, run_equalIn_struct w 9999 41 _ _ uIns (by kernel_rfl), eqFields_of w 9999 _ _ _ [(3, 0, x.op == y.op), (3, 1, x.a == y.a), (3, 2, x.b == y.b), (3, 3, x.c == y.c), (3, 4, x.line == y.line)] (by kernel_rfl) fun k hk => ?_]
      · simp
      · simp only [List.mem_cons, List.not_mem_nil, or_false] at hk
        rcases hk with rfl | rfl | rfl | rfl | rfl
        all_goals exact ⟨_, _, part_int _ _ _ w rfl, part_int _ _ _ w rfl, eq_int _ w _ _⟩
    generalize (x.op == y.op && (x.a == y.a && (x.b == y.b && (x.c == y.c && (x.line == y.line && true))))) = c at *
    have hg : (eqGuard .neq 41 o1 o2 (.agg #[.int .i64 x.op, .int .i64 x.a, .int .i64 x.b, .int .i64 x.c, .int .i64 x.line]) (.agg #[.int .i64 y.op, .int .i64 y.a, .int .i64 y.b, .int .i64 y.c, .int .i64 y.line])).run Tryz.prog w = .ok () w := by kernel_rfl
    rw [Sem.run_bind, hg]
    simp only [Result.andThen_ok]
    show (do pure (.bool (!(← Op.equal 41 _ _))) : Sem Value).run Tryz.prog w = _
    unfold Op.equal
    simp only [Sem.run_bind]
    rw [show Op.maxDepth = 10000 from rfl, h]
    rfl
set_option maxRecDepth 100000 in
set_option maxHeartbeats 4000000 in
theorem cutL_fn (p : PrR) (hp : PrIn p) (at_ : Int) : FnD Tryz.prog 5 [.d (prD p), intT at_] (boolT true) := by
  have hBg := begun_fn
  by_cases h0 : checkM p = 0
  · have hW := write_fn p hp h0
    have hRd : ∀ n, ∃ q f, FnD Tryz.prog 8 [strT ((writeT p).take n)] (.tup [.d (prD q), intT f]) ∧ ((q = ⟨[], [], []⟩ ∧ (f != 0) = true) ∨ (f = 0 ∧ Beg q p)) := fun n => by
      refine ⟨_, _, read_fn _, ?_⟩
      have hc := fun q => read_cut (q := q) hp h0 n
      generalize (writeT p).take n = s at *
      unfold readM
      by_cases hl : 1048576 < s.length
      · rw [if_pos hl]; exact .inl ⟨rfl, rfl⟩
      · rw [if_neg hl]
        cases hr : readL (linesM s) with
        | none => exact .inl ⟨rfl, rfl⟩
        | some q =>
          dsimp only
          by_cases hq : checkM q = 0
          · rw [if_pos hq]; exact .inr ⟨rfl, hc q hr⟩
          · rw [if_neg hq]; exact .inl ⟨rfl, bne_iff_ne.2 hq⟩
    generalize writeT p = t at *
    by_cases hr : at_ < 0 ∨ (t.length : Int) < at_
    · have hrr : decide (at_ < 0) = true ∨ (decide (at_ < 0) = false ∧ decide ((t.length : Int) < at_) = true) := by
        by_cases h1 : at_ < 0
        · exact .inl (decide_eq_true h1)
        · exact .inr ⟨decide_eq_false h1, decide_eq_true (hr.resolve_left h1)⟩
      rcases hrr with h1 | ⟨h1, h2⟩
      all_goals
        refine FnD.of1 (n := 187) [1002] fax_ok Tryz.func5 rfl rfl rfl (by rfl) (by kernel_rfl) (by intro _; rfl) fun Γ hA hbA => ?_
        (repeat ((conv => whnf); (first | refine exR ?_ | refine gd (enters_of Tryz.func6 rfl rfl) hBg ?_ | refine gd (enters_of Tryz.func7 rfl rfl) hW ?_ | refine tT ?_ | refine tF ?_ | refine uT ?_ | refine uF ?_ | refine And.intro rfl ?_)))
        exact ⟨eN, rS, fiO⟩
    · obtain ⟨n, rfl⟩ : ∃ n : Nat, at_ = n := ⟨at_.toNat, by omega⟩
      have hn : n ≤ t.length := by omega
      have h1 : decide ((n : Int) < 0) = false := decide_eq_false (by omega)
      have h2 : decide ((t.length : Int) < (n : Int)) = false := decide_eq_false (by omega)
      obtain ⟨q, f, hR, hf⟩ := hRd n
      rcases hf with ⟨rfl, hf⟩ | ⟨rfl, hf⟩
      · refine FnD.of1 (n := 187) [1002] fax_ok Tryz.func5 rfl rfl rfl (by rfl) (by kernel_rfl) (by intro _; rfl) fun Γ hA hbA => ?_
        (repeat ((conv => whnf); (first | refine exR ?_ | refine gd (enters_of Tryz.func6 rfl rfl) hBg ?_ | refine gd (enters_of Tryz.func7 rfl rfl) hW ?_ | refine gd (enters_of Tryz.func8 rfl rfl) hR ?_ | refine tT ?_ | refine tF ?_ | refine uT ?_ | refine And.intro rfl ?_ | refine nA _ rfl ?_)))
        exact ⟨eN, rS, fiO⟩
      · obtain ⟨k1, k2⟩ := hf.fnsAt
        obtain ⟨k3, k4⟩ := hf.textsAt
        have k5 := hf.consts
        obtain ⟨fs, cs, ts⟩ := p
        obtain ⟨qf, qc, qt⟩ := q
        dsimp only at k1 k2 k3 k4 k5
        change FnD _ _ _ (.tup [.d (.agg [fnsD qf, vasD qc, txD qt]), intT 0]) at hR
        change FnD _ _ [.d (.agg [fnsD fs, vasD cs, txD ts])] _ at hW
        show FnD _ _ [.d (.agg [fnsD fs, vasD cs, txD ts]), _] _
        have e1 : (fs.map fnD).length = fs.length := List.length_map _
        have e2 : (cs.map vaD).length = cs.length := List.length_map _
        have e3 : (ts.map strD).length = ts.length := List.length_map _
        have e4 : (qf.map fnD).length = qf.length := List.length_map _
        have e5 : (qc.map vaD).length = qc.length := List.length_map _
        have e6 : (qt.map strD).length = qt.length := List.length_map _
        refine FnD.of1 (n := 187) [1002] fax_ok Tryz.func5 rfl rfl rfl (by rfl) (by kernel_rfl) (by intro _; rfl) fun Γ hA hbA => ?_
        (repeat ((conv => whnf); (first | refine exR ?_ | refine gd (enters_of Tryz.func6 rfl rfl) hBg ?_ | refine gd (enters_of Tryz.func7 rfl rfl) hW ?_ | refine gd (enters_of Tryz.func8 rfl rfl) hR ?_ | refine tF ?_ | refine uT ?_ | refine And.intro rfl ?_ | refine nA _ rfl ?_)))
        refine ev_loop [1002] fax_ok hA (by kernel_rfl) (fun i : Nat => i ≤ qt.length) (fun i => [(2, .pi [fnsD fs, vasD cs, txD ts]), (7, .ref 7 0), (9, intT i)]) (fun _ => [(7, .cells 26 [.d (fnsD qf), .d (vasD qc), .d (txD qt)])]) (fun i => qt.length - i) 0 (Nat.zero_le _) fiE fiO ?_
        rintro i hi hb hbO
        have hlen : (qt.map strD).length ≤ 9223372036854775807 := hbO.1.2.2.1
        have hlenf : (qf.map fnD).length ≤ 9223372036854775807 := hbO.1.1
        by_cases h : i < qt.length
        · have hx : (qt.map strD)[i]? = some (strD qt[i]) := by rw [List.getElem?_map, List.getElem?_eq_getElem h, Option.map_some]
          have hx2 : (ts.map strD)[i]? = some (strD qt[i]) := by rw [List.getElem?_map, k4 i h, List.getElem?_eq_getElem h, Option.map_some]
          have hc : (!(qt[i] == qt[i])) = false := by simp
          generalize qt[i] = u at *
          (repeat ((conv => whnf); (first | with_reducible refine exE _ (w_inc (by omega)) ?_ | refine exR ?_ | refine tT ?_ | refine tF ?_ | refine oB ?_ | refine exI _ rfl (by assumption) ?_)))
          exact ⟨i + 1, by omega, by omega, fiE, fiO⟩
        · (repeat ((conv => whnf); (first | refine exR ?_ | refine tF ?_)))
          refine ev_loop [1002] fax_ok hA (by kernel_rfl) (fun i : Nat => i ≤ qf.length) (fun i => [(2, .pi [fnsD fs, vasD cs, txD ts]), (7, .ref 7 0), (10, intT i)]) (fun _ => [(7, .cells 26 [.d (fnsD qf), .d (vasD qc), .d (txD qt)])]) (fun i => qf.length - i) 0 (Nat.zero_le _) fiE fiO ?_
          rintro i hi hb hbO
          by_cases h : i < qf.length
          · have hx0 : qf[i]? = some qf[i] := List.getElem?_eq_getElem h
            have hy0 : fs[i]? = some (fs[i]'(by omega)) := List.getElem?_eq_getElem (by omega)
            have hx : (qf.map fnD)[i]? = some (fnD qf[i]) := by rw [List.getElem?_map, hx0, Option.map_some]
            have hy : (fs.map fnD)[i]? = some (fnD (fs[i]'(by omega))) := by rw [List.getElem?_map, hy0, Option.map_some]
            have hF := k2 i _ _ hx0 hy0
            generalize qf[i] = x at *
            generalize fs[i]'(by omega) = y at *
            obtain ⟨a, b, c, d, e⟩ := x
            obtain ⟨a', b', c', d', e'⟩ := y
            obtain ⟨f1, f2, f3, f4, f5⟩ := hF
            dsimp only at f1 f2 f3 f4 f5
            subst f1 f2
            change (qf.map fnD)[i]? = some (.agg [iD a, iD b, bD c, isD d, codeD e]) at hx
            change (fs.map fnD)[i]? = some (.agg [iD a, iD b', bD c, isD d', codeD e']) at hy
            have q1 : (a != a) = false := by simp
            have q3 : (c != c) = false := by simp
            have g1 : (e.map inD).length = e.length := List.length_map _
            have g2 : (e'.map inD).length = e'.length := List.length_map _
            have hdec : (decide ((i : Int) < (((qf.map fnD).length - 1 : Nat) : Int)) = false ∧ ¬ i + 1 < qf.length) ∨ (decide ((i : Int) < (((qf.map fnD).length - 1 : Nat) : Int)) = true ∧ e = e') := by
              by_cases h3 : i + 1 < qf.length
              · exact .inr ⟨decide_eq_true (by omega), f4 h3⟩
              · exact .inl ⟨decide_eq_false (by omega), h3⟩
            rcases hdec with ⟨hdec, h3⟩ | ⟨hdec, rfl⟩
            · (repeat ((conv => whnf); (first | with_reducible refine exE _ (w_dec (by omega) (by omega)) ?_ | refine exR ?_ | refine tT ?_ | refine tF ?_ | refine uT ?_ | refine oB ?_ | refine And.intro rfl ?_ | refine exI _ rfl (by assumption) ?_)))
              refine ev_loop [1002] fax_ok hA (by kernel_rfl) (fun k : Nat => k ≤ e.length) (fun k => [(2, .pi [fnsD fs, vasD cs, txD ts]), (7, .ref 7 0), (10, intT i), (11, .ref 11 0), (12, .ref 12 0), (13, intT k)]) (fun _ => [(7, .cells 26 [.d (fnsD qf), .d (vasD qc), .d (txD qt)]), (11, .cells 39 [.d (iD a), .d (iD b), .d (bD c), .d (isD d), .d (codeD e)]), (12, .cells 39 [.d (iD a), .d (iD b'), .d (bD c), .d (isD d'), .d (codeD e')])]) (fun k => e.length - k) 0 (Nat.zero_le _) fiE fiO ?_
              rintro k hk hb1 hbO1
              have hlen5 : (e.map inD).length ≤ 9223372036854775807 := hbO1.2.1.2.2.2.2.1
              by_cases h2 : k < e.length
              · have hz0 : e[k]? = some e[k] := List.getElem?_eq_getElem h2
                have hz : (e.map inD)[k]? = some (inD e[k]) := by rw [List.getElem?_map, hz0, Option.map_some]
                have hy1 : e'[k]? = some (e'[k]'(by omega)) := List.getElem?_eq_getElem (by omega)
                have hy2 : (e'.map inD)[k]? = some (inD (e'[k]'(by omega))) := by rw [List.getElem?_map, hy1, Option.map_some]
                have hm := f5 k _ _ hz0 hy1
                obtain ⟨cc, hcc, hce⟩ := bins_gen e[k] (e'[k]'(by omega))
                generalize e[k] = z1 at *
                generalize e'[k]'(by omega) = z2 at *
                have hl2 : k + 1 < e.length ∨ decide ((k : Int) < (((e.map inD).length - 1 : Nat) : Int)) = false := by
                  by_cases h4 : k + 1 < e.length
                  · exact .inl h4
                  · exact .inr (decide_eq_false (by omega))
                cases cc with
                | false =>
                  (repeat ((conv => whnf); (first | with_reducible refine exE _ (w_inc (by omega)) ?_ | refine exR ?_ | refine tT ?_ | refine tF ?_ | refine oB ?_ | refine And.intro rfl ?_ | refine exBR _ (by assumption) ?_ | refine exI _ rfl (by assumption) ?_)))
                  exact ⟨k + 1, by omega, by omega, fiE, fiO⟩
                | true =>
                  have hl3 := hl2.resolve_left fun h => by
                    have := hce (hm h)
                    cases this
                  (repeat ((conv => whnf); (first | with_reducible refine exE _ (w_inc (by omega)) ?_ | with_reducible refine exE _ (w_dec (by omega) (by omega)) ?_ | refine exR ?_ | refine tT ?_ | refine tF ?_ | refine uT ?_ | refine oB ?_ | refine And.intro rfl ?_ | refine exBR _ (by assumption) ?_ | refine exI _ rfl (by assumption) ?_)))
                  exact ⟨k + 1, by omega, by omega, fiE, fiO⟩
              · (repeat ((conv => whnf); (first | with_reducible refine exE _ (w_inc (by omega)) ?_ | refine exR ?_ | refine tF ?_)))
                exact ⟨i + 1, by omega, by omega, fiE, fiO⟩
            · (repeat ((conv => whnf); (first | with_reducible refine exE _ (w_dec (by omega) (by omega)) ?_ | refine exR ?_ | refine tT ?_ | refine tF ?_ | refine uT ?_ | refine oB ?_ | refine And.intro rfl ?_ | refine exI _ rfl (by assumption) ?_)))
              refine ev_loop [1002] fax_ok hA (by kernel_rfl) (fun k : Nat => k ≤ e.length) (fun k => [(2, .pi [fnsD fs, vasD cs, txD ts]), (7, .ref 7 0), (10, intT i), (11, .ref 11 0), (12, .ref 12 0), (13, intT k)]) (fun _ => [(7, .cells 26 [.d (fnsD qf), .d (vasD qc), .d (txD qt)]), (11, .cells 39 [.d (iD a), .d (iD b), .d (bD c), .d (isD d), .d (codeD e)]), (12, .cells 39 [.d (iD a), .d (iD b'), .d (bD c), .d (isD d'), .d (codeD e)])]) (fun k => e.length - k) 0 (Nat.zero_le _) fiE fiO ?_
              rintro k hk hb1 hbO1
              have hlen5 : (e.map inD).length ≤ 9223372036854775807 := hbO1.2.1.2.2.2.2.1
              by_cases h2 : k < e.length
              · have hz0 : e[k]? = some e[k] := List.getElem?_eq_getElem h2
                have hz : (e.map inD)[k]? = some (inD e[k]) := by rw [List.getElem?_map, hz0, Option.map_some]
                have hcc := bins_ne e[k].op e[k].a e[k].b e[k].c e[k].line
                generalize e[k] = z1 at *
                (repeat ((conv => whnf); (first | with_reducible refine exE _ (w_inc (by omega)) ?_ | refine exR ?_ | refine tT ?_ | refine tF ?_ | refine oB ?_ | refine And.intro rfl ?_ | refine exBR _ (by assumption) ?_ | refine exI _ rfl (by assumption) ?_)))
                exact ⟨k + 1, by omega, by omega, fiE, fiO⟩
              · (repeat ((conv => whnf); (first | with_reducible refine exE _ (w_inc (by omega)) ?_ | refine exR ?_ | refine tF ?_)))
                exact ⟨i + 1, by omega, by omega, fiE, fiO⟩
          · (repeat ((conv => whnf); (first | refine exR ?_ | refine gd (enters_of Tryz.func6 rfl rfl) hBg ?_ | refine tF ?_)))
            exact ⟨eN, rS, fiO⟩
  · have hW := write_bad p hp _ rfl h0
    generalize checkM p = e at *
    have hq : (e != 0) = true := bne_iff_ne.2 h0
    refine FnD.of1 (n := 187) [1002] fax_ok Tryz.func5 rfl rfl rfl (by rfl) (by kernel_rfl) (by intro _; rfl) fun Γ hA hbA => ?_
    (repeat ((conv => whnf); (first | refine exR ?_ | refine gd (enters_of Tryz.func6 rfl rfl) hBg ?_ | refine gd (enters_of Tryz.func7 rfl rfl) hW ?_ | refine tT ?_ | refine tF ?_ | refine uF ?_ | refine And.intro rfl ?_)))
    exact ⟨eN, rS, fiO⟩
end Go.Proofs.YtddmcmkhjkleoaaGreatDoor
end
