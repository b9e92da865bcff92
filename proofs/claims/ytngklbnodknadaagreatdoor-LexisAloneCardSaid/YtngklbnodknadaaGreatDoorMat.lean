/-
  Th, Tf, Ti, Tk, Tj, Ua, Ub, in one.
-/
import Derived.Test.YtngklbnodknadaaGreatDoorMal
import Derived.Test.YtngklbnodknadaaGreatDoorMas
import Derived.Shelf.Strings.SplitShaped
import Derived.Shelf.Strings.Prefix
import Derived.Shelf.Strings.Count
import Derived.ChangeKeysEq
section
namespace Go.Proofs.YtngklbnodknadaaGreatDoor
open Go.RowKit

theorem ascii_tab {w : World} (h : TabsIn w) : Lib.TabIs Tryz.prog w "strings.asciiSpace" .u8 Lib.asciiSpaceTab := by
  obtain ⟨cs, t, fr, rfl, h1⟩ := h.one (0, (· = asciiV)) (by unfold tabs; simp)
  unfold Lib.TabIs World.var?
  rw [show Tryz.prog.globalNamed "strings.asciiSpace" = some 0 from by kernel_rfl]
  simp only [Option.bind_some, h1]
  kernel_rfl
abbrev ssD (l : List (List UInt8)) : D := .sl 1 (l.map strD)
theorem rep_ss (S : Sm) : ∀ l : List (List UInt8), RepLv S 1 (l.map strD) (l.map fun x => Value.string ⟨x.toArray⟩)
  | [] => .nil
  | x :: l => by
    show RepLv S 1 (strD x :: l.map strD) ([Value.string ⟨x.toArray⟩] ++ l.map fun x => Value.string ⟨x.toArray⟩)
    exact .cons (.cons (.v rfl) rfl .nil) rfl (rep_ss S l)
theorem fields_fn (s : List UInt8) (hs : s.length < 4294967281) (ha : ∀ b ∈ s, b.toNat < 128) (hb : (Lib.fields s).length ≤ 9223372036854775807) : FnD Tryz.prog 27 [strT s] (.d (ssD (Lib.fields s))) := by
  intro w g vs ht hi hr
  cases hr with
  | cons r0 hr =>
  cases hr
  obtain rfl := inv_v r0
  have hc := Any.strings_Fields_laid Tryz.fields ⟨s.toArray⟩ w (by rw [str_size]; exact hs) (fun j b hj => ha b (List.mem_of_getElem? hj)) (ascii_tab ht)
  change Calls Tryz.prog 27 _ _ _ at hc
  refine hc.mono ?_
  rintro e w' ⟨rfl, rfl⟩
  have hB : Below w.heap.size w (w.alloc (.cells ((Lib.fields s).map fun l => Value.string ⟨l.toArray⟩).toArray 9)) := (Below.refl _ w).alloc (Nat.le_refl _) _
  have hk := Blk.mk_ w ((Lib.fields s).map fun l => Value.string ⟨l.toArray⟩).toArray 9 rfl
  refine ⟨_, behS g.S w _, rfl, behS_le _ hi, fun b o h _ => behS_old b o h, behS_imm hi hB, .d (rep_new (p := some ⟨w.heap.size, 0, none⟩) (n := (Lib.fields s).length) (cap := (Lib.fields s).length) (xs := (Lib.fields s).map fun l => Value.string ⟨l.toArray⟩) ?_ ?_ (by rw [List.length_map]) fun S => rep_ss S _), hB⟩
  · refine ⟨⟨w.heap.size, 0, fun _ => ⟨rfl, by simp⟩, fun i hi => ?_⟩, by simp, Nat.le_refl _, hb, fun h => by cases h⟩
    rw [Nat.zero_add]
    refine Eq.trans (hk.cell i) ?_
    simp
  · rintro a ⟨rfl⟩
    exact Nat.le_refl _
def idxM (w : List UInt8) : List (List UInt8) → Nat → Int
  | [], _ => -1
  | x :: l, i => if x = w then (i : Int) else idxM w l (i + 1)
theorem index_fn (l : List (List UInt8)) (w : List UInt8) (r : Int) (hr : idxM w l 0 = r) : FnD Tryz.prog 35 [.d (ssD l), strT w] (intT r) := by
  have hlm : (l.map strD).length = l.length := List.length_map _
  refine FnD.of1 (n := 19) [] fax_ok Tryz.func35 rfl rfl rfl (by rfl) (by kernel_rfl) (by intro _; rfl) fun Γ hA hbA => ?_
  skip
  refine ev_loop [] fax_ok hA (by kernel_rfl) (fun i : Nat => i ≤ l.length ∧ idxM w (l.drop i) i = r) (fun i => [(0, .d (ssD l)), (1, strT w), (7, intT (l.map strD).length), (8, intT i)]) (fun _ => []) (fun i => l.length - i) 0 ⟨Nat.zero_le _, by simpa using hr⟩ fiE fiO ?_
  rintro i ⟨hi, hri⟩ hb -
  have hlen : (l.map strD).length ≤ 9223372036854775807 := hb.1
  by_cases h : i < l.length
  · have hx : (l.map strD)[i]? = some (strD l[i]) := by rw [List.getElem?_map, List.getElem?_eq_getElem h, Option.map_some]
    rw [List.drop_eq_getElem_cons h, idxM] at hri
    generalize l[i] = x at *
    by_cases he : x = w
    · subst he
      rw [if_pos rfl] at hri
      subst hri
      have hbe2 : (x == x) = true := by simp
      (repeat ((conv => whnf); (first | refine exR ?_ | refine tT ?_ | refine exI _ rfl (by assumption) ?_)))
      exact ⟨eN, rS, fiO⟩
    · rw [if_neg he] at hri
      have hbe2 : (w == x) = false := by simpa using fun e => he e.symm
      (repeat ((conv => whnf); (first | with_reducible refine exE _ (w_inc (by omega)) ?_ | refine exR ?_ | refine tT ?_ | refine tF ?_ | refine exI _ rfl (by assumption) ?_)))
      exact ⟨i + 1, ⟨by omega, hri⟩, by omega, fiE, fiO⟩
  · obtain rfl : i = l.length := by omega
    rw [List.drop_length] at hri
    replace hri : -1 = r := hri
    subst hri
    (repeat ((conv => whnf); (first | refine exR ?_ | refine tF ?_)))
    exact ⟨eN, rS, fiO⟩
theorem idxM_iff (w : List UInt8) : ∀ (l : List (List UInt8)) (i : Nat), 0 ≤ idxM w l i ↔ w ∈ l
  | [], i => by simp [idxM]
  | x :: l, i => by
    rw [idxM]
    by_cases h : x = w
    · subst h; simp
    · rw [if_neg h, idxM_iff w l (i + 1), List.mem_cons]
      exact ⟨.inr, fun h' => h'.elim (fun e => absurd e.symm h) id⟩
theorem has_fn (l : List (List UInt8)) (w : List UInt8) : FnD Tryz.prog 22 [.d (ssD l), strT w] (boolT (decide (w ∈ l))) := by
  have h := index_fn l w _ rfl
  rw [show decide (w ∈ l) = decide (0 ≤ idxM w l 0) from decide_eq_decide.2 (idxM_iff w l 0).symm]
  generalize idxM w l 0 = r at *
  refine FnD.of1 (n := 9) [] fax_ok Tryz.func22 rfl rfl rfl (by rfl) (by kernel_rfl) (by intro _; rfl) fun Γ hA hbA => ?_
  (repeat ((conv => whnf); (first | refine exR ?_ | refine gd (enters_of Tryz.func35 rfl rfl) h ?_)))
  exact ⟨eN, rS, fiO⟩
theorem hasP_fn (s p : List UInt8) : FnD Tryz.prog 28 [strT s, strT p] (boolT (Lib.hasPrefix s p)) := FnD.flat1 rfl fun w g xs _ hr => by
  cases hr with
  | cons h1 hr =>
    cases hr with
    | cons h2 hr =>
      cases hr
      cases inv_v h1
      cases inv_v h2
      refine (Any.strings_HasPrefix Tryz.hasP ⟨s.toArray⟩ ⟨p.toArray⟩ w).mono fun e w' ⟨e1, e2⟩ => ?_
      subst e2
      exact ⟨by rw [e1], Below.refl _ _⟩
theorem count_fn (s : List UInt8) (c : UInt8) : FnD Tryz.prog 13 [strT s, strT [c]] (intT (s.count c : Nat)) := FnD.flat1 rfl fun w g xs _ hr => by
  cases hr with
  | cons h1 hr =>
    cases hr with
    | cons h2 hr =>
      cases hr
      cases inv_v h1
      cases inv_v h2
      refine (Any.strings_Count_one Tryz.count ⟨s.toArray⟩ c w).mono fun e w' ⟨e1, e2⟩ => ?_
      subst e2
      exact ⟨by rw [e1]; rfl, Below.refl _ _⟩
theorem words_len : wordsL.length = 27 := by decide +kernel
theorem marks_len : marksL.length = 22 := by decide +kernel
set_option maxRecDepth 100000 in
theorem words_f : FnD Tryz.prog 27 [strT wordsT] (.d (ssD wordsL)) := fields_fn wordsT (by decide) (by decide) (by have := words_len; unfold wordsL at this; omega)
set_option maxRecDepth 100000 in
theorem marks_f : FnD Tryz.prog 27 [strT marksT] (.d (ssD marksL)) := fields_fn marksT (by decide) (by decide) (by have := marks_len; unfold marksL at this; omega)
set_option maxRecDepth 100000 in
theorem words_fn : FnD Tryz.prog 23 [] (.d (ssD wordsL)) := by
  have h := words_f
  refine FnD.of1 (n := 2) [] fax_ok Tryz.func23 rfl rfl rfl (by rfl) (by kernel_rfl) (by intro _; rfl) fun Γ hA hbA => ?_
  (repeat ((conv => whnf); refine gd (enters_of Tryz.func27 rfl rfl) h ?_))
  exact ⟨eN, rS, fiO⟩
end Go.Proofs.YtngklbnodknadaaGreatDoor
end

section
namespace Go.Proofs.YtngklbnodknadaaGreatDoor
open Go.RowKit

theorem dg_iff {c : UInt8} : isDgB c = true ↔ isDg c := isDgB_iff
/-- What a float's digits are. -/
theorem num_take {s : List UInt8} {n m : Nat} (hn : runN isDgB s = n) (hm : runN isDgB (s.drop (n + 1)) = m) (h1 : 1 ≤ n) (h46 : s[n]? = some 46) (hm1 : 1 ≤ m) (hl : n + 1 + m ≤ s.length) : NumS (s.take (n + 1 + m)) n := by
  refine ⟨h1, by rw [List.length_take]; omega, by rw [List.getElem?_take, if_pos (by omega)]; exact h46, fun i c hc hi => ?_⟩
  rw [List.getElem?_take] at hc
  split at hc
  · next h =>
    rcases Nat.lt_or_ge i n with q | q
    · exact dg_iff.1 (runN_all (by rw [hn]; exact q) hc)
    · refine dg_iff.1 (runN_all (l := s.drop (n + 1)) (i := i - (n + 1)) (by rw [hm]; omega) ?_)
      rw [List.getElem?_drop, show n + 1 + (i - (n + 1)) = i by omega]
      exact hc
  · cases hc
/-- The byte behind a number: a letter, or none. -/
theorem let_cases (s : List UInt8) (k : Nat) : (∃ c, s[k]? = some c ∧ k < s.length ∧ isLet c = true) ∨ (∃ c, s[k]? = some c ∧ k < s.length ∧ isLet c = false) ∨ (s[k]? = none ∧ s.length ≤ k) := by
  rcases Nat.lt_or_ge k s.length with h | h
  · obtain ⟨c, hg⟩ := get_ex h
    cases hl : isLet c with
    | true => exact .inl ⟨c, hg, h, hl⟩
    | false => exact .inr (.inl ⟨c, hg, h, hl⟩)
  · exact .inr (.inr ⟨List.getElem?_eq_none h, h⟩)
set_option maxRecDepth 100000 in
set_option maxHeartbeats 8000000 in
theorem number_fn (s : List UInt8) (hs : s.length ≤ 1000000) (c : UInt8) (l : List UInt8) (hsc : s = c :: l) (hcd : isDgB c = true) : FnD Tryz.prog 25 [strT s] (oneT (numM pfM s)) := by
  have hrun := run_dg s (by omega)
  have hn1 : 1 ≤ runN isDgB s := by rw [hsc]; exact runN_pos hcd
  have hn2 := runN_le isDgB s
  have hfi : ∀ {c0 c1 : UInt8}, s[runN isDgB s]? = some c0 → s[runN isDgB s + 1]? = some c1 → isFl s = (decide (c0 = 46) && isDgB c1) := fun a b => isFl_in a b
  have hfo : ¬ runN isDgB s + 1 < s.length → isFl s = false := isFl_out
  have hto : toN s = if isFl s = true then runN isDgB s + 1 + runN isDgB (s.drop (runN isDgB s + 1)) else runN isDgB s := rfl
  have hds : ∀ x ∈ s.take (runN isDgB s), isDg x := fun x hx => by
    obtain ⟨i, hi, rfl⟩ := List.mem_iff_getElem.1 hx
    rw [List.length_take] at hi
    rw [List.getElem_take]
    exact dg_iff.1 (runN_all (l := s) (i := i) (by omega) (List.getElem?_eq_getElem (by omega)))
  have hnt : ∀ m, runN isDgB (s.drop (runN isDgB s + 1)) = m → s[runN isDgB s]? = some 46 → 1 ≤ m → runN isDgB s + 1 + m ≤ s.length → NumS (s.take (runN isDgB s + 1 + m)) (runN isDgB s) := fun m hm h46 hm1 hl => num_take rfl hm hn1 h46 hm1 hl
  unfold numM
  generalize hn : runN isDgB s = n at *
  have hw1 : IntKind.i64.wrap ((n : Int) + 1) = ((n + 1 : Nat) : Int) := i_nat (by omega) (by omega)
  cases hf : isFl s with
  | true =>
    rw [hf, if_pos rfl] at hto
    have hlt : n + 1 < s.length := by
      refine Classical.byContradiction fun h => ?_
      have := hfo h
      rw [hf] at this; cases this
    obtain ⟨c0, g0⟩ := get_ex (l := s) (i := n) (by omega)
    obtain ⟨c1, g1⟩ := get_ex hlt
    have h2 := hfi g0 g1
    rw [hf] at h2
    have h3 : decide (c0 = 46) = true ∧ isDgB c1 = true := by
      cases q : decide (c0 = 46) with
      | true => rw [q, Bool.true_and] at h2; exact ⟨rfl, h2.symm⟩
      | false => rw [q, Bool.false_and] at h2; cases h2
    obtain ⟨h46, hd1⟩ := h3
    have h46 : c0 = 46 := of_decide_eq_true h46
    subst h46
    have hdig := digit_fn c1
    rw [hd1] at hdig
    have hrun2 := run_dg (s.drop (n + 1)) (by rw [List.length_drop]; omega)
    have hm2 := runN_le isDgB (s.drop (n + 1))
    rw [List.length_drop] at hm2
    have hm1 : 1 ≤ runN isDgB (s.drop (n + 1)) := by
      obtain ⟨h4, h5⟩ := List.getElem?_eq_some_iff.1 g1
      rw [List.drop_eq_getElem_cons h4, h5]
      exact runN_pos hd1
    have hnt := hnt _ rfl g0 hm1 (by omega)
    generalize runN isDgB (s.drop (n + 1)) = m at *
    have hw2 : IntKind.i64.wrap (((n + 1 : Nat) : Int) + (m : Int)) = ((n + 1 + m : Nat) : Int) := i_nat (by omega) (by omega)
    have hpf := pfl_fn (s.take (n + 1 + m)) n hnt (by rw [List.length_take]; omega)
    clear hfi hfo hds hnt h2
    rcases let_cases s (toN s) with ⟨c2, g2, hl2, hc2⟩ | h
    · rw [g2, if_pos (show letAt (some c2) = true from hc2), if_pos rfl]
      rw [hto] at g2 hl2 ⊢
      have hlet := letter_fn c2
      rw [hc2] at hlet
      refine FnD.ofT (n := 89) [] fax_ok Tryz.func25 rfl rfl rfl (by rfl) (by kernel_rfl) (by intro _; rfl) fun Γ hA hbA => ?_
      (repeat ((conv => whnf); (first | with_reducible refine exE (α := Int) _ (by assumption) ?_ | refine exR ?_ | refine gd (enters_of Tryz.func16 rfl rfl) hrun ?_ | refine gd (enters_of Tryz.func24 rfl rfl) hdig ?_ | refine gd (enters_of Tryz.func16 rfl rfl) hrun2 ?_ | refine gd (enters_of Tryz.func20 rfl rfl) hlet ?_ | refine tT ?_ | refine And.intro rfl ?_ | refine exB _ rfl (by assumption) ?_ | refine nA _ rfl ?_)))
      exact ⟨eN, rS, fiO⟩
    · have hno : letAt s[toN s]? = false := by
        rcases h with ⟨c2, g2, -, hc2⟩ | ⟨g2, -⟩
        · rw [g2]; exact hc2
        · rw [g2]; rfl
      rw [hno, if_neg (by decide), if_pos rfl]
      rw [hto] at h ⊢
      clear hno
      rcases h with ⟨c2, g2, hl2, hc2⟩ | ⟨g2, hl2⟩
      · have hlet := letter_fn c2
        rw [hc2] at hlet
        by_cases h20 : 20 < n + 1 + m
        · rw [if_pos h20]
          refine FnD.ofT (n := 89) [] fax_ok Tryz.func25 rfl rfl rfl (by rfl) (by kernel_rfl) (by intro _; rfl) fun Γ hA hbA => ?_
          (repeat ((conv => whnf); (first | with_reducible refine exE (α := Int) _ (by assumption) ?_ | refine exR ?_ | refine gd (enters_of Tryz.func16 rfl rfl) hrun ?_ | refine gd (enters_of Tryz.func24 rfl rfl) hdig ?_ | refine gd (enters_of Tryz.func16 rfl rfl) hrun2 ?_ | refine gd (enters_of Tryz.func20 rfl rfl) hlet ?_ | refine gd (enters_of Tryz.func36 rfl rfl) hpf ?_ | refine tT ?_ | refine tF ?_ | refine And.intro rfl ?_ | refine exB _ rfl (by assumption) ?_ | refine nA _ rfl ?_)))
          refine gen_nil (t_bits rfl rfl) ?_
          (repeat ((conv => whnf); (first | refine exR ?_ | refine tT ?_)))
          exact ⟨eN, rS, fiO⟩
        · rw [if_neg h20]
          refine FnD.ofT (n := 89) [] fax_ok Tryz.func25 rfl rfl rfl (by rfl) (by kernel_rfl) (by intro _; rfl) fun Γ hA hbA => ?_
          (repeat ((conv => whnf); (first | with_reducible refine exE (α := Int) _ (by assumption) ?_ | refine exR ?_ | refine gd (enters_of Tryz.func16 rfl rfl) hrun ?_ | refine gd (enters_of Tryz.func24 rfl rfl) hdig ?_ | refine gd (enters_of Tryz.func16 rfl rfl) hrun2 ?_ | refine gd (enters_of Tryz.func20 rfl rfl) hlet ?_ | refine gd (enters_of Tryz.func36 rfl rfl) hpf ?_ | refine tT ?_ | refine tF ?_ | refine And.intro rfl ?_ | refine exB _ rfl (by assumption) ?_ | refine nA _ rfl ?_)))
          refine gen_nil (t_bits rfl rfl) ?_
          (repeat ((conv => whnf); (first | refine exR ?_ | refine tF ?_)))
          exact ⟨eN, rS, fiO⟩
      · by_cases h20 : 20 < n + 1 + m
        · rw [if_pos h20]
          refine FnD.ofT (n := 89) [] fax_ok Tryz.func25 rfl rfl rfl (by rfl) (by kernel_rfl) (by intro _; rfl) fun Γ hA hbA => ?_
          (repeat ((conv => whnf); (first | with_reducible refine exE (α := Int) _ (by assumption) ?_ | refine exR ?_ | refine gd (enters_of Tryz.func16 rfl rfl) hrun ?_ | refine gd (enters_of Tryz.func24 rfl rfl) hdig ?_ | refine gd (enters_of Tryz.func16 rfl rfl) hrun2 ?_ | refine gd (enters_of Tryz.func36 rfl rfl) hpf ?_ | refine tT ?_ | refine tF ?_ | refine And.intro rfl ?_ | refine exB _ rfl (by assumption) ?_ | refine nA _ rfl ?_)))
          refine gen_nil (t_bits rfl rfl) ?_
          (repeat ((conv => whnf); (first | refine exR ?_ | refine tT ?_)))
          exact ⟨eN, rS, fiO⟩
        · rw [if_neg h20]
          refine FnD.ofT (n := 89) [] fax_ok Tryz.func25 rfl rfl rfl (by rfl) (by kernel_rfl) (by intro _; rfl) fun Γ hA hbA => ?_
          (repeat ((conv => whnf); (first | with_reducible refine exE (α := Int) _ (by assumption) ?_ | refine exR ?_ | refine gd (enters_of Tryz.func16 rfl rfl) hrun ?_ | refine gd (enters_of Tryz.func24 rfl rfl) hdig ?_ | refine gd (enters_of Tryz.func16 rfl rfl) hrun2 ?_ | refine gd (enters_of Tryz.func36 rfl rfl) hpf ?_ | refine tT ?_ | refine tF ?_ | refine And.intro rfl ?_ | refine exB _ rfl (by assumption) ?_ | refine nA _ rfl ?_)))
          refine gen_nil (t_bits rfl rfl) ?_
          (repeat ((conv => whnf); (first | refine exR ?_ | refine tF ?_)))
          exact ⟨eN, rS, fiO⟩
  | false =>
    rw [hf, if_neg (by decide)] at hto
    have hv : (¬ n + 1 < s.length) ∨ (n + 1 < s.length ∧ ∃ c0 c1, s[n]? = some c0 ∧ s[n + 1]? = some c1 ∧ ((c0.toNat : Int) == 46) = false) ∨ (n + 1 < s.length ∧ ∃ c1, s[n]? = some (46 : UInt8) ∧ s[n + 1]? = some c1 ∧ FnD Tryz.prog 24 [u8T c1] (boolT false)) := by
      by_cases hlt : n + 1 < s.length
      · obtain ⟨c0, g0⟩ := get_ex (l := s) (i := n) (by omega)
        obtain ⟨c1, g1⟩ := get_ex hlt
        have h2 := hfi g0 g1
        rw [hf] at h2
        by_cases h46 : c0 = 46
        · subst h46
          have hdig := digit_fn c1
          rw [show isDgB c1 = false by simpa using h2] at hdig
          exact .inr (.inr ⟨hlt, c1, g0, g1, hdig⟩)
        · exact .inr (.inl ⟨hlt, c0, c1, g0, g1, by rw [show ((c0.toNat : Int) == 46) = decide (c0 = 46) from eqB c0 46]; exact decide_eq_false h46⟩)
      · exact .inl hlt
    clear hfi hfo hnt
    rcases let_cases s n with ⟨c2, g2, hl2, hc2⟩ | h
    · rw [hto, g2, if_pos (show letAt (some c2) = true from hc2), if_neg (by decide)]
      have hlet := letter_fn c2
      rw [hc2] at hlet
      rcases hv with hv | ⟨hv, c0, c1, g0, g1, h46⟩ | ⟨hv, c1, g0, g1, hdig⟩
      · skip
        refine FnD.ofT (n := 89) [] fax_ok Tryz.func25 rfl rfl rfl (by rfl) (by kernel_rfl) (by intro _; rfl) fun Γ hA hbA => ?_
        (repeat ((conv => whnf); (first | with_reducible refine exE (α := Int) _ (by assumption) ?_ | refine exR ?_ | refine gd (enters_of Tryz.func16 rfl rfl) hrun ?_ | refine gd (enters_of Tryz.func20 rfl rfl) hlet ?_ | refine tT ?_ | refine tF ?_ | refine And.intro rfl ?_ | refine exB _ rfl (by assumption) ?_)))
        exact ⟨eN, rS, fiO⟩
      · have e := Option.some.inj (g0.symm.trans g2)
        subst e
        refine FnD.ofT (n := 89) [] fax_ok Tryz.func25 rfl rfl rfl (by rfl) (by kernel_rfl) (by intro _; rfl) fun Γ hA hbA => ?_
        (repeat ((conv => whnf); (first | with_reducible refine exE (α := Int) _ (by assumption) ?_ | refine exR ?_ | refine gd (enters_of Tryz.func16 rfl rfl) hrun ?_ | refine gd (enters_of Tryz.func20 rfl rfl) hlet ?_ | refine tT ?_ | refine tF ?_ | refine And.intro rfl ?_ | refine exB _ rfl (by assumption) ?_)))
        exact ⟨eN, rS, fiO⟩
      · have e := Option.some.inj (g0.symm.trans g2)
        subst e
        exact absurd hc2 (by decide)
    · have hno : letAt s[n]? = false := by
        rcases h with ⟨c2, g2, -, hc2⟩ | ⟨g2, -⟩
        · rw [g2]; exact hc2
        · rw [g2]; rfl
      rw [hto, hno, if_neg (by decide), if_neg (by decide)]
      clear hno
      by_cases h10 : 10 < n
      · rw [if_pos h10]
        rcases h with ⟨c2, g2, hl2, hc2⟩ | ⟨g2, hl2⟩
        · have hlet := letter_fn c2
          rw [hc2] at hlet
          rcases hv with hv | ⟨hv, c0, c1, g0, g1, h46⟩ | ⟨hv, c1, g0, g1, hdig⟩
          · skip
            refine FnD.ofT (n := 89) [] fax_ok Tryz.func25 rfl rfl rfl (by rfl) (by kernel_rfl) (by intro _; rfl) fun Γ hA hbA => ?_
            (repeat ((conv => whnf); (first | with_reducible refine exE (α := Int) _ (by assumption) ?_ | refine exR ?_ | refine gd (enters_of Tryz.func16 rfl rfl) hrun ?_ | refine gd (enters_of Tryz.func20 rfl rfl) hlet ?_ | refine tT ?_ | refine tF ?_ | refine And.intro rfl ?_ | refine exB _ rfl (by assumption) ?_)))
            exact ⟨eN, rS, fiO⟩
          · have e := Option.some.inj (g0.symm.trans g2)
            subst e
            refine FnD.ofT (n := 89) [] fax_ok Tryz.func25 rfl rfl rfl (by rfl) (by kernel_rfl) (by intro _; rfl) fun Γ hA hbA => ?_
            (repeat ((conv => whnf); (first | with_reducible refine exE (α := Int) _ (by assumption) ?_ | refine exR ?_ | refine gd (enters_of Tryz.func16 rfl rfl) hrun ?_ | refine gd (enters_of Tryz.func20 rfl rfl) hlet ?_ | refine tT ?_ | refine tF ?_ | refine And.intro rfl ?_ | refine exB _ rfl (by assumption) ?_)))
            exact ⟨eN, rS, fiO⟩
          · have e := Option.some.inj (g0.symm.trans g2)
            subst e
            refine FnD.ofT (n := 89) [] fax_ok Tryz.func25 rfl rfl rfl (by rfl) (by kernel_rfl) (by intro _; rfl) fun Γ hA hbA => ?_
            (repeat ((conv => whnf); (first | with_reducible refine exE (α := Int) _ (by assumption) ?_ | refine exR ?_ | refine gd (enters_of Tryz.func16 rfl rfl) hrun ?_ | refine gd (enters_of Tryz.func24 rfl rfl) hdig ?_ | refine gd (enters_of Tryz.func20 rfl rfl) hlet ?_ | refine tT ?_ | refine tF ?_ | refine And.intro rfl ?_ | refine exB _ rfl (by assumption) ?_)))
            exact ⟨eN, rS, fiO⟩
        · skip
          rcases hv with hv | ⟨hv, c0, c1, g0, g1, h46⟩ | ⟨hv, c1, g0, g1, hdig⟩
          · skip
            refine FnD.ofT (n := 89) [] fax_ok Tryz.func25 rfl rfl rfl (by rfl) (by kernel_rfl) (by intro _; rfl) fun Γ hA hbA => ?_
            (repeat ((conv => whnf); (first | with_reducible refine exE (α := Int) _ (by assumption) ?_ | refine exR ?_ | refine gd (enters_of Tryz.func16 rfl rfl) hrun ?_ | refine tT ?_ | refine tF ?_ | refine And.intro rfl ?_)))
            exact ⟨eN, rS, fiO⟩
          · exact absurd hl2 (by omega)
          · exact absurd hl2 (by omega)
      · rw [if_neg h10]
        have hat := atoi_fn (s.take n) (by rw [List.length_take]; omega) hds (fun e => by have h9 := congrArg List.length e; rw [List.length_take, List.length_nil] at h9; omega)
        generalize decV (s.take n) 0 = v at *
        by_cases hmx : 2147483647 < v
        · rw [if_pos hmx]
          rcases h with ⟨c2, g2, hl2, hc2⟩ | ⟨g2, hl2⟩
          · have hlet := letter_fn c2
            rw [hc2] at hlet
            rcases hv with hv | ⟨hv, c0, c1, g0, g1, h46⟩ | ⟨hv, c1, g0, g1, hdig⟩
            · skip
              refine FnD.ofT (n := 89) [] fax_ok Tryz.func25 rfl rfl rfl (by rfl) (by kernel_rfl) (by intro _; rfl) fun Γ hA hbA => ?_
              (repeat ((conv => whnf); (first | with_reducible refine exE (α := Int) _ (by assumption) ?_ | refine exR ?_ | refine gd (enters_of Tryz.func16 rfl rfl) hrun ?_ | refine gd (enters_of Tryz.func20 rfl rfl) hlet ?_ | refine gd (enters_of Tryz.func38 rfl rfl) hat ?_ | refine tT ?_ | refine tF ?_ | refine And.intro rfl ?_ | refine exB _ rfl (by assumption) ?_ | refine nA _ rfl ?_)))
              exact ⟨eN, rS, fiO⟩
            · have e := Option.some.inj (g0.symm.trans g2)
              subst e
              refine FnD.ofT (n := 89) [] fax_ok Tryz.func25 rfl rfl rfl (by rfl) (by kernel_rfl) (by intro _; rfl) fun Γ hA hbA => ?_
              (repeat ((conv => whnf); (first | with_reducible refine exE (α := Int) _ (by assumption) ?_ | refine exR ?_ | refine gd (enters_of Tryz.func16 rfl rfl) hrun ?_ | refine gd (enters_of Tryz.func20 rfl rfl) hlet ?_ | refine gd (enters_of Tryz.func38 rfl rfl) hat ?_ | refine tT ?_ | refine tF ?_ | refine And.intro rfl ?_ | refine exB _ rfl (by assumption) ?_ | refine nA _ rfl ?_)))
              exact ⟨eN, rS, fiO⟩
            · have e := Option.some.inj (g0.symm.trans g2)
              subst e
              refine FnD.ofT (n := 89) [] fax_ok Tryz.func25 rfl rfl rfl (by rfl) (by kernel_rfl) (by intro _; rfl) fun Γ hA hbA => ?_
              (repeat ((conv => whnf); (first | with_reducible refine exE (α := Int) _ (by assumption) ?_ | refine exR ?_ | refine gd (enters_of Tryz.func16 rfl rfl) hrun ?_ | refine gd (enters_of Tryz.func24 rfl rfl) hdig ?_ | refine gd (enters_of Tryz.func20 rfl rfl) hlet ?_ | refine gd (enters_of Tryz.func38 rfl rfl) hat ?_ | refine tT ?_ | refine tF ?_ | refine And.intro rfl ?_ | refine exB _ rfl (by assumption) ?_ | refine nA _ rfl ?_)))
              exact ⟨eN, rS, fiO⟩
          · skip
            rcases hv with hv | ⟨hv, c0, c1, g0, g1, h46⟩ | ⟨hv, c1, g0, g1, hdig⟩
            · skip
              refine FnD.ofT (n := 89) [] fax_ok Tryz.func25 rfl rfl rfl (by rfl) (by kernel_rfl) (by intro _; rfl) fun Γ hA hbA => ?_
              (repeat ((conv => whnf); (first | with_reducible refine exE (α := Int) _ (by assumption) ?_ | refine exR ?_ | refine gd (enters_of Tryz.func16 rfl rfl) hrun ?_ | refine gd (enters_of Tryz.func38 rfl rfl) hat ?_ | refine tT ?_ | refine tF ?_ | refine And.intro rfl ?_ | refine nA _ rfl ?_)))
              exact ⟨eN, rS, fiO⟩
            · exact absurd hl2 (by omega)
            · exact absurd hl2 (by omega)
        · rw [if_neg hmx]
          rcases h with ⟨c2, g2, hl2, hc2⟩ | ⟨g2, hl2⟩
          · have hlet := letter_fn c2
            rw [hc2] at hlet
            rcases hv with hv | ⟨hv, c0, c1, g0, g1, h46⟩ | ⟨hv, c1, g0, g1, hdig⟩
            · skip
              refine FnD.ofT (n := 89) [] fax_ok Tryz.func25 rfl rfl rfl (by rfl) (by kernel_rfl) (by intro _; rfl) fun Γ hA hbA => ?_
              (repeat ((conv => whnf); (first | with_reducible refine exE (α := Int) _ (by assumption) ?_ | refine exR ?_ | refine gd (enters_of Tryz.func16 rfl rfl) hrun ?_ | refine gd (enters_of Tryz.func20 rfl rfl) hlet ?_ | refine gd (enters_of Tryz.func38 rfl rfl) hat ?_ | refine tT ?_ | refine tF ?_ | refine And.intro rfl ?_ | refine exB _ rfl (by assumption) ?_ | refine nA _ rfl ?_)))
              exact ⟨eN, rS, fiO⟩
            · have e := Option.some.inj (g0.symm.trans g2)
              subst e
              refine FnD.ofT (n := 89) [] fax_ok Tryz.func25 rfl rfl rfl (by rfl) (by kernel_rfl) (by intro _; rfl) fun Γ hA hbA => ?_
              (repeat ((conv => whnf); (first | with_reducible refine exE (α := Int) _ (by assumption) ?_ | refine exR ?_ | refine gd (enters_of Tryz.func16 rfl rfl) hrun ?_ | refine gd (enters_of Tryz.func20 rfl rfl) hlet ?_ | refine gd (enters_of Tryz.func38 rfl rfl) hat ?_ | refine tT ?_ | refine tF ?_ | refine And.intro rfl ?_ | refine exB _ rfl (by assumption) ?_ | refine nA _ rfl ?_)))
              exact ⟨eN, rS, fiO⟩
            · have e := Option.some.inj (g0.symm.trans g2)
              subst e
              refine FnD.ofT (n := 89) [] fax_ok Tryz.func25 rfl rfl rfl (by rfl) (by kernel_rfl) (by intro _; rfl) fun Γ hA hbA => ?_
              (repeat ((conv => whnf); (first | with_reducible refine exE (α := Int) _ (by assumption) ?_ | refine exR ?_ | refine gd (enters_of Tryz.func16 rfl rfl) hrun ?_ | refine gd (enters_of Tryz.func24 rfl rfl) hdig ?_ | refine gd (enters_of Tryz.func20 rfl rfl) hlet ?_ | refine gd (enters_of Tryz.func38 rfl rfl) hat ?_ | refine tT ?_ | refine tF ?_ | refine And.intro rfl ?_ | refine exB _ rfl (by assumption) ?_ | refine nA _ rfl ?_)))
              exact ⟨eN, rS, fiO⟩
          · skip
            rcases hv with hv | ⟨hv, c0, c1, g0, g1, h46⟩ | ⟨hv, c1, g0, g1, hdig⟩
            · skip
              refine FnD.ofT (n := 89) [] fax_ok Tryz.func25 rfl rfl rfl (by rfl) (by kernel_rfl) (by intro _; rfl) fun Γ hA hbA => ?_
              (repeat ((conv => whnf); (first | with_reducible refine exE (α := Int) _ (by assumption) ?_ | refine exR ?_ | refine gd (enters_of Tryz.func16 rfl rfl) hrun ?_ | refine gd (enters_of Tryz.func38 rfl rfl) hat ?_ | refine tF ?_ | refine And.intro rfl ?_ | refine nA _ rfl ?_)))
              exact ⟨eN, rS, fiO⟩
            · exact absurd hl2 (by omega)
            · exact absurd hl2 (by omega)
end Go.Proofs.YtngklbnodknadaaGreatDoor
end

section
namespace Go.Proofs.YtngklbnodknadaaGreatDoor
open Go.RowKit

set_option maxRecDepth 100000 in
set_option maxHeartbeats 8000000 in
theorem one_fn (s : List UInt8) (hs : s.length ≤ 1000000) (h0 : 1 ≤ s.length) : FnD Tryz.prog 12 [strT s] (oneT (oneM pfM s)) := by
  obtain ⟨c, l, hsc⟩ : ∃ c l, s = c :: l := by
    cases s with
    | nil => simp at h0
    | cons c l => exact ⟨c, l, rfl⟩
  have hg : s[0]? = some c := by rw [hsc]; rfl
  have hlet := letter_fn c
  have hdig := digit_fn c
  have h34 : ((c.toNat : Int) == 34) = decide (c = 34) := eqB c 34
  have e : oneM pfM s = if isLet c = true then (if 40 < runN isSig s then (tok0, 2) else if s.take (runN isSig s) ∈ wordsL then (⟨1, [], 0, 0, (runN isSig s : Nat), 0⟩, 0) else (⟨2, [], 0, 0, (runN isSig s : Nat), 0⟩, 0)) else if isDgB c = true then numM pfM s else if c = 34 then quoM s else markM s := by rw [hsc]; rfl
  rw [e]
  cases hl : isLet c with
  | true =>
    rw [hl] at hlet
    rw [if_pos rfl]
    have hrun := run_sg s (by omega)
    have hle := runN_le isSig s
    generalize runN isSig s = n at *
    by_cases h40 : 40 < n
    · rw [if_pos h40]
      refine FnD.ofT (n := 55) [] fax_ok Tryz.func12 rfl rfl rfl (by rfl) (by kernel_rfl) (by intro _; rfl) fun Γ hA hbA => ?_
      (repeat ((conv => whnf); (first | refine exR ?_ | refine gd (enters_of Tryz.func20 rfl rfl) hlet ?_ | refine gd (enters_of Tryz.func16 rfl rfl) hrun ?_ | refine tT ?_ | refine And.intro rfl ?_ | refine exB _ rfl (by assumption) ?_)))
      exact ⟨eN, rS, fiO⟩
    · rw [if_neg h40]
      have hw := words_fn
      have hh := has_fn wordsL (s.take n)
      by_cases hm : s.take n ∈ wordsL
      · rw [if_pos hm]
        rw [decide_eq_true hm] at hh
        generalize wordsL = W at *
        refine FnD.ofT (n := 55) [] fax_ok Tryz.func12 rfl rfl rfl (by rfl) (by kernel_rfl) (by intro _; rfl) fun Γ hA hbA => ?_
        (repeat ((conv => whnf); (first | refine exR ?_ | refine gd (enters_of Tryz.func20 rfl rfl) hlet ?_ | refine gd (enters_of Tryz.func16 rfl rfl) hrun ?_ | refine gd (enters_of Tryz.func23 rfl rfl) hw ?_ | refine gd (enters_of Tryz.func22 rfl rfl) hh ?_ | refine tT ?_ | refine tF ?_ | refine oB ?_ | refine And.intro rfl ?_ | refine exB _ rfl (by assumption) ?_ | refine nA _ rfl ?_)))
        exact ⟨eN, rS, fiO⟩
      · rw [if_neg hm]
        rw [decide_eq_false hm] at hh
        generalize wordsL = W at *
        refine FnD.ofT (n := 55) [] fax_ok Tryz.func12 rfl rfl rfl (by rfl) (by kernel_rfl) (by intro _; rfl) fun Γ hA hbA => ?_
        (repeat ((conv => whnf); (first | refine exR ?_ | refine gd (enters_of Tryz.func20 rfl rfl) hlet ?_ | refine gd (enters_of Tryz.func16 rfl rfl) hrun ?_ | refine gd (enters_of Tryz.func23 rfl rfl) hw ?_ | refine gd (enters_of Tryz.func22 rfl rfl) hh ?_ | refine tT ?_ | refine tF ?_ | refine oB ?_ | refine And.intro rfl ?_ | refine exB _ rfl (by assumption) ?_ | refine nA _ rfl ?_)))
        exact ⟨eN, rS, fiO⟩
  | false =>
    rw [hl] at hlet
    rw [if_neg (by decide)]
    cases hd : isDgB c with
    | true =>
      rw [hd] at hdig
      rw [if_pos rfl]
      have hnum := number_fn s hs c l hsc hd
      generalize numM pfM s = R at *
      obtain ⟨⟨r1, r2, r3, r4, r5, r6⟩, r7⟩ := R
      unfold oneT tokD at hnum ⊢
      dsimp only at hnum ⊢
      refine FnD.ofT (n := 55) [] fax_ok Tryz.func12 rfl rfl rfl (by rfl) (by kernel_rfl) (by intro _; rfl) fun Γ hA hbA => ?_
      (repeat ((conv => whnf); (first | refine gd (enters_of Tryz.func20 rfl rfl) hlet ?_ | refine gd (enters_of Tryz.func24 rfl rfl) hdig ?_ | refine gd (enters_of Tryz.func25 rfl rfl) hnum ?_ | refine tT ?_ | refine tF ?_ | refine And.intro rfl ?_ | refine exB _ rfl (by assumption) ?_)))
      exact ⟨eN, rS, fiO⟩
    | false =>
      rw [hd] at hdig
      rw [if_neg (by decide)]
      by_cases hq : c = 34
      · rw [if_pos hq]
        rw [decide_eq_true hq] at h34
        have hquo := quoted_fn s hs h0
        generalize quoM s = R at *
        obtain ⟨⟨r1, r2, r3, r4, r5, r6⟩, r7⟩ := R
        unfold oneT tokD at hquo ⊢
        dsimp only at hquo ⊢
        refine FnD.ofT (n := 55) [] fax_ok Tryz.func12 rfl rfl rfl (by rfl) (by kernel_rfl) (by intro _; rfl) fun Γ hA hbA => ?_
        (repeat ((conv => whnf); (first | refine exR ?_ | refine gd (enters_of Tryz.func20 rfl rfl) hlet ?_ | refine gd (enters_of Tryz.func24 rfl rfl) hdig ?_ | refine gd (enters_of Tryz.func26 rfl rfl) hquo ?_ | refine tT ?_ | refine tF ?_ | refine And.intro rfl ?_ | refine exB _ rfl (by assumption) ?_)))
        exact ⟨eN, rS, fiO⟩
      · rw [if_neg hq]
        rw [decide_eq_false hq] at h34
        have hmk := marks_f
        unfold markM
        have hlen : (marksL.map strD).length = marksL.length := List.length_map _
        have hlm := marks_len
        generalize marksL = M at *
        have hR : M.find? (fun m => Lib.hasPrefix s m) = (M.drop 0).find? (fun m => Lib.hasPrefix s m) := rfl
        rw [hR]
        generalize hF : (M.drop 0).find? (fun m => Lib.hasPrefix s m) = F
        refine FnD.ofT (n := 55) [] fax_ok Tryz.func12 rfl rfl rfl (by rfl) (by kernel_rfl) (by intro _; rfl) fun Γ hA hbA => ?_
        (repeat ((conv => whnf); (first | refine exR ?_ | refine gd (enters_of Tryz.func20 rfl rfl) hlet ?_ | refine gd (enters_of Tryz.func24 rfl rfl) hdig ?_ | refine gd (enters_of Tryz.func27 rfl rfl) hmk ?_ | refine tF ?_ | refine And.intro rfl ?_ | refine exB _ rfl (by assumption) ?_)))
        refine ev_loop [] fax_ok hA (by kernel_rfl) (fun i : Nat => i ≤ M.length ∧ (M.drop i).find? (fun m => Lib.hasPrefix s m) = F) (fun i => [(0, strT s), (2, .ref 2 0), (41, .d (ssD M)), (42, intT M.length), (43, intT i)]) (fun _ => [(2, .cells 28 [intT 0, strT [], intT 0, intT 0, intT 0, intT 0])]) (fun i => M.length - i) 0 ⟨Nat.zero_le _, hF⟩ (by rw [← hlen]; exact fiE) fiO ?_
        rintro i ⟨hi, hf⟩ - -
        clear hF hR
        by_cases h : i < M.length
        · have hx : (M.map strD)[i]? = some (strD M[i]) := by rw [List.getElem?_map, List.getElem?_eq_getElem h, Option.map_some]
          rw [List.drop_eq_getElem_cons h, List.find?_cons] at hf
          have hp := hasP_fn s M[i]
          generalize M[i] = m at *
          cases hb : Lib.hasPrefix s m with
          | true =>
            rw [hb] at hp hf
            dsimp only at hf
            subst hf
            (repeat ((conv => whnf); (first | refine exR ?_ | refine gd (enters_of Tryz.func28 rfl rfl) hp ?_ | refine tT ?_ | refine exI _ rfl (by assumption) ?_)))
            exact ⟨eN, rS, fiO⟩
          | false =>
            rw [hb] at hp hf
            dsimp only at hf
            (repeat ((conv => whnf); (first | with_reducible refine exE _ (w_inc (by omega)) ?_ | refine exR ?_ | refine gd (enters_of Tryz.func28 rfl rfl) hp ?_ | refine tT ?_ | refine tF ?_ | refine exI _ rfl (by assumption) ?_)))
            exact ⟨i + 1, ⟨by omega, hf⟩, by omega, fiE, fiO⟩
        · obtain rfl : i = M.length := by omega
          rw [List.drop_length] at hf
          replace hf : none = F := hf
          subst hf
          (repeat ((conv => whnf); (first | refine exR ?_ | refine tF ?_)))
          exact ⟨eN, rS, fiO⟩
end Go.Proofs.YtngklbnodknadaaGreatDoor
end

section
namespace Go.Proofs.YtngklbnodknadaaGreatDoor

theorem blankN_le (s : List UInt8) : blankN s ≤ s.length := by
  have h1 := runN_le isBl s
  unfold blankN
  split
  · have h2 := runN_le notNl (s.drop (runN isBl s))
    rw [List.length_drop] at h2
    omega
  · exact h1
theorem quoL_to : ∀ (n : Nat) (l b : List UInt8) (k : Nat), l.length ≤ n → (quoL l b k).2 = 0 → ∃ m : Nat, (quoL l b k).1.to = (m : Int) ∧ k + 1 ≤ m ∧ m ≤ k + l.length
  | n, [], b, k, _, h => by rw [quoL_nil] at h; cases h
  | 0, c :: l, b, k, hn, _ => by simp at hn
  | n + 1, c :: l, b, k, hn, h => by
    rw [List.length_cons] at hn
    rw [quoL_cons] at h ⊢
    split at h
    · next h34 => rw [if_pos h34]; exact ⟨k + 1, rfl, Nat.le_refl _, by rw [List.length_cons]; omega⟩
    · next h34 =>
      rw [if_neg h34]
      split at h
      · cases h
      · next h32 =>
        rw [if_neg h32]
        split at h
        · next h92 =>
          rw [if_pos h92]
          cases l with
          | nil => cases h
          | cons x l' =>
            dsimp only at h ⊢
            cases he : escM x with
            | none => rw [he] at h; cases h
            | some y =>
              rw [he] at h
              dsimp only at h ⊢
              obtain ⟨m, e1, e2, e3⟩ := quoL_to n l' (b ++ [y]) (k + 2) (by rw [List.length_cons] at hn; omega) h
              exact ⟨m, e1, by omega, by simp only [List.length_cons] at *; omega⟩
        · next h92 =>
          rw [if_neg h92]
          obtain ⟨m, e1, e2, e3⟩ := quoL_to n l (b ++ [c]) (k + 1) (by omega) h
          exact ⟨m, e1, by omega, by simp only [List.length_cons] at *; omega⟩
theorem toN_le (s : List UInt8) : toN s ≤ s.length := by
  have h1 := runN_le isDgB s
  unfold toN
  split
  · next h =>
    have h2 := runN_le isDgB (s.drop (runN isDgB s + 1))
    rw [List.length_drop] at h2
    have h3 : runN isDgB s + 1 < s.length := Classical.byContradiction fun q => by rw [isFl_out q] at h; cases h
    omega
  · exact h1
theorem toN_ge (s : List UInt8) : runN isDgB s ≤ toN s := by unfold toN; split <;> omega
theorem marks_pos : ∀ m ∈ marksL, 1 ≤ m.length := by decide +kernel
theorem oneM_to (pf : List UInt8 → Nat) {s : List UInt8} (h : (oneM pf s).2 = 0) : ∃ m : Nat, (oneM pf s).1.to = (m : Int) ∧ 1 ≤ m ∧ m ≤ s.length := by
  cases s with
  | nil => cases h
  | cons c l =>
    have e : oneM pf (c :: l) = if isLet c = true then (if 40 < runN isSig (c :: l) then (tok0, 2) else if (c :: l).take (runN isSig (c :: l)) ∈ wordsL then (⟨1, [], 0, 0, (runN isSig (c :: l) : Nat), 0⟩, 0) else (⟨2, [], 0, 0, (runN isSig (c :: l) : Nat), 0⟩, 0)) else if isDgB c = true then numM pf (c :: l) else if c = 34 then quoM (c :: l) else markM (c :: l) := rfl
    rw [e] at h ⊢
    split at h
    · next hl =>
      rw [if_pos hl]
      have h1 : 1 ≤ runN isSig (c :: l) := runN_pos (by unfold isSig; rw [hl]; rfl)
      have h2 := runN_le isSig (c :: l)
      split at h
      · cases h
      · next h40 =>
        rw [if_neg h40]
        split
        · exact ⟨_, rfl, h1, h2⟩
        · exact ⟨_, rfl, h1, h2⟩
    · next hl =>
      rw [if_neg hl]
      split at h
      · next hd =>
        rw [if_pos hd]
        have h1 : 1 ≤ runN isDgB (c :: l) := runN_pos hd
        have h2 := toN_ge (c :: l)
        have h3 := toN_le (c :: l)
        unfold numM
        split
        · exact ⟨_, rfl, by omega, h3⟩
        · split
          · exact ⟨_, rfl, by omega, h3⟩
          · split
            · exact ⟨_, rfl, by omega, h3⟩
            · exact ⟨_, rfl, by omega, h3⟩
      · next hd =>
        rw [if_neg hd]
        split at h
        · next hq =>
          rw [if_pos hq]
          obtain ⟨m, e1, e2, e3⟩ := quoL_to _ l [] 1 (Nat.le_refl _) h
          exact ⟨m, e1, by omega, by rw [List.length_cons]; omega⟩
        · next hq =>
          rw [if_neg hq]
          unfold markM at h ⊢
          cases hf : marksL.find? fun m => Lib.hasPrefix (c :: l) m with
          | none => rw [hf] at h; cases h
          | some m =>
            dsimp only
            have h1 := marks_pos m (List.mem_of_find?_eq_some hf)
            have h2 := List.find?_some hf
            have h3 : m.isPrefixOf (c :: l) = true := h2
            rw [List.isPrefixOf_iff_prefix] at h3
            exact ⟨m.length, rfl, h1, h3.length_le⟩
end Go.Proofs.YtngklbnodknadaaGreatDoor
end

section
namespace Go.Proofs.YtngklbnodknadaaGreatDoor
open Go.RowKit

abbrev toksT (r : List Tok × Int) : T := .tup [.d (.sl 6 (r.1.map tokD)), intT r.2]
theorem map_tok (l : List Tok) (t : Tok) : (l ++ [t]).map tokD = l.map tokD ++ [tokD t] := by simp
set_option maxRecDepth 100000 in
set_option maxHeartbeats 8000000 in
theorem tokens_fn (s : List UInt8) : FnD Tryz.prog 8 [strT s] (toksT (tokM pfM s)) := by
  unfold tokM
  by_cases h2 : 2000 < s.length
  · rw [if_pos h2]
    refine FnD.ofT (n := 69) [4] fax_ok Tryz.func8 rfl rfl rfl (by rfl) (by kernel_rfl) (by intro _; rfl) fun Γ hA hbA => ?_
    (repeat ((conv => whnf); (first | refine exR ?_ | refine tT ?_)))
    exact ⟨eN, rS, fiO⟩
  have hs : s.length ≤ 2000 := by omega
  rw [if_neg h2]
  generalize hR : tokL pfM s (s.length + 1) 0 [] = R
  obtain ⟨R1, R2⟩ := R
  dsimp only
  obtain ⟨Z, hZ⟩ : ∃ Z, (if R2 ≠ 0 then ([], R2) else if 800 < R1.length then ([], 2) else (R1, 0) : List Tok × Int) = Z := ⟨_, rfl⟩
  rw [hZ]
  have hz1 : R2 ≠ 0 → Z = ([], R2) := fun h => by rw [← hZ, if_pos h]
  have hz2 : R2 = 0 → 800 < R1.length → Z = ([], 2) := fun h h' => by rw [← hZ, if_neg (by simp [h]), if_pos h']
  have hz3 : R2 = 0 → ¬ 800 < R1.length → Z = (R1, 0) := fun h h' => by rw [← hZ, if_neg (by simp [h]), if_neg h']
  clear hZ
  obtain ⟨Z1, Z2⟩ := Z
  unfold toksT
  dsimp only
  refine FnD.ofT (n := 69) [4] fax_ok Tryz.func8 rfl rfl rfl (by rfl) (by kernel_rfl) (by intro _; rfl) fun Γ hA hbA => ?_
  (repeat ((conv => whnf); (first | refine exR ?_ | refine tF ?_ | refine And.intro rfl ?_)))
  refine ev_loop [4] fax_ok hA (by kernel_rfl) (fun x : Nat × Nat × List Tok => x.2.1 ≤ s.length ∧ s.length < x.2.1 + x.1 ∧ x.2.2.length ≤ x.2.1 ∧ tokL pfM s x.1 x.2.1 x.2.2 = (R1, R2)) (fun x => [(0, strT s), (4, .own 6 (x.2.2.map tokD) 4), (5, intT x.2.1)]) (fun x => [(4, .row 28 6 (x.2.2.map tokD))]) (fun x => s.length - x.2.1) (s.length + 1, 0, []) ⟨Nat.zero_le _, by dsimp only; omega, Nat.le_refl _, hR⟩ fiE fiO ?_
  rintro ⟨f, a, out⟩ ⟨ha, hf, ho, hr⟩ - -
  dsimp only at ha hf ho hr ⊢
  clear hR
  obtain ⟨f, rfl⟩ : ∃ f', f = f' + 1 := ⟨f - 1, by omega⟩
  rw [tokL] at hr
  have hL : (out.map tokD).length = out.length := List.length_map _
  by_cases hal : a < s.length
  · rw [if_neg (by omega)] at hr
    have hrest : (s.drop a).length = s.length - a := List.length_drop
    have hbl := blank_fn (s.drop a) (by omega)
    have hble := blankN_le (s.drop a)
    generalize blankN (s.drop a) = n at *
    by_cases hn : 0 < n
    · rw [if_pos hn] at hr
      have hw : IntKind.i64.wrap ((a : Int) + (n : Int)) = ((a + n : Nat) : Int) := i_nat (by omega) (by omega)
      (repeat ((conv => whnf); (first | with_reducible refine exE (α := Int) _ (by assumption) ?_ | refine exR ?_ | refine gd (enters_of Tryz.func11 rfl rfl) hbl ?_ | refine tT ?_ | refine nA _ rfl ?_)))
      exact ⟨(f, a + n, out), ⟨by dsimp only; omega, by dsimp only; omega, by dsimp only; omega, hr⟩, by dsimp only; omega, fiE, fiO⟩
    · rw [if_neg hn] at hr
      have hone := one_fn (s.drop a) (by omega) (by omega)
      have hto := @oneM_to pfM (s.drop a)
      generalize oneM pfM (s.drop a) = q at *
      obtain ⟨⟨kd, tx, nm, a0, tz, ln⟩, e⟩ := q
      unfold oneT tokD at hone
      dsimp only at hone hto hr
      by_cases he : e = 0
      · rw [if_neg (by simp [he])] at hr
        obtain ⟨m, rfl, m1, m2⟩ := hto he
        have hne : (e != 0) = false := by simp [he]
        have hcnt := count_fn (s.take a) 10
        have hw : IntKind.i64.wrap ((a : Int) + (m : Int)) = ((a + m : Nat) : Int) := i_nat (by omega) (by omega)
        have hcl : (s.take a).count 10 ≤ 1000000 := Nat.le_trans List.count_le_length (by rw [List.length_take]; omega)
        rw [Int.toNat_natCast] at hr
        generalize hcv : (s.take a).count 10 = cv at *
        have ham : a + m ≤ s.length := by omega
        have hfm : s.length < a + m + f := by omega
        have hmu : s.length - (a + m) < s.length - a := by omega
        have hom : out.length + 1 ≤ a + m := by omega
        by_cases h5 : kd = 5
        · have hk : (kd != 5) = false := by simp [h5]
          have hTok : tokD (putM s a ⟨kd, tx, nm, a0, (m : Int), ln⟩) = .agg [.v (.int .i64 kd), .v (.string ⟨⟨tx⟩⟩), .v (.int .i64 nm), .v (.int .i64 (a : Int)), .v (.int .i64 ((a + m : Nat) : Int)), .v (.int .i64 (1 + (cv : Int)))] := by
            unfold putM tokD
            dsimp only
            rw [if_pos h5, hcv, Int.natCast_add]
          (repeat ((conv => whnf); (first | with_reducible refine exE (α := Int) _ (by assumption) ?_ | with_reducible refine exE _ (wrap_in (by omega) (by omega)) ?_ | refine exR ?_ | refine gd (enters_of Tryz.func11 rfl rfl) hbl ?_ | refine gd (enters_of Tryz.func12 rfl rfl) hone ?_ | refine gd (enters_of Tryz.func13 rfl rfl) hcnt ?_ | refine tT ?_ | refine tF ?_ | refine oB ?_ | refine And.intro rfl ?_ | refine lQ ?_ | refine nA _ rfl ?_)))
          exact ⟨(f, a + m, out ++ [putM s a ⟨kd, tx, nm, a0, (m : Int), ln⟩]), ⟨by dsimp only; omega, by dsimp only; omega, by simp; omega, hr⟩, by dsimp only; omega, (by dsimp only; rw [map_tok, hTok]; exact fiE), (by dsimp only; rw [map_tok, hTok]; exact fiO)⟩
        · have hk : (kd != 5) = true := by simp [h5]
          have hTok : tokD (putM s a ⟨kd, tx, nm, a0, (m : Int), ln⟩) = .agg [.v (.int .i64 kd), .v (.string ⟨⟨(s.drop a).take (a + m - a)⟩⟩), .v (.int .i64 nm), .v (.int .i64 (a : Int)), .v (.int .i64 ((a + m : Nat) : Int)), .v (.int .i64 (1 + (cv : Int)))] := by
            unfold putM tokD
            dsimp only
            rw [if_neg h5, hcv, Int.natCast_add, Int.toNat_natCast, Nat.add_sub_cancel_left]
          (repeat ((conv => whnf); (first | with_reducible refine exE (α := Int) _ (by assumption) ?_ | refine exR ?_ | refine gd (enters_of Tryz.func11 rfl rfl) hbl ?_ | refine gd (enters_of Tryz.func12 rfl rfl) hone ?_ | refine tT ?_ | refine tF ?_ | refine And.intro rfl ?_ | refine nA _ rfl ?_)))
          refine ⟨a, a + m, rfl, rfl, Nat.le_add_right a m, ham, ?_⟩
          (repeat ((conv => whnf); (first | with_reducible refine exE (α := Int) _ (by assumption) ?_ | with_reducible refine exE _ (wrap_in (by omega) (by omega)) ?_ | refine gd (enters_of Tryz.func13 rfl rfl) hcnt ?_ | refine oB ?_ | refine And.intro rfl ?_ | refine lQ ?_ | refine nA _ rfl ?_)))
          exact ⟨(f, a + m, out ++ [putM s a ⟨kd, tx, nm, a0, (m : Int), ln⟩]), ⟨ham, hfm, by simpa using hom, hr⟩, hmu, (by dsimp only; rw [map_tok, hTok]; exact fiE), (by dsimp only; rw [map_tok, hTok]; exact fiO)⟩
      · rw [if_pos he] at hr
        have hne : (e != 0) = true := by simp [he]
        injection hr with q1 q2
        subst q1 q2
        have hz := hz1 he
        injection hz with q3 q4
        subst q3 q4
        (repeat ((conv => whnf); (first | refine exR ?_ | refine gd (enters_of Tryz.func11 rfl rfl) hbl ?_ | refine gd (enters_of Tryz.func12 rfl rfl) hone ?_ | refine tT ?_ | refine tF ?_ | refine And.intro rfl ?_ | refine nA _ rfl ?_)))
        exact ⟨eN, rS, fiO⟩
  · obtain rfl : a = s.length := by omega
    rw [if_pos (Nat.le_refl _)] at hr
    injection hr with q1 q2
    subst q1 q2
    by_cases h8 : 800 < out.length
    · have hz := hz2 rfl h8
      injection hz with q3 q4
      subst q3 q4
      (repeat ((conv => whnf); (first | refine exR ?_ | refine tT ?_ | refine tF ?_)))
      exact ⟨eN, rS, fiO⟩
    · have hz := hz3 rfl h8
      injection hz with q3 q4
      subst q3 q4
      (repeat ((conv => whnf); (first | refine exR ?_ | refine tF ?_)))
      exact ⟨eN, rS, fiO⟩
end Go.Proofs.YtngklbnodknadaaGreatDoor
end

section
namespace Go.Proofs.YtngklbnodknadaaGreatDoor
open Go.RowKit

section
variable {P : Program} (w : World)
theorem eqFields_of (d : Nat) (xs ys : Array Value) : ∀ (fs : List Field) (ks : List (TypeId × Nat × Bool)), fs.map (fun f => (f.name != "_", f.type, f.offset)) = ks.map (fun k => (true, k.1, k.2.1)) →
    (∀ k ∈ ks, ∃ a b, (part k.1 xs k.2.1).run P w = .ok a w ∧ (part k.1 ys k.2.1).run P w = .ok b w ∧ (Op.equalIn d k.1 a b).run P w = .ok k.2.2 w) → (Op.eqFields d xs ys fs).run P w = .ok (ks.all (·.2.2)) w
  | [], [], _, _ => by simp [Op.eqFields]
  | [], _ :: _, h, _ => by simp at h
  | _ :: _, [], h, _ => by simp at h
  | f :: fs, (t, o, r) :: ks, h, H => by
    simp only [List.map_cons, List.cons.injEq, Prod.mk.injEq] at h
    obtain ⟨⟨h1, rfl, rfl⟩, h2⟩ := h
    have hn : f.name ≠ "_" := by simpa using h1
    obtain ⟨a, b, e1, e2, e3⟩ := H _ List.mem_cons_self
    simp only [Op.eqFields, if_pos hn, Sem.run_bind]
    dsimp only at e1 e2 e3
    rw [e1]
    simp only [Result.andThen_ok]
    rw [e2]
    simp only [Result.andThen_ok]
    rw [e3]
    simp only [Result.andThen_ok]
    cases r with
    | true =>
      rw [if_neg (by simp), eqFields_of d xs ys fs ks h2 fun k hk => H k (List.mem_cons_of_mem _ hk)]
      simp
    | false => simp
end
theorem part_int (xs : Array Value) (o : Nat) (a : Int) (w : World) (h : xs[o]? = some (.int .i64 a)) : (part 3 xs o).run Tryz.prog w = .ok (.int .i64 a) w := run_part_plain w (by kernel_rfl) h
theorem part_str (xs : Array Value) (o : Nat) (a : ByteArray) (w : World) (h : xs[o]? = some (.string a)) : (part 9 xs o).run Tryz.prog w = .ok (.string a) w := run_part_plain w (by kernel_rfl) h
theorem eq_int (d : Nat) (w : World) (a b : Int) : (Op.equalIn (d + 1) 3 (.int .i64 a) (.int .i64 b)).run Tryz.prog w = .ok (a == b) w := run_equalIn_int w d 3 .i64 .i64 a b Tryz.underlying3
theorem eq_str (d : Nat) (w : World) (a b : ByteArray) : (Op.equalIn (d + 1) 9 (.string a) (.string b)).run Tryz.prog w = .ok (a.toList == b.toList) w := run_equalIn_string w d 9 a b Tryz.underlying9
theorem uTok : Tryz.prog.underlying 28 = some (.struct (Tryz.prog.fieldsOf 28)) := by kernel_rfl
theorem run_eqIn_tok (w : World) (k n a o l : Int) (x : List UInt8) : (Op.equalIn 10000 28 (.agg #[.int .i64 k, .string ⟨⟨x⟩⟩, .int .i64 n, .int .i64 a, .int .i64 o, .int .i64 l]) (.agg #[.int .i64 k, .string ⟨⟨x⟩⟩, .int .i64 n, .int .i64 a, .int .i64 o, .int .i64 l])).run Tryz.prog w = .ok true w := by
  rw [show (10000 : Nat) = 9999 + 1 from rfl, run_equalIn_struct w 9999 28 _ _ uTok (by kernel_rfl), eqFields_of w 9999 _ _ _ [(3, 0, k == k), (9, 1, (⟨⟨x⟩⟩ : ByteArray).toList == (⟨⟨x⟩⟩ : ByteArray).toList), (3, 2, n == n), (3, 3, a == a), (3, 4, o == o), (3, 5, l == l)] (by kernel_rfl) fun k hk => ?_]
  · congr 1
    simp
  · simp only [List.mem_cons, List.not_mem_nil, or_false] at hk
    rcases hk with rfl | rfl | rfl | rfl | rfl | rfl
    · exact ⟨_, _, part_int _ _ _ w rfl, part_int _ _ _ w rfl, eq_int _ w _ _⟩
    · exact ⟨_, _, part_str _ _ _ w rfl, part_str _ _ _ w rfl, eq_str _ w _ _⟩
    all_goals exact ⟨_, _, part_int _ _ _ w rfl, part_int _ _ _ w rfl, eq_int _ w _ _⟩
theorem tok_eq (k n a o l : Int) (x : List UInt8) : BinR Tryz.prog .eql 28 (.agg #[.int .i64 k, .string ⟨⟨x⟩⟩, .int .i64 n, .int .i64 a, .int .i64 o, .int .i64 l]) (.agg #[.int .i64 k, .string ⟨⟨x⟩⟩, .int .i64 n, .int .i64 a, .int .i64 o, .int .i64 l]) (.bool true) := by
  intro p q w
  have h := run_eqIn_tok w k n a o l x
  have hg : (eqGuard .eql 28 p q (.agg #[.int .i64 k, .string ⟨⟨x⟩⟩, .int .i64 n, .int .i64 a, .int .i64 o, .int .i64 l]) (.agg #[.int .i64 k, .string ⟨⟨x⟩⟩, .int .i64 n, .int .i64 a, .int .i64 o, .int .i64 l])).run Tryz.prog w = .ok () w := by kernel_rfl
  rw [Sem.run_bind, hg]
  simp only [Result.andThen_ok]
  show (do pure (.bool (← Op.equal 28 _ _)) : Sem Value).run Tryz.prog w = _
  unfold Op.equal
  simp only [Sem.run_bind]
  rw [show Op.maxDepth = 10000 from rfl, h]
  rfl
theorem tok_ne (k n a o l : Int) (x : List UInt8) : BinR Tryz.prog .neq 28 (.agg #[.int .i64 k, .string ⟨⟨x⟩⟩, .int .i64 n, .int .i64 a, .int .i64 o, .int .i64 l]) (.agg #[.int .i64 k, .string ⟨⟨x⟩⟩, .int .i64 n, .int .i64 a, .int .i64 o, .int .i64 l]) (.bool false) := by
  intro p q w
  have h := run_eqIn_tok w k n a o l x
  have hg : (eqGuard .neq 28 p q (.agg #[.int .i64 k, .string ⟨⟨x⟩⟩, .int .i64 n, .int .i64 a, .int .i64 o, .int .i64 l]) (.agg #[.int .i64 k, .string ⟨⟨x⟩⟩, .int .i64 n, .int .i64 a, .int .i64 o, .int .i64 l])).run Tryz.prog w = .ok () w := by kernel_rfl
  rw [Sem.run_bind, hg]
  simp only [Result.andThen_ok]
  show (do pure (.bool (!(← Op.equal 28 _ _))) : Sem Value).run Tryz.prog w = _
  unfold Op.equal
  simp only [Sem.run_bind]
  rw [show Op.maxDepth = 10000 from rfl, h]
  rfl
def begT : List UInt8 := [108, 101, 116, 32, 97, 49, 32, 61, 32, 49, 50, 32, 35, 32, 115, 111, 10, 60, 61, 32, 34, 120, 92, 110, 34, 32, 49, 46, 53]
theorem beg_tok (pf : List UInt8 → Nat) : tokM pf begT = ([⟨1, [108, 101, 116], 0, 0, 3, 1⟩, ⟨2, [97, 49], 0, 4, 6, 1⟩, ⟨6, [61], 0, 7, 8, 1⟩, ⟨3, [49, 50], 12, 9, 11, 1⟩, ⟨6, [60, 61], 0, 17, 19, 2⟩, ⟨5, [120, 10], 0, 20, 25, 2⟩, ⟨4, [49, 46, 53], IntKind.i64.wrap ((pf [49, 46, 53] : Nat) : Int), 26, 29, 2⟩], 0) := by kernel_rfl
theorem beg_no (pf : List UInt8 → Nat) : tokM pf [49, 97] = ([], 4) := by kernel_rfl
end Go.Proofs.YtngklbnodknadaaGreatDoor
end

section
namespace Go.Proofs.YtngklbnodknadaaGreatDoor
open Go.RowKit

set_option maxRecDepth 100000 in
set_option maxHeartbeats 8000000 in
theorem begun_fn : FnD Tryz.prog 7 [] (boolT true) := by
  have h1 := tokens_fn begT
  have h2 := tokens_fn [49, 97]
  rw [beg_tok, pfM_15, show IntKind.i64.wrap ((4609434218613702656 : Nat) : Int) = 4609434218613702656 by decide] at h1
  rw [beg_no] at h2
  unfold toksT at h1 h2
  dsimp only [List.map_cons, List.map_nil, tokD] at h1 h2
  have e1 := tok_eq 1 0 0 3 1 [108, 101, 116]
  have e2 := tok_eq 2 0 4 6 1 [97, 49]
  have e3 := tok_eq 3 12 9 11 1 [49, 50]
  have e4 := tok_eq 6 0 17 19 2 [60, 61]
  have e5 := tok_eq 5 0 20 25 2 [120, 10]
  refine FnD.of1 (n := 66) [] fax_ok Tryz.func7 rfl rfl rfl (by rfl) (by kernel_rfl) (by intro _; rfl) fun Γ hA hbA => ?_
  (repeat ((conv => whnf); (first | refine exR ?_ | refine gd (enters_of Tryz.func8 rfl rfl) h1 ?_ | refine gd (enters_of Tryz.func8 rfl rfl) h2 ?_ | refine tT ?_ | refine And.intro rfl ?_ | refine exBR _ (by assumption) ?_ | refine exI 0 rfl rfl ?_ | refine exI 1 rfl rfl ?_ | refine exI 3 rfl rfl ?_ | refine exI 4 rfl rfl ?_ | refine exI 5 rfl rfl ?_)))
  refine exI 6 rfl rfl ?_
  (repeat ((conv => whnf); (first | refine exR ?_ | refine tT ?_)))
  exact ⟨eN, rS, fiO⟩
end Go.Proofs.YtngklbnodknadaaGreatDoor
end
