/-
  Query: words in lists.
-/
import Derived.Test.YtenlhfmchhljdaaDoorLib
import Derived.Test.YtenlhfmchhljdaaDoorTy
import Derived.Test.YtenlhfmchhljdaaDoorBlk
import Derived.Shelf.Strings.SplitShaped
namespace Go.Proofs.YtenlhfmchhljdaaDoor
open Go.RowKit

theorem ascii_tab {w : World} (h : TabsIn w) : Lib.TabIs Tryd.prog w "strings.asciiSpace" .u8 Lib.asciiSpaceTab := by
  obtain ⟨cs, t, fr, rfl, h1⟩ := h (0, (· = asciiV)) (by unfold tabs; simp)
  unfold Lib.TabIs World.var?
  rw [show Tryd.prog.globalNamed "strings.asciiSpace" = some 0 from by kernel_rfl]
  simp only [Option.bind_some, h1]
  kernel_rfl
abbrev ssD (l : List (List UInt8)) : D := .sl 1 (l.map strD)
theorem rep_ss (S : Sm) : ∀ l : List (List UInt8), RepLv S 1 (l.map strD) (l.map fun x => Value.string ⟨x.toArray⟩)
  | [] => .nil
  | x :: l => by
    show RepLv S 1 (strD x :: l.map strD) ([Value.string ⟨x.toArray⟩] ++ l.map fun x => Value.string ⟨x.toArray⟩)
    exact .cons (.cons (.v rfl) rfl .nil) rfl (rep_ss S l)
theorem fields_fn (s : List UInt8) (hs : s.length < 4294967281) (ha : ∀ b ∈ s, b.toNat < 128) (hb : (Lib.fields s).length ≤ 9223372036854775807) : FnD Tryd.prog 35 [strT s] (.d (ssD (Lib.fields s))) := by
  intro w g vs ht hi hr
  cases hr with
  | cons r0 hr =>
  cases hr
  obtain rfl := inv_v r0
  have hc := Any.strings_Fields_laid Tryd.fields ⟨s.toArray⟩ w (by rw [str_size]; exact hs) (fun j b hj => ha b (List.mem_of_getElem? hj)) (ascii_tab ht)
  change Calls Tryd.prog 35 _ _ _ at hc
  refine hc.mono ?_
  rintro e w' ⟨rfl, rfl⟩
  have hB : Below w.heap.size w (w.alloc (.cells ((Lib.fields s).map fun l => Value.string ⟨l.toArray⟩).toArray 9)) := (Below.refl _ w).alloc (Nat.le_refl _) _
  have hk := Blk.mk_ w ((Lib.fields s).map fun l => Value.string ⟨l.toArray⟩).toArray 9 rfl
  refine ⟨_, behS g.S w _, rfl, behS_le _ hi, behS_old, behS_imm hi hB, .d (rep_new (p := some ⟨w.heap.size, 0, none⟩) (n := (Lib.fields s).length) (cap := (Lib.fields s).length) (xs := (Lib.fields s).map fun l => Value.string ⟨l.toArray⟩) ?_ ?_ (by rw [List.length_map]) fun S => rep_ss S _), hB⟩
  · refine ⟨⟨w.heap.size, 0, fun _ => ⟨rfl, by simp⟩, fun i hi => ?_⟩, by simp, Nat.le_refl _, hb, fun h => by cases h⟩
    rw [Nat.zero_add]
    refine Eq.trans (hk.cell i) ?_
    simp
  · rintro a ⟨rfl⟩
    exact Nat.le_refl _
def idxM (w : List UInt8) : List (List UInt8) → Nat → Int
  | [], _ => -1
  | x :: l, i => if x = w then (i : Int) else idxM w l (i + 1)
theorem index_fn (l : List (List UInt8)) (w : List UInt8) (r : Int) (hr : idxM w l 0 = r) : FnD Tryd.prog 55 [.d (ssD l), strT w] (intT r) := by
  have hlm : (l.map strD).length = l.length := List.length_map _
  refine FnD.of1 (n := 19) [] fax_ok Tryd.func55 rfl rfl rfl (by rfl) (by kernel_rfl) (by intro _; rfl) fun Γ hA hbA => ?_
  (repeat ((conv => whnf); (first | refine exE (α := List D) _ (by assumption) ?_ | with_reducible refine exE (α := Int) _ (by assumption) ?_ | with_reducible refine exE _ (w_inc (by omega)) ?_ | with_reducible refine exE _ (w_dec (by omega) (by omega)) ?_ | with_reducible refine exE _ (wrap_in (by omega) (by omega)) ?_ | refine exR ?_ | refine spT (by first | with_reducible rfl | assumption | rfl | decide | exact decide_eq_true (by omega) | exact beq_iff_eq.2 (by omega) | exact bne_iff_ne.2 (by omega)) ?_ | refine spF (by first | with_reducible rfl | assumption | rfl | decide | exact decide_eq_false (by omega) | exact beq_eq_false_iff_ne.2 (by omega) | exact bne_eq_false_iff_eq.2 (by omega)) ?_ | refine guT (by first | with_reducible rfl | assumption | rfl | decide | exact decide_eq_true (by omega) | exact beq_iff_eq.2 (by omega) | exact bne_iff_ne.2 (by omega)) ?_ | refine guF (by first | with_reducible rfl | assumption | rfl | decide | exact decide_eq_false (by omega) | exact beq_eq_false_iff_ne.2 (by omega) | exact bne_eq_false_iff_eq.2 (by omega)) ?_ | refine guT (by first | with_reducible rfl | assumption | rfl | decide | exact decide_eq_false (by omega) | exact beq_eq_false_iff_ne.2 (by omega) | exact bne_eq_false_iff_eq.2 (by omega)) ?_ | refine guF (by first | with_reducible rfl | assumption | rfl | decide | exact decide_eq_true (by omega) | exact beq_iff_eq.2 (by omega) | exact bne_iff_ne.2 (by omega)) ?_ | refine And.intro (a := orderB _ _ = true) (by kernel_rfl) ?_ | refine And.intro rfl ?_ | refine And.intro (a := _ ≤ _) (by first | omega | (simp; first | done | fail) | (simp; omega)) ?_ | refine And.intro (a := _ ≠ _) (by decide) ?_ | refine exS _ (by assumption) rfl ?_ | refine exBR _ (by assumption) ?_ | refine And.intro (a := List.length _ = _) (by first | assumption | (simp; first | done | omega)) ?_ | refine And.intro (a := _ < _) (by first | omega | (simp; first | done | omega)) ?_ | refine exI _ rfl (by assumption) ?_ | refine exI 0 rfl (by assumption) ?_ | refine exI 0 rfl rfl ?_ | refine exI 1 rfl rfl ?_ | refine exI 2 rfl rfl ?_ | refine exN _ rfl (by first | omega | (simp; first | done | fail) | (simp; omega)) ?_ | refine exN 0 rfl (by first | omega | (simp; first | done | fail) | (simp; omega)) ?_ | refine exN 1 rfl (by first | omega | (simp; first | done | fail) | (simp; omega)) ?_)))
  refine ev_loop [] fax_ok hA (by kernel_rfl) (fun i : Nat => i ≤ l.length ∧ idxM w (l.drop i) i = r) (fun i => [(0, .d (ssD l)), (1, strT w), (7, intT (l.map strD).length), (8, intT i)]) (fun _ => []) (fun i => l.length - i) 0 ⟨Nat.zero_le _, by simpa using hr⟩ (by (repeat (first | exact FitE.nil | refine FitE.cons (TLe.of_eq rfl) ?_ | refine FitE.cons TLe.own ?_ | refine FitE.cons TLe.nil ?_)); (first | done | fail)) (by (repeat (first | exact FitO.nil | refine FitO.cons rfl ?_)); (first | done | fail)) ?_
  rintro i ⟨hi, hri⟩ hb -
  have hlen : (l.map strD).length ≤ 9223372036854775807 := hb.1
  by_cases h : i < l.length
  · have hx : (l.map strD)[i]? = some (strD l[i]) := by rw [List.getElem?_map, List.getElem?_eq_getElem h, Option.map_some]
    rw [List.drop_eq_getElem_cons h, idxM] at hri
    generalize l[i] = x at *
    by_cases he : x = w
    · subst he
      rw [if_pos rfl] at hri
      subst hri
      have hbe2 : (x == x) = true := by simp
      (repeat ((conv => whnf); (first | refine exE (α := List D) _ (by assumption) ?_ | with_reducible refine exE (α := Int) _ (by assumption) ?_ | with_reducible refine exE _ (w_inc (by omega)) ?_ | with_reducible refine exE _ (w_dec (by omega) (by omega)) ?_ | with_reducible refine exE _ (wrap_in (by omega) (by omega)) ?_ | refine exR ?_ | refine spT (by first | with_reducible rfl | assumption | rfl | decide | exact decide_eq_true (by omega) | exact beq_iff_eq.2 (by omega) | exact bne_iff_ne.2 (by omega)) ?_ | refine spF (by first | with_reducible rfl | assumption | rfl | decide | exact decide_eq_false (by omega) | exact beq_eq_false_iff_ne.2 (by omega) | exact bne_eq_false_iff_eq.2 (by omega)) ?_ | refine guT (by first | with_reducible rfl | assumption | rfl | decide | exact decide_eq_true (by omega) | exact beq_iff_eq.2 (by omega) | exact bne_iff_ne.2 (by omega)) ?_ | refine guF (by first | with_reducible rfl | assumption | rfl | decide | exact decide_eq_false (by omega) | exact beq_eq_false_iff_ne.2 (by omega) | exact bne_eq_false_iff_eq.2 (by omega)) ?_ | refine guT (by first | with_reducible rfl | assumption | rfl | decide | exact decide_eq_false (by omega) | exact beq_eq_false_iff_ne.2 (by omega) | exact bne_eq_false_iff_eq.2 (by omega)) ?_ | refine guF (by first | with_reducible rfl | assumption | rfl | decide | exact decide_eq_true (by omega) | exact beq_iff_eq.2 (by omega) | exact bne_iff_ne.2 (by omega)) ?_ | refine And.intro (a := orderB _ _ = true) (by kernel_rfl) ?_ | refine And.intro rfl ?_ | refine And.intro (a := _ ≤ _) (by first | omega | (simp; first | done | fail) | (simp; omega)) ?_ | refine And.intro (a := _ ≠ _) (by decide) ?_ | refine exS _ (by assumption) rfl ?_ | refine exBR _ (by assumption) ?_ | refine And.intro (a := List.length _ = _) (by first | assumption | (simp; first | done | omega)) ?_ | refine And.intro (a := _ < _) (by first | omega | (simp; first | done | omega)) ?_ | refine exI _ rfl (by assumption) ?_ | refine exI 0 rfl (by assumption) ?_ | refine exI 0 rfl rfl ?_ | refine exI 1 rfl rfl ?_ | refine exI 2 rfl rfl ?_ | refine exN _ rfl (by first | omega | (simp; first | done | fail) | (simp; omega)) ?_ | refine exN 0 rfl (by first | omega | (simp; first | done | fail) | (simp; omega)) ?_ | refine exN 1 rfl (by first | omega | (simp; first | done | fail) | (simp; omega)) ?_)))
      exact ⟨by first | exact .inl rfl | exact .inr rfl, (by (repeat (first | exact RsE.nil | refine RsE.tmp (TLe.of_eq rfl) ?_ | refine RsE.tmp TLe.own ?_ | refine RsE.tmp TLe.nil ?_ | refine RsE.one rfl rfl rfl rfl (TLe.of_eq rfl) ?_ | refine RsE.agg rfl rfl rfl rfl rfl (TLe.of_eq rfl) ?_)); (first | done | fail)), (by (repeat (first | exact FitO.nil | refine FitO.cons rfl ?_)); (first | done | fail))⟩
    · rw [if_neg he] at hri
      have hbe2 : (w == x) = false := by simpa using fun e => he e.symm
      (repeat ((conv => whnf); (first | refine exE (α := List D) _ (by assumption) ?_ | with_reducible refine exE (α := Int) _ (by assumption) ?_ | with_reducible refine exE _ (w_inc (by omega)) ?_ | with_reducible refine exE _ (w_dec (by omega) (by omega)) ?_ | with_reducible refine exE _ (wrap_in (by omega) (by omega)) ?_ | refine exR ?_ | refine spT (by first | with_reducible rfl | assumption | rfl | decide | exact decide_eq_true (by omega) | exact beq_iff_eq.2 (by omega) | exact bne_iff_ne.2 (by omega)) ?_ | refine spF (by first | with_reducible rfl | assumption | rfl | decide | exact decide_eq_false (by omega) | exact beq_eq_false_iff_ne.2 (by omega) | exact bne_eq_false_iff_eq.2 (by omega)) ?_ | refine guT (by first | with_reducible rfl | assumption | rfl | decide | exact decide_eq_true (by omega) | exact beq_iff_eq.2 (by omega) | exact bne_iff_ne.2 (by omega)) ?_ | refine guF (by first | with_reducible rfl | assumption | rfl | decide | exact decide_eq_false (by omega) | exact beq_eq_false_iff_ne.2 (by omega) | exact bne_eq_false_iff_eq.2 (by omega)) ?_ | refine guT (by first | with_reducible rfl | assumption | rfl | decide | exact decide_eq_false (by omega) | exact beq_eq_false_iff_ne.2 (by omega) | exact bne_eq_false_iff_eq.2 (by omega)) ?_ | refine guF (by first | with_reducible rfl | assumption | rfl | decide | exact decide_eq_true (by omega) | exact beq_iff_eq.2 (by omega) | exact bne_iff_ne.2 (by omega)) ?_ | refine And.intro (a := orderB _ _ = true) (by kernel_rfl) ?_ | refine And.intro rfl ?_ | refine And.intro (a := _ ≤ _) (by first | omega | (simp; first | done | fail) | (simp; omega)) ?_ | refine And.intro (a := _ ≠ _) (by decide) ?_ | refine exS _ (by assumption) rfl ?_ | refine exBR _ (by assumption) ?_ | refine And.intro (a := List.length _ = _) (by first | assumption | (simp; first | done | omega)) ?_ | refine And.intro (a := _ < _) (by first | omega | (simp; first | done | omega)) ?_ | refine exI _ rfl (by assumption) ?_ | refine exI 0 rfl (by assumption) ?_ | refine exI 0 rfl rfl ?_ | refine exI 1 rfl rfl ?_ | refine exI 2 rfl rfl ?_ | refine exN _ rfl (by first | omega | (simp; first | done | fail) | (simp; omega)) ?_ | refine exN 0 rfl (by first | omega | (simp; first | done | fail) | (simp; omega)) ?_ | refine exN 1 rfl (by first | omega | (simp; first | done | fail) | (simp; omega)) ?_)))
      exact ⟨i + 1, ⟨by omega, hri⟩, by omega, (by (repeat (first | exact FitE.nil | refine FitE.cons (TLe.of_eq rfl) ?_ | refine FitE.cons TLe.own ?_ | refine FitE.cons TLe.nil ?_)); (first | done | fail)), (by (repeat (first | exact FitO.nil | refine FitO.cons rfl ?_)); (first | done | fail))⟩
  · obtain rfl : i = l.length := by omega
    rw [List.drop_length] at hri
    replace hri : -1 = r := hri
    subst hri
    (repeat ((conv => whnf); (first | refine exE (α := List D) _ (by assumption) ?_ | with_reducible refine exE (α := Int) _ (by assumption) ?_ | with_reducible refine exE _ (w_inc (by omega)) ?_ | with_reducible refine exE _ (w_dec (by omega) (by omega)) ?_ | with_reducible refine exE _ (wrap_in (by omega) (by omega)) ?_ | refine exR ?_ | refine spT (by first | with_reducible rfl | assumption | rfl | decide | exact decide_eq_true (by omega) | exact beq_iff_eq.2 (by omega) | exact bne_iff_ne.2 (by omega)) ?_ | refine spF (by first | with_reducible rfl | assumption | rfl | decide | exact decide_eq_false (by omega) | exact beq_eq_false_iff_ne.2 (by omega) | exact bne_eq_false_iff_eq.2 (by omega)) ?_ | refine guT (by first | with_reducible rfl | assumption | rfl | decide | exact decide_eq_true (by omega) | exact beq_iff_eq.2 (by omega) | exact bne_iff_ne.2 (by omega)) ?_ | refine guF (by first | with_reducible rfl | assumption | rfl | decide | exact decide_eq_false (by omega) | exact beq_eq_false_iff_ne.2 (by omega) | exact bne_eq_false_iff_eq.2 (by omega)) ?_ | refine guT (by first | with_reducible rfl | assumption | rfl | decide | exact decide_eq_false (by omega) | exact beq_eq_false_iff_ne.2 (by omega) | exact bne_eq_false_iff_eq.2 (by omega)) ?_ | refine guF (by first | with_reducible rfl | assumption | rfl | decide | exact decide_eq_true (by omega) | exact beq_iff_eq.2 (by omega) | exact bne_iff_ne.2 (by omega)) ?_ | refine And.intro (a := orderB _ _ = true) (by kernel_rfl) ?_ | refine And.intro rfl ?_ | refine And.intro (a := _ ≤ _) (by first | omega | (simp; first | done | fail) | (simp; omega)) ?_ | refine And.intro (a := _ ≠ _) (by decide) ?_ | refine exS _ (by assumption) rfl ?_ | refine exBR _ (by assumption) ?_ | refine And.intro (a := List.length _ = _) (by first | assumption | (simp; first | done | omega)) ?_ | refine And.intro (a := _ < _) (by first | omega | (simp; first | done | omega)) ?_ | refine exI _ rfl (by assumption) ?_ | refine exI 0 rfl (by assumption) ?_ | refine exI 0 rfl rfl ?_ | refine exI 1 rfl rfl ?_ | refine exI 2 rfl rfl ?_ | refine exN _ rfl (by first | omega | (simp; first | done | fail) | (simp; omega)) ?_ | refine exN 0 rfl (by first | omega | (simp; first | done | fail) | (simp; omega)) ?_ | refine exN 1 rfl (by first | omega | (simp; first | done | fail) | (simp; omega)) ?_)))
    exact ⟨by first | exact .inl rfl | exact .inr rfl, (by (repeat (first | exact RsE.nil | refine RsE.tmp (TLe.of_eq rfl) ?_ | refine RsE.tmp TLe.own ?_ | refine RsE.tmp TLe.nil ?_ | refine RsE.one rfl rfl rfl rfl (TLe.of_eq rfl) ?_ | refine RsE.agg rfl rfl rfl rfl rfl (TLe.of_eq rfl) ?_)); (first | done | fail)), (by (repeat (first | exact FitO.nil | refine FitO.cons rfl ?_)); (first | done | fail))⟩
abbrev kindsT : List UInt8 := "step make read write call return throw catch say ask spawn join lock free yield resume over".toUTF8.data.toList
abbrev fieldsT : List UInt8 := "time thread fn at line a b val old".toUTF8.data.toList
def kindsL : List (List UInt8) := Lib.fields kindsT
def fieldsL : List (List UInt8) := Lib.fields fieldsT
theorem kindsL_eq : kindsL = ["step", "make", "read", "write", "call", "return", "throw", "catch", "say", "ask", "spawn", "join", "lock", "free", "yield", "resume", "over"].map fun s : String => s.toUTF8.data.toList := by decide +kernel
theorem fieldsL_eq : fieldsL = ["time", "thread", "fn", "at", "line", "a", "b", "val", "old"].map fun s : String => s.toUTF8.data.toList := by decide +kernel
end Go.Proofs.YtenlhfmchhljdaaDoor
