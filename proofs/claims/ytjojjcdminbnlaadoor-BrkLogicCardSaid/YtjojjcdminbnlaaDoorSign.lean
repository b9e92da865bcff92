/-
  Conditions: the reader's signs.
-/
import Derived.Test.YtjojjcdminbnlaaDoorTy
import Derived.Test.YtjojjcdminbnlaaDoorMo
import Derived.Test.YtjojjcdminbnlaaDoorLib
import Derived.Lib.Bytealg
import Derived.Shelf.Abstract
namespace Go.Proofs.YtjojjcdminbnlaaDoor
open Go.RowKit

/-- The reader as an object. -/
abbrev psO (s : List UInt8) (b : Bool) : GObj := .cells 51 [strT s, boolT b]
theorem index_ge : ∀ (l : List UInt8) (c : UInt8), Lib.indexByte l c = -1 ∨ 0 ≤ Lib.indexByte l c
  | [], _ => .inl rfl
  | b :: l, c => by
    rw [Lib.indexByte]
    split
    · exact .inr (by decide)
    · split
      · exact .inl rfl
      · next h => exact .inr (by
          rcases index_ge l c with h1 | h1
          · rw [h1] at h; exact absurd rfl h
          · omega)
theorem index_pos : ∀ (l : List UInt8) (c : UInt8), l.contains c = true → 0 ≤ Lib.indexByte l c
  | [], _, h => by simp at h
  | b :: l, c, h => by
    rw [Lib.indexByte]
    split
    · decide
    · next h1 =>
      have h2 : l.contains c = true := by
        simp only [List.contains_cons, Bool.or_eq_true] at h
        rcases h with h | h
        · exact absurd (by simpa using (by simpa using h : c = b).symm) h1
        · exact h
      have ih := index_pos l c h2
      split
      · next h3 => have : Lib.indexByte l c = -1 := by simpa using h3
                   omega
      · omega
theorem index_neg : ∀ (l : List UInt8) (c : UInt8), l.contains c = false → Lib.indexByte l c < 0
  | [], _, _ => (by decide : (-1 : Int) < 0)
  | b :: l, c, h => by
    have h1 : ¬ (b == c) = true := fun e => by
      have : b = c := by simpa using e
      subst this
      simp at h
    have ih := index_neg l c (by
      simp only [List.contains_cons, Bool.or_eq_false_iff] at h
      exact h.2)
    rw [Lib.indexByte, if_neg h1]
    split <;> rename_i h2
    · decide
    · have : Lib.indexByte l c = -1 ∨ 0 ≤ Lib.indexByte l c := index_ge l c
      have h3 : Lib.indexByte l c ≠ -1 := by simpa using h2
      omega
set_option maxHeartbeats 1000000 in
theorem sign_fn (set s : List UInt8) (b : Bool) : FnO Tryd.prog 22 [.ref 1000 0, strT set] [(1000, psO s b)] (u8T (signM set s b).1) [(1000, psO (signM set s b).2 b)] := by
  have hT := trimL_fn s
  cases hs : trimM s with
  | nil =>
    rw [show signM set s b = (0, []) from by simp [signM, hs]]
    rw [hs] at hT
    refine FnO.of1 (n := 49) [] fax_ok Tryd.func22 rfl rfl rfl (by rfl) (by rfl) (by kernel_rfl) fun Γ hA hbA hbO => ?_
    (repeat ((conv => whnf); (first | with_reducible refine exE _ (w_inc (by omega)) ?_ | with_reducible refine exE _ (w_dec (by omega) (by omega)) ?_ | with_reducible refine exE _ (wrap_in (by omega) (by omega)) ?_ | refine exR ?_ | refine gen_d rfl (enters_of Tryd.func35 rfl rfl) (hT) (by (repeat (first | exact TLes.nil | refine TLes.cons (TLe.of_eq rfl) ?_ | refine TLes.cons TLe.own ?_ | refine TLes.cons TLe.nil ?_)); (first | done | fail)) ?_ | refine spT (by first | with_reducible rfl | assumption | rfl | decide | exact decide_eq_true (by omega) | exact beq_iff_eq.2 (by omega) | exact bne_iff_ne.2 (by omega)) ?_ | refine spF (by first | with_reducible rfl | assumption | rfl | decide | exact decide_eq_false (by omega) | exact beq_eq_false_iff_ne.2 (by omega) | exact bne_eq_false_iff_eq.2 (by omega)) ?_ | refine guT (by first | with_reducible rfl | assumption | rfl | decide | exact decide_eq_true (by omega) | exact beq_iff_eq.2 (by omega) | exact bne_iff_ne.2 (by omega)) ?_ | refine guF (by first | with_reducible rfl | assumption | rfl | decide | exact decide_eq_false (by omega) | exact beq_eq_false_iff_ne.2 (by omega) | exact bne_eq_false_iff_eq.2 (by omega)) ?_ | refine guT (by first | with_reducible rfl | assumption | rfl | decide | exact decide_eq_false (by omega) | exact beq_eq_false_iff_ne.2 (by omega) | exact bne_eq_false_iff_eq.2 (by omega)) ?_ | refine guF (by first | with_reducible rfl | assumption | rfl | decide | exact decide_eq_true (by omega) | exact beq_iff_eq.2 (by omega) | exact bne_iff_ne.2 (by omega)) ?_ | refine And.intro (a := orderB _ _ = true) (by kernel_rfl) ?_ | refine And.intro rfl ?_ | refine And.intro (a := _ ≤ _) (by first | omega | (simp; first | done | fail) | (simp; omega)) ?_ | refine And.intro (a := _ ≠ _) (by decide) ?_ | refine exI _ rfl (by assumption) ?_ | refine exI 0 rfl rfl ?_ | refine exI 1 rfl rfl ?_ | refine exB _ rfl (by assumption) ?_ | refine exB 0 rfl rfl ?_ | refine exA 0 rfl (by decide) ?_ | refine exA 1 rfl (by decide) ?_ | refine exA _ rfl (by omega) ?_ | refine exN _ rfl (by first | omega | (simp; first | done | fail) | (simp; omega)) ?_ | refine exN 0 rfl (by first | omega | (simp; first | done | fail) | (simp; omega)) ?_ | refine exN 1 rfl (by first | omega | (simp; first | done | fail) | (simp; omega)) ?_)))
    cases b with
    | true =>
      (repeat ((conv => whnf); (first | with_reducible refine exE _ (w_inc (by omega)) ?_ | with_reducible refine exE _ (w_dec (by omega) (by omega)) ?_ | with_reducible refine exE _ (wrap_in (by omega) (by omega)) ?_ | refine exR ?_ | refine gen_d rfl (enters_of Tryd.func35 rfl rfl) (hT) (by (repeat (first | exact TLes.nil | refine TLes.cons (TLe.of_eq rfl) ?_ | refine TLes.cons TLe.own ?_ | refine TLes.cons TLe.nil ?_)); (first | done | fail)) ?_ | refine spT (by first | with_reducible rfl | assumption | rfl | decide | exact decide_eq_true (by omega) | exact beq_iff_eq.2 (by omega) | exact bne_iff_ne.2 (by omega)) ?_ | refine spF (by first | with_reducible rfl | assumption | rfl | decide | exact decide_eq_false (by omega) | exact beq_eq_false_iff_ne.2 (by omega) | exact bne_eq_false_iff_eq.2 (by omega)) ?_ | refine guT (by first | with_reducible rfl | assumption | rfl | decide | exact decide_eq_true (by omega) | exact beq_iff_eq.2 (by omega) | exact bne_iff_ne.2 (by omega)) ?_ | refine guF (by first | with_reducible rfl | assumption | rfl | decide | exact decide_eq_false (by omega) | exact beq_eq_false_iff_ne.2 (by omega) | exact bne_eq_false_iff_eq.2 (by omega)) ?_ | refine guT (by first | with_reducible rfl | assumption | rfl | decide | exact decide_eq_false (by omega) | exact beq_eq_false_iff_ne.2 (by omega) | exact bne_eq_false_iff_eq.2 (by omega)) ?_ | refine guF (by first | with_reducible rfl | assumption | rfl | decide | exact decide_eq_true (by omega) | exact beq_iff_eq.2 (by omega) | exact bne_iff_ne.2 (by omega)) ?_ | refine And.intro (a := orderB _ _ = true) (by kernel_rfl) ?_ | refine And.intro rfl ?_ | refine And.intro (a := _ ≤ _) (by first | omega | (simp; first | done | fail) | (simp; omega)) ?_ | refine And.intro (a := _ ≠ _) (by decide) ?_ | refine exI _ rfl (by assumption) ?_ | refine exI 0 rfl rfl ?_ | refine exI 1 rfl rfl ?_ | refine exB _ rfl (by assumption) ?_ | refine exB 0 rfl rfl ?_ | refine exA 0 rfl (by decide) ?_ | refine exA 1 rfl (by decide) ?_ | refine exA _ rfl (by omega) ?_ | refine exN _ rfl (by first | omega | (simp; first | done | fail) | (simp; omega)) ?_ | refine exN 0 rfl (by first | omega | (simp; first | done | fail) | (simp; omega)) ?_ | refine exN 1 rfl (by first | omega | (simp; first | done | fail) | (simp; omega)) ?_)))
      exact ⟨.inl rfl, (by (repeat (first | exact RsE.nil | refine RsE.tmp (TLe.of_eq rfl) ?_ | refine RsE.tmp TLe.own ?_ | refine RsE.tmp TLe.nil ?_ | refine RsE.one rfl rfl rfl rfl (TLe.of_eq rfl) ?_ | refine RsE.agg rfl rfl rfl rfl rfl (TLe.of_eq rfl) ?_)); (first | done | fail)), (by (repeat (first | exact FitO.nil | refine FitO.cons rfl ?_)); (first | done | fail))⟩
    | false =>
      (repeat ((conv => whnf); (first | with_reducible refine exE _ (w_inc (by omega)) ?_ | with_reducible refine exE _ (w_dec (by omega) (by omega)) ?_ | with_reducible refine exE _ (wrap_in (by omega) (by omega)) ?_ | refine exR ?_ | refine gen_d rfl (enters_of Tryd.func35 rfl rfl) (hT) (by (repeat (first | exact TLes.nil | refine TLes.cons (TLe.of_eq rfl) ?_ | refine TLes.cons TLe.own ?_ | refine TLes.cons TLe.nil ?_)); (first | done | fail)) ?_ | refine spT (by first | with_reducible rfl | assumption | rfl | decide | exact decide_eq_true (by omega) | exact beq_iff_eq.2 (by omega) | exact bne_iff_ne.2 (by omega)) ?_ | refine spF (by first | with_reducible rfl | assumption | rfl | decide | exact decide_eq_false (by omega) | exact beq_eq_false_iff_ne.2 (by omega) | exact bne_eq_false_iff_eq.2 (by omega)) ?_ | refine guT (by first | with_reducible rfl | assumption | rfl | decide | exact decide_eq_true (by omega) | exact beq_iff_eq.2 (by omega) | exact bne_iff_ne.2 (by omega)) ?_ | refine guF (by first | with_reducible rfl | assumption | rfl | decide | exact decide_eq_false (by omega) | exact beq_eq_false_iff_ne.2 (by omega) | exact bne_eq_false_iff_eq.2 (by omega)) ?_ | refine guT (by first | with_reducible rfl | assumption | rfl | decide | exact decide_eq_false (by omega) | exact beq_eq_false_iff_ne.2 (by omega) | exact bne_eq_false_iff_eq.2 (by omega)) ?_ | refine guF (by first | with_reducible rfl | assumption | rfl | decide | exact decide_eq_true (by omega) | exact beq_iff_eq.2 (by omega) | exact bne_iff_ne.2 (by omega)) ?_ | refine And.intro (a := orderB _ _ = true) (by kernel_rfl) ?_ | refine And.intro rfl ?_ | refine And.intro (a := _ ≤ _) (by first | omega | (simp; first | done | fail) | (simp; omega)) ?_ | refine And.intro (a := _ ≠ _) (by decide) ?_ | refine exI _ rfl (by assumption) ?_ | refine exI 0 rfl rfl ?_ | refine exI 1 rfl rfl ?_ | refine exB _ rfl (by assumption) ?_ | refine exB 0 rfl rfl ?_ | refine exA 0 rfl (by decide) ?_ | refine exA 1 rfl (by decide) ?_ | refine exA _ rfl (by omega) ?_ | refine exN _ rfl (by first | omega | (simp; first | done | fail) | (simp; omega)) ?_ | refine exN 0 rfl (by first | omega | (simp; first | done | fail) | (simp; omega)) ?_ | refine exN 1 rfl (by first | omega | (simp; first | done | fail) | (simp; omega)) ?_)))
      exact ⟨.inl rfl, (by (repeat (first | exact RsE.nil | refine RsE.tmp (TLe.of_eq rfl) ?_ | refine RsE.tmp TLe.own ?_ | refine RsE.tmp TLe.nil ?_ | refine RsE.one rfl rfl rfl rfl (TLe.of_eq rfl) ?_ | refine RsE.agg rfl rfl rfl rfl rfl (TLe.of_eq rfl) ?_)); (first | done | fail)), (by (repeat (first | exact FitO.nil | refine FitO.cons rfl ?_)); (first | done | fail))⟩
  | cons c t =>
    rw [hs] at hT
    have hI := indexB_fn set c
    cases b with
    | true =>
      rw [show signM set s true = (0, c :: t) from by simp [signM, hs]]
      refine FnO.of1 (n := 49) [] fax_ok Tryd.func22 rfl rfl rfl (by rfl) (by rfl) (by kernel_rfl) fun Γ hA hbA hbO => ?_
      (repeat ((conv => whnf); (first | with_reducible refine exE _ (w_inc (by omega)) ?_ | with_reducible refine exE _ (w_dec (by omega) (by omega)) ?_ | with_reducible refine exE _ (wrap_in (by omega) (by omega)) ?_ | refine exR ?_ | refine gen_d rfl (enters_of Tryd.func35 rfl rfl) (hT) (by (repeat (first | exact TLes.nil | refine TLes.cons (TLe.of_eq rfl) ?_ | refine TLes.cons TLe.own ?_ | refine TLes.cons TLe.nil ?_)); (first | done | fail)) ?_ | refine spT (by first | with_reducible rfl | assumption | rfl | decide | exact decide_eq_true (by omega) | exact beq_iff_eq.2 (by omega) | exact bne_iff_ne.2 (by omega)) ?_ | refine spF (by first | with_reducible rfl | assumption | rfl | decide | exact decide_eq_false (by omega) | exact beq_eq_false_iff_ne.2 (by omega) | exact bne_eq_false_iff_eq.2 (by omega)) ?_ | refine guT (by first | with_reducible rfl | assumption | rfl | decide | exact decide_eq_true (by omega) | exact beq_iff_eq.2 (by omega) | exact bne_iff_ne.2 (by omega)) ?_ | refine guF (by first | with_reducible rfl | assumption | rfl | decide | exact decide_eq_false (by omega) | exact beq_eq_false_iff_ne.2 (by omega) | exact bne_eq_false_iff_eq.2 (by omega)) ?_ | refine guT (by first | with_reducible rfl | assumption | rfl | decide | exact decide_eq_false (by omega) | exact beq_eq_false_iff_ne.2 (by omega) | exact bne_eq_false_iff_eq.2 (by omega)) ?_ | refine guF (by first | with_reducible rfl | assumption | rfl | decide | exact decide_eq_true (by omega) | exact beq_iff_eq.2 (by omega) | exact bne_iff_ne.2 (by omega)) ?_ | refine And.intro (a := orderB _ _ = true) (by kernel_rfl) ?_ | refine And.intro rfl ?_ | refine And.intro (a := _ ≤ _) (by first | omega | (simp; first | done | fail) | (simp; omega)) ?_ | refine And.intro (a := _ ≠ _) (by decide) ?_ | refine exI _ rfl (by assumption) ?_ | refine exI 0 rfl rfl ?_ | refine exI 1 rfl rfl ?_ | refine exB _ rfl (by assumption) ?_ | refine exB 0 rfl rfl ?_ | refine exA 0 rfl (by decide) ?_ | refine exA 1 rfl (by decide) ?_ | refine exA _ rfl (by omega) ?_ | refine exN _ rfl (by first | omega | (simp; first | done | fail) | (simp; omega)) ?_ | refine exN 0 rfl (by first | omega | (simp; first | done | fail) | (simp; omega)) ?_ | refine exN 1 rfl (by first | omega | (simp; first | done | fail) | (simp; omega)) ?_)))
      exact ⟨.inl rfl, (by (repeat (first | exact RsE.nil | refine RsE.tmp (TLe.of_eq rfl) ?_ | refine RsE.tmp TLe.own ?_ | refine RsE.tmp TLe.nil ?_ | refine RsE.one rfl rfl rfl rfl (TLe.of_eq rfl) ?_ | refine RsE.agg rfl rfl rfl rfl rfl (TLe.of_eq rfl) ?_)); (first | done | fail)), (by (repeat (first | exact FitO.nil | refine FitO.cons rfl ?_)); (first | done | fail))⟩
    | false =>
      cases hc : set.contains c with
      | true =>
        have hp := index_pos set c hc
        rw [show signM set s false = (c, t) from by simpa [signM, hs] using hc]
        refine FnO.of1 (n := 49) [] fax_ok Tryd.func22 rfl rfl rfl (by rfl) (by rfl) (by kernel_rfl) fun Γ hA hbA hbO => ?_
        (repeat ((conv => whnf); (first | with_reducible refine exE _ (w_inc (by omega)) ?_ | with_reducible refine exE _ (w_dec (by omega) (by omega)) ?_ | with_reducible refine exE _ (wrap_in (by omega) (by omega)) ?_ | refine exR ?_ | refine gen_d rfl (enters_of Tryd.func35 rfl rfl) (hT) (by (repeat (first | exact TLes.nil | refine TLes.cons (TLe.of_eq rfl) ?_ | refine TLes.cons TLe.own ?_ | refine TLes.cons TLe.nil ?_)); (first | done | fail)) ?_ | refine gen_d rfl (enters_of Tryd.func32 rfl rfl) (hI) (by (repeat (first | exact TLes.nil | refine TLes.cons (TLe.of_eq rfl) ?_ | refine TLes.cons TLe.own ?_ | refine TLes.cons TLe.nil ?_)); (first | done | fail)) ?_ | refine spT (by first | with_reducible rfl | assumption | rfl | decide | exact decide_eq_true (by omega) | exact beq_iff_eq.2 (by omega) | exact bne_iff_ne.2 (by omega)) ?_ | refine spF (by first | with_reducible rfl | assumption | rfl | decide | exact decide_eq_false (by omega) | exact beq_eq_false_iff_ne.2 (by omega) | exact bne_eq_false_iff_eq.2 (by omega)) ?_ | refine guT (by first | with_reducible rfl | assumption | rfl | decide | exact decide_eq_true (by omega) | exact beq_iff_eq.2 (by omega) | exact bne_iff_ne.2 (by omega)) ?_ | refine guF (by first | with_reducible rfl | assumption | rfl | decide | exact decide_eq_false (by omega) | exact beq_eq_false_iff_ne.2 (by omega) | exact bne_eq_false_iff_eq.2 (by omega)) ?_ | refine guT (by first | with_reducible rfl | assumption | rfl | decide | exact decide_eq_false (by omega) | exact beq_eq_false_iff_ne.2 (by omega) | exact bne_eq_false_iff_eq.2 (by omega)) ?_ | refine guF (by first | with_reducible rfl | assumption | rfl | decide | exact decide_eq_true (by omega) | exact beq_iff_eq.2 (by omega) | exact bne_iff_ne.2 (by omega)) ?_ | refine And.intro (a := orderB _ _ = true) (by kernel_rfl) ?_ | refine And.intro rfl ?_ | refine And.intro (a := _ ≤ _) (by first | omega | (simp; first | done | fail) | (simp; omega)) ?_ | refine And.intro (a := _ ≠ _) (by decide) ?_ | refine exI _ rfl (by assumption) ?_ | refine exI 0 rfl rfl ?_ | refine exI 1 rfl rfl ?_ | refine exB _ rfl (by assumption) ?_ | refine exB 0 rfl rfl ?_ | refine exA 0 rfl (by decide) ?_ | refine exA 1 rfl (by decide) ?_ | refine exA _ rfl (by omega) ?_ | refine exN _ rfl (by first | omega | (simp; first | done | fail) | (simp; omega)) ?_ | refine exN 0 rfl (by first | omega | (simp; first | done | fail) | (simp; omega)) ?_ | refine exN 1 rfl (by first | omega | (simp; first | done | fail) | (simp; omega)) ?_)))
        exact ⟨.inl rfl, (by (repeat (first | exact RsE.nil | refine RsE.tmp (TLe.of_eq rfl) ?_ | refine RsE.tmp TLe.own ?_ | refine RsE.tmp TLe.nil ?_ | refine RsE.one rfl rfl rfl rfl (TLe.of_eq rfl) ?_ | refine RsE.agg rfl rfl rfl rfl rfl (TLe.of_eq rfl) ?_)); (first | done | fail)), (by (repeat (first | exact FitO.nil | refine FitO.cons rfl ?_)); (first | done | fail))⟩
      | false =>
        have hp := index_neg set c hc
        rw [show signM set s false = (0, c :: t) from by simpa [signM, hs] using hc]
        refine FnO.of1 (n := 49) [] fax_ok Tryd.func22 rfl rfl rfl (by rfl) (by rfl) (by kernel_rfl) fun Γ hA hbA hbO => ?_
        (repeat ((conv => whnf); (first | with_reducible refine exE _ (w_inc (by omega)) ?_ | with_reducible refine exE _ (w_dec (by omega) (by omega)) ?_ | with_reducible refine exE _ (wrap_in (by omega) (by omega)) ?_ | refine exR ?_ | refine gen_d rfl (enters_of Tryd.func35 rfl rfl) (hT) (by (repeat (first | exact TLes.nil | refine TLes.cons (TLe.of_eq rfl) ?_ | refine TLes.cons TLe.own ?_ | refine TLes.cons TLe.nil ?_)); (first | done | fail)) ?_ | refine gen_d rfl (enters_of Tryd.func32 rfl rfl) (hI) (by (repeat (first | exact TLes.nil | refine TLes.cons (TLe.of_eq rfl) ?_ | refine TLes.cons TLe.own ?_ | refine TLes.cons TLe.nil ?_)); (first | done | fail)) ?_ | refine spT (by first | with_reducible rfl | assumption | rfl | decide | exact decide_eq_true (by omega) | exact beq_iff_eq.2 (by omega) | exact bne_iff_ne.2 (by omega)) ?_ | refine spF (by first | with_reducible rfl | assumption | rfl | decide | exact decide_eq_false (by omega) | exact beq_eq_false_iff_ne.2 (by omega) | exact bne_eq_false_iff_eq.2 (by omega)) ?_ | refine guT (by first | with_reducible rfl | assumption | rfl | decide | exact decide_eq_true (by omega) | exact beq_iff_eq.2 (by omega) | exact bne_iff_ne.2 (by omega)) ?_ | refine guF (by first | with_reducible rfl | assumption | rfl | decide | exact decide_eq_false (by omega) | exact beq_eq_false_iff_ne.2 (by omega) | exact bne_eq_false_iff_eq.2 (by omega)) ?_ | refine guT (by first | with_reducible rfl | assumption | rfl | decide | exact decide_eq_false (by omega) | exact beq_eq_false_iff_ne.2 (by omega) | exact bne_eq_false_iff_eq.2 (by omega)) ?_ | refine guF (by first | with_reducible rfl | assumption | rfl | decide | exact decide_eq_true (by omega) | exact beq_iff_eq.2 (by omega) | exact bne_iff_ne.2 (by omega)) ?_ | refine And.intro (a := orderB _ _ = true) (by kernel_rfl) ?_ | refine And.intro rfl ?_ | refine And.intro (a := _ ≤ _) (by first | omega | (simp; first | done | fail) | (simp; omega)) ?_ | refine And.intro (a := _ ≠ _) (by decide) ?_ | refine exI _ rfl (by assumption) ?_ | refine exI 0 rfl rfl ?_ | refine exI 1 rfl rfl ?_ | refine exB _ rfl (by assumption) ?_ | refine exB 0 rfl rfl ?_ | refine exA 0 rfl (by decide) ?_ | refine exA 1 rfl (by decide) ?_ | refine exA _ rfl (by omega) ?_ | refine exN _ rfl (by first | omega | (simp; first | done | fail) | (simp; omega)) ?_ | refine exN 0 rfl (by first | omega | (simp; first | done | fail) | (simp; omega)) ?_ | refine exN 1 rfl (by first | omega | (simp; first | done | fail) | (simp; omega)) ?_)))
        exact ⟨.inl rfl, (by (repeat (first | exact RsE.nil | refine RsE.tmp (TLe.of_eq rfl) ?_ | refine RsE.tmp TLe.own ?_ | refine RsE.tmp TLe.nil ?_ | refine RsE.one rfl rfl rfl rfl (TLe.of_eq rfl) ?_ | refine RsE.agg rfl rfl rfl rfl rfl (TLe.of_eq rfl) ?_)); (first | done | fail)), (by (repeat (first | exact FitO.nil | refine FitO.cons rfl ?_)); (first | done | fail))⟩
end Go.Proofs.YtjojjcdminbnlaaDoor
