/-
  Re, Rl, Rf, in one.
-/
import Derived.Test.YtiaaoajnecppnaaMra
section
namespace Go.Proofs.Ytiaaoajnecppnaa
open Go.RowKit

abbrev pfD (I J : List Int) : D := .agg [isD I, isD J]
theorem prove_err (l : List Ev) (th i j : Int) (h : pairM l th i j ≠ 0) : FnD Try.prog 10 [.d (evsD l), intT th, intT i, intT j] (.tup [.d (pfD [] []), intT (pairM l th i j)]) := by
  have hP := Apart_err l th i j h
  generalize pairM l th i j = e at *
  have hb : (e == 0) = false := by simpa using h
  have hb' : (e != 0) = true := by simpa using h
  refine FnD.ofT (n := 57) [] fax_ok Try.func10 rfl rfl rfl (by rfl) (by kernel_rfl) (by intro _; rfl) fun Γ hA hbA => ?_
  (repeat ((conv => whnf); (first | refine exE (α := List D) _ (by assumption) ?_ | with_reducible refine exE (α := Int) _ (by assumption) ?_ | with_reducible refine exE _ (w_inc (by omega)) ?_ | with_reducible refine exE _ (w_dec (by omega) (by omega)) ?_ | with_reducible refine exE _ (wrap_in (by omega) (by omega)) ?_ | refine exR ?_ | refine gen_d rfl (enters_of Try.func19 rfl rfl) (hP) (by (repeat (first | exact TLes.nil | refine TLes.cons (TLe.of_eq rfl) ?_ | refine TLes.cons TLe.own ?_ | refine TLes.cons TLe.nil ?_)); (first | done | fail)) ?_ | refine spT (by first | with_reducible rfl | assumption | rfl | decide | exact decide_eq_true (by omega) | exact beq_iff_eq.2 (by omega) | exact bne_iff_ne.2 (by omega)) ?_ | refine spF (by first | with_reducible rfl | assumption | rfl | decide | exact decide_eq_false (by omega) | exact beq_eq_false_iff_ne.2 (by omega) | exact bne_eq_false_iff_eq.2 (by omega)) ?_ | refine guT (by first | with_reducible rfl | assumption | rfl | decide | exact decide_eq_true (by omega) | exact beq_iff_eq.2 (by omega) | exact bne_iff_ne.2 (by omega)) ?_ | refine guF (by first | with_reducible rfl | assumption | rfl | decide | exact decide_eq_false (by omega) | exact beq_eq_false_iff_ne.2 (by omega) | exact bne_eq_false_iff_eq.2 (by omega)) ?_ | refine guT (by first | with_reducible rfl | assumption | rfl | decide | exact decide_eq_false (by omega) | exact beq_eq_false_iff_ne.2 (by omega) | exact bne_eq_false_iff_eq.2 (by omega)) ?_ | refine guF (by first | with_reducible rfl | assumption | rfl | decide | exact decide_eq_true (by omega) | exact beq_iff_eq.2 (by omega) | exact bne_iff_ne.2 (by omega)) ?_ | refine And.intro (a := orderB _ _ = true) (by kernel_rfl) ?_ | refine And.intro rfl ?_ | refine And.intro (a := _ ≤ _) (by first | omega | (simp; first | done | fail) | (simp; omega)) ?_ | refine And.intro (a := _ ≠ _) (by decide) ?_ | refine exS _ (by assumption) rfl ?_ | refine exBR _ (by assumption) ?_ | refine And.intro (a := List.length _ = _) (by first | assumption | (simp; first | done | omega)) ?_ | refine And.intro (a := _ < _) (by first | omega | (simp; first | done | omega)) ?_ | refine exI _ rfl (by assumption) ?_ | refine exI 0 rfl (by assumption) ?_ | refine exI 0 rfl rfl ?_ | refine exI 1 rfl rfl ?_ | refine exI 2 rfl rfl ?_ | refine exN _ rfl (by first | omega | (simp; first | done | fail) | (simp; omega)) ?_ | refine exN 0 rfl (by first | omega | (simp; first | done | fail) | (simp; omega)) ?_ | refine exN 1 rfl (by first | omega | (simp; first | done | fail) | (simp; omega)) ?_)))
  exact ⟨by first | exact .inl rfl | exact .inr rfl, (by (repeat (first | exact RsE.nil | refine RsE.tmp (TLe.of_eq rfl) ?_ | refine RsE.tmp TLe.own ?_ | refine RsE.tmp TLe.nil ?_ | refine RsE.one rfl rfl rfl rfl (TLe.of_eq rfl) ?_ | refine RsE.agg rfl rfl rfl rfl rfl (TLe.of_eq rfl) ?_)); (first | done | fail)), (by (repeat (first | exact FitO.nil | refine FitO.cons rfl ?_)); (first | done | fail))⟩
def raceX (l : List Ev) (n i j : Nat) : Bool := apN l n i j && meetM (evAt l i) (evAt l j)
def intoI (l : List Ev) (i : Nat) : List Int := intoL ((edM l).map toDp) i
set_option maxHeartbeats 1000000 in
theorem prove_fn (l : List Ev) (n i j : Nat) (hc : checkM l n = 0) (hi : i < l.length) (hj : j < l.length) (hel : (edM l).length ≤ 90000) :
    FnD Try.prog 10 [.d (evsD l), intT n, intT i, intT j] (.tup [.d (if raceX l n i j = true then pfD (intoI l i) (intoI l j) else pfD [] []), intT (if raceX l n i j = true then 0 else 5)]) := by
  have hP := Apart_fn l n i j hc hi hj
  have hx : (l.map evD)[i]? = some (evD l[i]) := by rw [List.getElem?_map, List.getElem?_eq_getElem hi, Option.map_some]
  have hy : (l.map evD)[j]? = some (evD l[j]) := by rw [List.getElem?_map, List.getElem?_eq_getElem hj, Option.map_some]
  have hM := meet_fn l[i] l[j]
  have hE := edgesOk_fn l n hc
  have g1 := into_fn (edM l) i hel
  have g2 := into_fn (edM l) j hel
  unfold raceX intoI
  rw [evAt_lt hi, evAt_lt hj]
  generalize apN l n i j = a at *
  generalize edM l = es at *
  generalize l[i] = x at *
  generalize l[j] = y at *
  generalize meetM x y = m at *
  generalize intoL (es.map toDp) i = I at *
  generalize intoL (es.map toDp) j = J at *
  have hlm : (l.map evD).length = l.length := List.length_map _
  cases a with
  | false =>
    rw [Bool.false_and]
    refine FnD.ofT (n := 57) [] fax_ok Try.func10 rfl rfl rfl (by rfl) (by kernel_rfl) (by intro _; rfl) fun Γ hA hbA => ?_
    (repeat ((conv => whnf); (first | refine exE (α := List D) _ (by assumption) ?_ | with_reducible refine exE (α := Int) _ (by assumption) ?_ | with_reducible refine exE _ (w_inc (by omega)) ?_ | with_reducible refine exE _ (w_dec (by omega) (by omega)) ?_ | with_reducible refine exE _ (wrap_in (by omega) (by omega)) ?_ | refine exR ?_ | refine gen_d rfl (enters_of Try.func19 rfl rfl) (hP) (by (repeat (first | exact TLes.nil | refine TLes.cons (TLe.of_eq rfl) ?_ | refine TLes.cons TLe.own ?_ | refine TLes.cons TLe.nil ?_)); (first | done | fail)) ?_ | refine gen_d rfl (enters_of Try.func16 rfl rfl) (hM) (by (repeat (first | exact TLes.nil | refine TLes.cons (TLe.of_eq rfl) ?_ | refine TLes.cons TLe.own ?_ | refine TLes.cons TLe.nil ?_)); (first | done | fail)) ?_ | refine gen_d rfl (enters_of Try.func17 rfl rfl) (hE) (by (repeat (first | exact TLes.nil | refine TLes.cons (TLe.of_eq rfl) ?_ | refine TLes.cons TLe.own ?_ | refine TLes.cons TLe.nil ?_)); (first | done | fail)) ?_ | refine spT (by first | with_reducible rfl | assumption | rfl | decide | exact decide_eq_true (by omega) | exact beq_iff_eq.2 (by omega) | exact bne_iff_ne.2 (by omega)) ?_ | refine spF (by first | with_reducible rfl | assumption | rfl | decide | exact decide_eq_false (by omega) | exact beq_eq_false_iff_ne.2 (by omega) | exact bne_eq_false_iff_eq.2 (by omega)) ?_ | refine guT (by first | with_reducible rfl | assumption | rfl | decide | exact decide_eq_true (by omega) | exact beq_iff_eq.2 (by omega) | exact bne_iff_ne.2 (by omega)) ?_ | refine guF (by first | with_reducible rfl | assumption | rfl | decide | exact decide_eq_false (by omega) | exact beq_eq_false_iff_ne.2 (by omega) | exact bne_eq_false_iff_eq.2 (by omega)) ?_ | refine guT (by first | with_reducible rfl | assumption | rfl | decide | exact decide_eq_false (by omega) | exact beq_eq_false_iff_ne.2 (by omega) | exact bne_eq_false_iff_eq.2 (by omega)) ?_ | refine guF (by first | with_reducible rfl | assumption | rfl | decide | exact decide_eq_true (by omega) | exact beq_iff_eq.2 (by omega) | exact bne_iff_ne.2 (by omega)) ?_ | refine And.intro (a := orderB _ _ = true) (by kernel_rfl) ?_ | refine And.intro rfl ?_ | refine And.intro (a := _ ≤ _) (by first | omega | (simp; first | done | fail) | (simp; omega)) ?_ | refine And.intro (a := _ ≠ _) (by decide) ?_ | refine exS _ (by assumption) rfl ?_ | refine exBR _ (by assumption) ?_ | refine And.intro (a := List.length _ = _) (by first | assumption | (simp; first | done | omega)) ?_ | refine And.intro (a := _ < _) (by first | omega | (simp; first | done | omega)) ?_ | refine exI _ rfl (by assumption) ?_ | refine exI 0 rfl (by assumption) ?_ | refine exI 0 rfl rfl ?_ | refine exI 1 rfl rfl ?_ | refine exI 2 rfl rfl ?_ | refine exN _ rfl (by first | omega | (simp; first | done | fail) | (simp; omega)) ?_ | refine exN 0 rfl (by first | omega | (simp; first | done | fail) | (simp; omega)) ?_ | refine exN 1 rfl (by first | omega | (simp; first | done | fail) | (simp; omega)) ?_)))
    exact ⟨by first | exact .inl rfl | exact .inr rfl, (by (repeat (first | exact RsE.nil | refine RsE.tmp (TLe.of_eq rfl) ?_ | refine RsE.tmp TLe.own ?_ | refine RsE.tmp TLe.nil ?_ | refine RsE.one rfl rfl rfl rfl (TLe.of_eq rfl) ?_ | refine RsE.agg rfl rfl rfl rfl rfl (TLe.of_eq rfl) ?_)); (first | done | fail)), (by (repeat (first | exact FitO.nil | refine FitO.cons rfl ?_)); (first | done | fail))⟩
  | true =>
    cases m with
    | false =>
      refine FnD.ofT (n := 57) [] fax_ok Try.func10 rfl rfl rfl (by rfl) (by kernel_rfl) (by intro _; rfl) fun Γ hA hbA => ?_
      (repeat ((conv => whnf); (first | refine exE (α := List D) _ (by assumption) ?_ | with_reducible refine exE (α := Int) _ (by assumption) ?_ | with_reducible refine exE _ (w_inc (by omega)) ?_ | with_reducible refine exE _ (w_dec (by omega) (by omega)) ?_ | with_reducible refine exE _ (wrap_in (by omega) (by omega)) ?_ | refine exR ?_ | refine gen_d rfl (enters_of Try.func19 rfl rfl) (hP) (by (repeat (first | exact TLes.nil | refine TLes.cons (TLe.of_eq rfl) ?_ | refine TLes.cons TLe.own ?_ | refine TLes.cons TLe.nil ?_)); (first | done | fail)) ?_ | refine gen_d rfl (enters_of Try.func16 rfl rfl) (hM) (by (repeat (first | exact TLes.nil | refine TLes.cons (TLe.of_eq rfl) ?_ | refine TLes.cons TLe.own ?_ | refine TLes.cons TLe.nil ?_)); (first | done | fail)) ?_ | refine gen_d rfl (enters_of Try.func17 rfl rfl) (hE) (by (repeat (first | exact TLes.nil | refine TLes.cons (TLe.of_eq rfl) ?_ | refine TLes.cons TLe.own ?_ | refine TLes.cons TLe.nil ?_)); (first | done | fail)) ?_ | refine spT (by first | with_reducible rfl | assumption | rfl | decide | exact decide_eq_true (by omega) | exact beq_iff_eq.2 (by omega) | exact bne_iff_ne.2 (by omega)) ?_ | refine spF (by first | with_reducible rfl | assumption | rfl | decide | exact decide_eq_false (by omega) | exact beq_eq_false_iff_ne.2 (by omega) | exact bne_eq_false_iff_eq.2 (by omega)) ?_ | refine guT (by first | with_reducible rfl | assumption | rfl | decide | exact decide_eq_true (by omega) | exact beq_iff_eq.2 (by omega) | exact bne_iff_ne.2 (by omega)) ?_ | refine guF (by first | with_reducible rfl | assumption | rfl | decide | exact decide_eq_false (by omega) | exact beq_eq_false_iff_ne.2 (by omega) | exact bne_eq_false_iff_eq.2 (by omega)) ?_ | refine guT (by first | with_reducible rfl | assumption | rfl | decide | exact decide_eq_false (by omega) | exact beq_eq_false_iff_ne.2 (by omega) | exact bne_eq_false_iff_eq.2 (by omega)) ?_ | refine guF (by first | with_reducible rfl | assumption | rfl | decide | exact decide_eq_true (by omega) | exact beq_iff_eq.2 (by omega) | exact bne_iff_ne.2 (by omega)) ?_ | refine And.intro (a := orderB _ _ = true) (by kernel_rfl) ?_ | refine And.intro rfl ?_ | refine And.intro (a := _ ≤ _) (by first | omega | (simp; first | done | fail) | (simp; omega)) ?_ | refine And.intro (a := _ ≠ _) (by decide) ?_ | refine exS _ (by assumption) rfl ?_ | refine exBR _ (by assumption) ?_ | refine And.intro (a := List.length _ = _) (by first | assumption | (simp; first | done | omega)) ?_ | refine And.intro (a := _ < _) (by first | omega | (simp; first | done | omega)) ?_ | refine exI _ rfl (by assumption) ?_ | refine exI 0 rfl (by assumption) ?_ | refine exI 0 rfl rfl ?_ | refine exI 1 rfl rfl ?_ | refine exI 2 rfl rfl ?_ | refine exN _ rfl (by first | omega | (simp; first | done | fail) | (simp; omega)) ?_ | refine exN 0 rfl (by first | omega | (simp; first | done | fail) | (simp; omega)) ?_ | refine exN 1 rfl (by first | omega | (simp; first | done | fail) | (simp; omega)) ?_)))
      exact ⟨by first | exact .inl rfl | exact .inr rfl, (by (repeat (first | exact RsE.nil | refine RsE.tmp (TLe.of_eq rfl) ?_ | refine RsE.tmp TLe.own ?_ | refine RsE.tmp TLe.nil ?_ | refine RsE.one rfl rfl rfl rfl (TLe.of_eq rfl) ?_ | refine RsE.agg rfl rfl rfl rfl rfl (TLe.of_eq rfl) ?_)); (first | done | fail)), (by (repeat (first | exact FitO.nil | refine FitO.cons rfl ?_)); (first | done | fail))⟩
    | true =>
      refine FnD.ofT (n := 57) [] fax_ok Try.func10 rfl rfl rfl (by rfl) (by kernel_rfl) (by intro _; rfl) fun Γ hA hbA => ?_
      (repeat ((conv => whnf); (first | refine exE (α := List D) _ (by assumption) ?_ | with_reducible refine exE (α := Int) _ (by assumption) ?_ | with_reducible refine exE _ (w_inc (by omega)) ?_ | with_reducible refine exE _ (w_dec (by omega) (by omega)) ?_ | with_reducible refine exE _ (wrap_in (by omega) (by omega)) ?_ | refine exR ?_ | refine gen_d rfl (enters_of Try.func19 rfl rfl) (hP) (by (repeat (first | exact TLes.nil | refine TLes.cons (TLe.of_eq rfl) ?_ | refine TLes.cons TLe.own ?_ | refine TLes.cons TLe.nil ?_)); (first | done | fail)) ?_ | refine gen_d rfl (enters_of Try.func16 rfl rfl) (hM) (by (repeat (first | exact TLes.nil | refine TLes.cons (TLe.of_eq rfl) ?_ | refine TLes.cons TLe.own ?_ | refine TLes.cons TLe.nil ?_)); (first | done | fail)) ?_ | refine gen_d rfl (enters_of Try.func17 rfl rfl) (hE) (by (repeat (first | exact TLes.nil | refine TLes.cons (TLe.of_eq rfl) ?_ | refine TLes.cons TLe.own ?_ | refine TLes.cons TLe.nil ?_)); (first | done | fail)) ?_ | refine spT (by first | with_reducible rfl | assumption | rfl | decide | exact decide_eq_true (by omega) | exact beq_iff_eq.2 (by omega) | exact bne_iff_ne.2 (by omega)) ?_ | refine spF (by first | with_reducible rfl | assumption | rfl | decide | exact decide_eq_false (by omega) | exact beq_eq_false_iff_ne.2 (by omega) | exact bne_eq_false_iff_eq.2 (by omega)) ?_ | refine guT (by first | with_reducible rfl | assumption | rfl | decide | exact decide_eq_true (by omega) | exact beq_iff_eq.2 (by omega) | exact bne_iff_ne.2 (by omega)) ?_ | refine guF (by first | with_reducible rfl | assumption | rfl | decide | exact decide_eq_false (by omega) | exact beq_eq_false_iff_ne.2 (by omega) | exact bne_eq_false_iff_eq.2 (by omega)) ?_ | refine guT (by first | with_reducible rfl | assumption | rfl | decide | exact decide_eq_false (by omega) | exact beq_eq_false_iff_ne.2 (by omega) | exact bne_eq_false_iff_eq.2 (by omega)) ?_ | refine guF (by first | with_reducible rfl | assumption | rfl | decide | exact decide_eq_true (by omega) | exact beq_iff_eq.2 (by omega) | exact bne_iff_ne.2 (by omega)) ?_ | refine And.intro (a := orderB _ _ = true) (by kernel_rfl) ?_ | refine And.intro rfl ?_ | refine And.intro (a := _ ≤ _) (by first | omega | (simp; first | done | fail) | (simp; omega)) ?_ | refine And.intro (a := _ ≠ _) (by decide) ?_ | refine exS _ (by assumption) rfl ?_ | refine exBR _ (by assumption) ?_ | refine And.intro (a := List.length _ = _) (by first | assumption | (simp; first | done | omega)) ?_ | refine And.intro (a := _ < _) (by first | omega | (simp; first | done | omega)) ?_ | refine exI _ rfl (by assumption) ?_ | refine exI 0 rfl (by assumption) ?_ | refine exI 0 rfl rfl ?_ | refine exI 1 rfl rfl ?_ | refine exI 2 rfl rfl ?_ | refine exN _ rfl (by first | omega | (simp; first | done | fail) | (simp; omega)) ?_ | refine exN 0 rfl (by first | omega | (simp; first | done | fail) | (simp; omega)) ?_ | refine exN 1 rfl (by first | omega | (simp; first | done | fail) | (simp; omega)) ?_)))
      refine gen_d rfl (enters_of Try.func20 rfl rfl) (g1) (by (repeat (first | exact TLes.nil | refine TLes.cons (TLe.of_eq rfl) ?_ | refine TLes.cons TLe.own ?_ | refine TLes.cons TLe.nil ?_)); (first | done | fail)) ?_
      (repeat ((conv => whnf); (first | refine exE (α := List D) _ (by assumption) ?_ | with_reducible refine exE (α := Int) _ (by assumption) ?_ | with_reducible refine exE _ (w_inc (by omega)) ?_ | with_reducible refine exE _ (w_dec (by omega) (by omega)) ?_ | with_reducible refine exE _ (wrap_in (by omega) (by omega)) ?_ | refine exR ?_ | refine gen_d rfl (enters_of Try.func19 rfl rfl) (hP) (by (repeat (first | exact TLes.nil | refine TLes.cons (TLe.of_eq rfl) ?_ | refine TLes.cons TLe.own ?_ | refine TLes.cons TLe.nil ?_)); (first | done | fail)) ?_ | refine gen_d rfl (enters_of Try.func16 rfl rfl) (hM) (by (repeat (first | exact TLes.nil | refine TLes.cons (TLe.of_eq rfl) ?_ | refine TLes.cons TLe.own ?_ | refine TLes.cons TLe.nil ?_)); (first | done | fail)) ?_ | refine gen_d rfl (enters_of Try.func17 rfl rfl) (hE) (by (repeat (first | exact TLes.nil | refine TLes.cons (TLe.of_eq rfl) ?_ | refine TLes.cons TLe.own ?_ | refine TLes.cons TLe.nil ?_)); (first | done | fail)) ?_ | refine spT (by first | with_reducible rfl | assumption | rfl | decide | exact decide_eq_true (by omega) | exact beq_iff_eq.2 (by omega) | exact bne_iff_ne.2 (by omega)) ?_ | refine spF (by first | with_reducible rfl | assumption | rfl | decide | exact decide_eq_false (by omega) | exact beq_eq_false_iff_ne.2 (by omega) | exact bne_eq_false_iff_eq.2 (by omega)) ?_ | refine guT (by first | with_reducible rfl | assumption | rfl | decide | exact decide_eq_true (by omega) | exact beq_iff_eq.2 (by omega) | exact bne_iff_ne.2 (by omega)) ?_ | refine guF (by first | with_reducible rfl | assumption | rfl | decide | exact decide_eq_false (by omega) | exact beq_eq_false_iff_ne.2 (by omega) | exact bne_eq_false_iff_eq.2 (by omega)) ?_ | refine guT (by first | with_reducible rfl | assumption | rfl | decide | exact decide_eq_false (by omega) | exact beq_eq_false_iff_ne.2 (by omega) | exact bne_eq_false_iff_eq.2 (by omega)) ?_ | refine guF (by first | with_reducible rfl | assumption | rfl | decide | exact decide_eq_true (by omega) | exact beq_iff_eq.2 (by omega) | exact bne_iff_ne.2 (by omega)) ?_ | refine And.intro (a := orderB _ _ = true) (by kernel_rfl) ?_ | refine And.intro rfl ?_ | refine And.intro (a := _ ≤ _) (by first | omega | (simp; first | done | fail) | (simp; omega)) ?_ | refine And.intro (a := _ ≠ _) (by decide) ?_ | refine exS _ (by assumption) rfl ?_ | refine exBR _ (by assumption) ?_ | refine And.intro (a := List.length _ = _) (by first | assumption | (simp; first | done | omega)) ?_ | refine And.intro (a := _ < _) (by first | omega | (simp; first | done | omega)) ?_ | refine exI _ rfl (by assumption) ?_ | refine exI 0 rfl (by assumption) ?_ | refine exI 0 rfl rfl ?_ | refine exI 1 rfl rfl ?_ | refine exI 2 rfl rfl ?_ | refine exN _ rfl (by first | omega | (simp; first | done | fail) | (simp; omega)) ?_ | refine exN 0 rfl (by first | omega | (simp; first | done | fail) | (simp; omega)) ?_ | refine exN 1 rfl (by first | omega | (simp; first | done | fail) | (simp; omega)) ?_)))
      refine gen_d rfl (enters_of Try.func20 rfl rfl) (g2) (by (repeat (first | exact TLes.nil | refine TLes.cons (TLe.of_eq rfl) ?_ | refine TLes.cons TLe.own ?_ | refine TLes.cons TLe.nil ?_)); (first | done | fail)) ?_
      (repeat ((conv => whnf); (first | refine exE (α := List D) _ (by assumption) ?_ | with_reducible refine exE (α := Int) _ (by assumption) ?_ | with_reducible refine exE _ (w_inc (by omega)) ?_ | with_reducible refine exE _ (w_dec (by omega) (by omega)) ?_ | with_reducible refine exE _ (wrap_in (by omega) (by omega)) ?_ | refine exR ?_ | refine gen_d rfl (enters_of Try.func19 rfl rfl) (hP) (by (repeat (first | exact TLes.nil | refine TLes.cons (TLe.of_eq rfl) ?_ | refine TLes.cons TLe.own ?_ | refine TLes.cons TLe.nil ?_)); (first | done | fail)) ?_ | refine gen_d rfl (enters_of Try.func16 rfl rfl) (hM) (by (repeat (first | exact TLes.nil | refine TLes.cons (TLe.of_eq rfl) ?_ | refine TLes.cons TLe.own ?_ | refine TLes.cons TLe.nil ?_)); (first | done | fail)) ?_ | refine gen_d rfl (enters_of Try.func17 rfl rfl) (hE) (by (repeat (first | exact TLes.nil | refine TLes.cons (TLe.of_eq rfl) ?_ | refine TLes.cons TLe.own ?_ | refine TLes.cons TLe.nil ?_)); (first | done | fail)) ?_ | refine spT (by first | with_reducible rfl | assumption | rfl | decide | exact decide_eq_true (by omega) | exact beq_iff_eq.2 (by omega) | exact bne_iff_ne.2 (by omega)) ?_ | refine spF (by first | with_reducible rfl | assumption | rfl | decide | exact decide_eq_false (by omega) | exact beq_eq_false_iff_ne.2 (by omega) | exact bne_eq_false_iff_eq.2 (by omega)) ?_ | refine guT (by first | with_reducible rfl | assumption | rfl | decide | exact decide_eq_true (by omega) | exact beq_iff_eq.2 (by omega) | exact bne_iff_ne.2 (by omega)) ?_ | refine guF (by first | with_reducible rfl | assumption | rfl | decide | exact decide_eq_false (by omega) | exact beq_eq_false_iff_ne.2 (by omega) | exact bne_eq_false_iff_eq.2 (by omega)) ?_ | refine guT (by first | with_reducible rfl | assumption | rfl | decide | exact decide_eq_false (by omega) | exact beq_eq_false_iff_ne.2 (by omega) | exact bne_eq_false_iff_eq.2 (by omega)) ?_ | refine guF (by first | with_reducible rfl | assumption | rfl | decide | exact decide_eq_true (by omega) | exact beq_iff_eq.2 (by omega) | exact bne_iff_ne.2 (by omega)) ?_ | refine And.intro (a := orderB _ _ = true) (by kernel_rfl) ?_ | refine And.intro rfl ?_ | refine And.intro (a := _ ≤ _) (by first | omega | (simp; first | done | fail) | (simp; omega)) ?_ | refine And.intro (a := _ ≠ _) (by decide) ?_ | refine exS _ (by assumption) rfl ?_ | refine exBR _ (by assumption) ?_ | refine And.intro (a := List.length _ = _) (by first | assumption | (simp; first | done | omega)) ?_ | refine And.intro (a := _ < _) (by first | omega | (simp; first | done | omega)) ?_ | refine exI _ rfl (by assumption) ?_ | refine exI 0 rfl (by assumption) ?_ | refine exI 0 rfl rfl ?_ | refine exI 1 rfl rfl ?_ | refine exI 2 rfl rfl ?_ | refine exN _ rfl (by first | omega | (simp; first | done | fail) | (simp; omega)) ?_ | refine exN 0 rfl (by first | omega | (simp; first | done | fail) | (simp; omega)) ?_ | refine exN 1 rfl (by first | omega | (simp; first | done | fail) | (simp; omega)) ?_)))
      exact ⟨by first | exact .inl rfl | exact .inr rfl, (by (repeat (first | exact RsE.nil | refine RsE.tmp (TLe.of_eq rfl) ?_ | refine RsE.tmp TLe.own ?_ | refine RsE.tmp TLe.nil ?_ | refine RsE.one rfl rfl rfl rfl (TLe.of_eq rfl) ?_ | refine RsE.agg rfl rfl rfl rfl rfl (TLe.of_eq rfl) ?_)); (first | done | fail)), (by (repeat (first | exact FitO.nil | refine FitO.cons rfl ?_)); (first | done | fail))⟩
theorem holds_err (l : List Ev) (th i j : Int) (I J : List Int) (h : pairM l th i j ≠ 0) : FnD Try.prog 9 [.d (evsD l), intT th, intT i, intT j, .d (pfD I J)] (.tup [boolT false, intT (pairM l th i j)]) := by
  have hP := Before_err l th i j h
  generalize pairM l th i j = e at *
  have hb' : (e != 0) = true := by simpa using h
  refine FnD.ofT (n := 62) [1009] fax_ok Try.func9 rfl rfl rfl (by rfl) (by kernel_rfl) (by intro _; rfl) fun Γ hA hbA => ?_
  (repeat ((conv => whnf); (first | refine exE (α := List D) _ (by assumption) ?_ | with_reducible refine exE (α := Int) _ (by assumption) ?_ | with_reducible refine exE _ (w_inc (by omega)) ?_ | with_reducible refine exE _ (w_dec (by omega) (by omega)) ?_ | with_reducible refine exE _ (wrap_in (by omega) (by omega)) ?_ | refine exR ?_ | refine gen_d rfl (enters_of Try.func12 rfl rfl) (hP) (by (repeat (first | exact TLes.nil | refine TLes.cons (TLe.of_eq rfl) ?_ | refine TLes.cons TLe.own ?_ | refine TLes.cons TLe.nil ?_)); (first | done | fail)) ?_ | refine spT (by first | with_reducible rfl | assumption | rfl | decide | exact decide_eq_true (by omega) | exact beq_iff_eq.2 (by omega) | exact bne_iff_ne.2 (by omega)) ?_ | refine spF (by first | with_reducible rfl | assumption | rfl | decide | exact decide_eq_false (by omega) | exact beq_eq_false_iff_ne.2 (by omega) | exact bne_eq_false_iff_eq.2 (by omega)) ?_ | refine guT (by first | with_reducible rfl | assumption | rfl | decide | exact decide_eq_true (by omega) | exact beq_iff_eq.2 (by omega) | exact bne_iff_ne.2 (by omega)) ?_ | refine guF (by first | with_reducible rfl | assumption | rfl | decide | exact decide_eq_false (by omega) | exact beq_eq_false_iff_ne.2 (by omega) | exact bne_eq_false_iff_eq.2 (by omega)) ?_ | refine guT (by first | with_reducible rfl | assumption | rfl | decide | exact decide_eq_false (by omega) | exact beq_eq_false_iff_ne.2 (by omega) | exact bne_eq_false_iff_eq.2 (by omega)) ?_ | refine guF (by first | with_reducible rfl | assumption | rfl | decide | exact decide_eq_true (by omega) | exact beq_iff_eq.2 (by omega) | exact bne_iff_ne.2 (by omega)) ?_ | refine And.intro (a := orderB _ _ = true) (by kernel_rfl) ?_ | refine And.intro rfl ?_ | refine And.intro (a := _ ≤ _) (by first | omega | (simp; first | done | fail) | (simp; omega)) ?_ | refine And.intro (a := _ ≠ _) (by decide) ?_ | refine exS _ (by assumption) rfl ?_ | refine exBR _ (by assumption) ?_ | refine And.intro (a := List.length _ = _) (by first | assumption | (simp; first | done | omega)) ?_ | refine And.intro (a := _ < _) (by first | omega | (simp; first | done | omega)) ?_ | refine exI _ rfl (by assumption) ?_ | refine exI 0 rfl (by assumption) ?_ | refine exI 0 rfl rfl ?_ | refine exI 1 rfl rfl ?_ | refine exI 2 rfl rfl ?_ | refine exN _ rfl (by first | omega | (simp; first | done | fail) | (simp; omega)) ?_ | refine exN 0 rfl (by first | omega | (simp; first | done | fail) | (simp; omega)) ?_ | refine exN 1 rfl (by first | omega | (simp; first | done | fail) | (simp; omega)) ?_)))
  exact ⟨by first | exact .inl rfl | exact .inr rfl, (by (repeat (first | exact RsE.nil | refine RsE.tmp (TLe.of_eq rfl) ?_ | refine RsE.tmp TLe.own ?_ | refine RsE.tmp TLe.nil ?_ | refine RsE.one rfl rfl rfl rfl (TLe.of_eq rfl) ?_ | refine RsE.agg rfl rfl rfl rfl rfl (TLe.of_eq rfl) ?_)); (first | done | fail)), (by (repeat (first | exact FitO.nil | refine FitO.cons rfl ?_)); (first | done | fail))⟩
def holdsM (l : List Ev) (i j : Nat) (I J : List Int) : Bool := meetM (evAt l i) (evAt l j) && closedM I (edM l) i j l.length && closedM J (edM l) j i l.length
set_option maxHeartbeats 1000000 in
theorem holds_fn (l : List Ev) (n i j : Nat) (I J : List Int) (hc : checkM l n = 0) (hi : i < l.length) (hj : j < l.length) :
    FnD Try.prog 9 [.d (evsD l), intT n, intT i, intT j, .d (pfD I J)] (.tup [boolT (holdsM l i j I J), intT 0]) := by
  have hP := Before_fn l n i j hc hi hj
  have hx : (l.map evD)[i]? = some (evD l[i]) := by rw [List.getElem?_map, List.getElem?_eq_getElem hi, Option.map_some]
  have hy : (l.map evD)[j]? = some (evD l[j]) := by rw [List.getElem?_map, List.getElem?_eq_getElem hj, Option.map_some]
  have hM := meet_fn l[i] l[j]
  have hE := edgesOk_fn l n hc
  have h200 := (chk_ok hc).1
  have hlm : (l.map evD).length = l.length := List.length_map _
  have g1 := closed_fn I (edM l) i j l.length (by omega)
  have g2 := closed_fn J (edM l) j i l.length (by omega)
  rw [← hlm] at g1 g2
  unfold holdsM
  rw [evAt_lt hi, evAt_lt hj, ← hlm]
  generalize befN l n i j = b at *
  generalize edM l = es at *
  generalize l[i] = x at *
  generalize l[j] = y at *
  generalize meetM x y = m at *
  generalize closedM I es i j _ = c1 at *
  generalize closedM J es j i _ = c2 at *
  cases m with
  | false =>
    refine FnD.ofT (n := 62) [1009] fax_ok Try.func9 rfl rfl rfl (by rfl) (by kernel_rfl) (by intro _; rfl) fun Γ hA hbA => ?_
    (repeat ((conv => whnf); (first | refine exE (α := List D) _ (by assumption) ?_ | with_reducible refine exE (α := Int) _ (by assumption) ?_ | with_reducible refine exE _ (w_inc (by omega)) ?_ | with_reducible refine exE _ (w_dec (by omega) (by omega)) ?_ | with_reducible refine exE _ (wrap_in (by omega) (by omega)) ?_ | refine exR ?_ | refine gen_d rfl (enters_of Try.func12 rfl rfl) (hP) (by (repeat (first | exact TLes.nil | refine TLes.cons (TLe.of_eq rfl) ?_ | refine TLes.cons TLe.own ?_ | refine TLes.cons TLe.nil ?_)); (first | done | fail)) ?_ | refine gen_d rfl (enters_of Try.func16 rfl rfl) (hM) (by (repeat (first | exact TLes.nil | refine TLes.cons (TLe.of_eq rfl) ?_ | refine TLes.cons TLe.own ?_ | refine TLes.cons TLe.nil ?_)); (first | done | fail)) ?_ | refine gen_d rfl (enters_of Try.func17 rfl rfl) (hE) (by (repeat (first | exact TLes.nil | refine TLes.cons (TLe.of_eq rfl) ?_ | refine TLes.cons TLe.own ?_ | refine TLes.cons TLe.nil ?_)); (first | done | fail)) ?_ | refine spT (by first | with_reducible rfl | assumption | rfl | decide | exact decide_eq_true (by omega) | exact beq_iff_eq.2 (by omega) | exact bne_iff_ne.2 (by omega)) ?_ | refine spF (by first | with_reducible rfl | assumption | rfl | decide | exact decide_eq_false (by omega) | exact beq_eq_false_iff_ne.2 (by omega) | exact bne_eq_false_iff_eq.2 (by omega)) ?_ | refine guT (by first | with_reducible rfl | assumption | rfl | decide | exact decide_eq_true (by omega) | exact beq_iff_eq.2 (by omega) | exact bne_iff_ne.2 (by omega)) ?_ | refine guF (by first | with_reducible rfl | assumption | rfl | decide | exact decide_eq_false (by omega) | exact beq_eq_false_iff_ne.2 (by omega) | exact bne_eq_false_iff_eq.2 (by omega)) ?_ | refine guT (by first | with_reducible rfl | assumption | rfl | decide | exact decide_eq_false (by omega) | exact beq_eq_false_iff_ne.2 (by omega) | exact bne_eq_false_iff_eq.2 (by omega)) ?_ | refine guF (by first | with_reducible rfl | assumption | rfl | decide | exact decide_eq_true (by omega) | exact beq_iff_eq.2 (by omega) | exact bne_iff_ne.2 (by omega)) ?_ | refine And.intro (a := orderB _ _ = true) (by kernel_rfl) ?_ | refine And.intro rfl ?_ | refine And.intro (a := _ ≤ _) (by first | omega | (simp; first | done | fail) | (simp; omega)) ?_ | refine And.intro (a := _ ≠ _) (by decide) ?_ | refine exS _ (by assumption) rfl ?_ | refine exBR _ (by assumption) ?_ | refine And.intro (a := List.length _ = _) (by first | assumption | (simp; first | done | omega)) ?_ | refine And.intro (a := _ < _) (by first | omega | (simp; first | done | omega)) ?_ | refine exI _ rfl (by assumption) ?_ | refine exI 0 rfl (by assumption) ?_ | refine exI 0 rfl rfl ?_ | refine exI 1 rfl rfl ?_ | refine exI 2 rfl rfl ?_ | refine exN _ rfl (by first | omega | (simp; first | done | fail) | (simp; omega)) ?_ | refine exN 0 rfl (by first | omega | (simp; first | done | fail) | (simp; omega)) ?_ | refine exN 1 rfl (by first | omega | (simp; first | done | fail) | (simp; omega)) ?_)))
    exact ⟨by first | exact .inl rfl | exact .inr rfl, (by (repeat (first | exact RsE.nil | refine RsE.tmp (TLe.of_eq rfl) ?_ | refine RsE.tmp TLe.own ?_ | refine RsE.tmp TLe.nil ?_ | refine RsE.one rfl rfl rfl rfl (TLe.of_eq rfl) ?_ | refine RsE.agg rfl rfl rfl rfl rfl (TLe.of_eq rfl) ?_)); (first | done | fail)), (by (repeat (first | exact FitO.nil | refine FitO.cons rfl ?_)); (first | done | fail))⟩
  | true =>
    cases c1 with
    | false =>
      refine FnD.ofT (n := 62) [1009] fax_ok Try.func9 rfl rfl rfl (by rfl) (by kernel_rfl) (by intro _; rfl) fun Γ hA hbA => ?_
      (repeat ((conv => whnf); (first | refine exE (α := List D) _ (by assumption) ?_ | with_reducible refine exE (α := Int) _ (by assumption) ?_ | with_reducible refine exE _ (w_inc (by omega)) ?_ | with_reducible refine exE _ (w_dec (by omega) (by omega)) ?_ | with_reducible refine exE _ (wrap_in (by omega) (by omega)) ?_ | refine exR ?_ | refine gen_d rfl (enters_of Try.func12 rfl rfl) (hP) (by (repeat (first | exact TLes.nil | refine TLes.cons (TLe.of_eq rfl) ?_ | refine TLes.cons TLe.own ?_ | refine TLes.cons TLe.nil ?_)); (first | done | fail)) ?_ | refine gen_d rfl (enters_of Try.func16 rfl rfl) (hM) (by (repeat (first | exact TLes.nil | refine TLes.cons (TLe.of_eq rfl) ?_ | refine TLes.cons TLe.own ?_ | refine TLes.cons TLe.nil ?_)); (first | done | fail)) ?_ | refine gen_d rfl (enters_of Try.func17 rfl rfl) (hE) (by (repeat (first | exact TLes.nil | refine TLes.cons (TLe.of_eq rfl) ?_ | refine TLes.cons TLe.own ?_ | refine TLes.cons TLe.nil ?_)); (first | done | fail)) ?_ | refine spT (by first | with_reducible rfl | assumption | rfl | decide | exact decide_eq_true (by omega) | exact beq_iff_eq.2 (by omega) | exact bne_iff_ne.2 (by omega)) ?_ | refine spF (by first | with_reducible rfl | assumption | rfl | decide | exact decide_eq_false (by omega) | exact beq_eq_false_iff_ne.2 (by omega) | exact bne_eq_false_iff_eq.2 (by omega)) ?_ | refine guT (by first | with_reducible rfl | assumption | rfl | decide | exact decide_eq_true (by omega) | exact beq_iff_eq.2 (by omega) | exact bne_iff_ne.2 (by omega)) ?_ | refine guF (by first | with_reducible rfl | assumption | rfl | decide | exact decide_eq_false (by omega) | exact beq_eq_false_iff_ne.2 (by omega) | exact bne_eq_false_iff_eq.2 (by omega)) ?_ | refine guT (by first | with_reducible rfl | assumption | rfl | decide | exact decide_eq_false (by omega) | exact beq_eq_false_iff_ne.2 (by omega) | exact bne_eq_false_iff_eq.2 (by omega)) ?_ | refine guF (by first | with_reducible rfl | assumption | rfl | decide | exact decide_eq_true (by omega) | exact beq_iff_eq.2 (by omega) | exact bne_iff_ne.2 (by omega)) ?_ | refine And.intro (a := orderB _ _ = true) (by kernel_rfl) ?_ | refine And.intro rfl ?_ | refine And.intro (a := _ ≤ _) (by first | omega | (simp; first | done | fail) | (simp; omega)) ?_ | refine And.intro (a := _ ≠ _) (by decide) ?_ | refine exS _ (by assumption) rfl ?_ | refine exBR _ (by assumption) ?_ | refine And.intro (a := List.length _ = _) (by first | assumption | (simp; first | done | omega)) ?_ | refine And.intro (a := _ < _) (by first | omega | (simp; first | done | omega)) ?_ | refine exI _ rfl (by assumption) ?_ | refine exI 0 rfl (by assumption) ?_ | refine exI 0 rfl rfl ?_ | refine exI 1 rfl rfl ?_ | refine exI 2 rfl rfl ?_ | refine exN _ rfl (by first | omega | (simp; first | done | fail) | (simp; omega)) ?_ | refine exN 0 rfl (by first | omega | (simp; first | done | fail) | (simp; omega)) ?_ | refine exN 1 rfl (by first | omega | (simp; first | done | fail) | (simp; omega)) ?_)))
      refine gen_d rfl (enters_of Try.func18 rfl rfl) (g1) (by (repeat (first | exact TLes.nil | refine TLes.cons (TLe.of_eq rfl) ?_ | refine TLes.cons TLe.own ?_ | refine TLes.cons TLe.nil ?_)); (first | done | fail)) ?_
      (repeat ((conv => whnf); (first | refine exE (α := List D) _ (by assumption) ?_ | with_reducible refine exE (α := Int) _ (by assumption) ?_ | with_reducible refine exE _ (w_inc (by omega)) ?_ | with_reducible refine exE _ (w_dec (by omega) (by omega)) ?_ | with_reducible refine exE _ (wrap_in (by omega) (by omega)) ?_ | refine exR ?_ | refine gen_d rfl (enters_of Try.func12 rfl rfl) (hP) (by (repeat (first | exact TLes.nil | refine TLes.cons (TLe.of_eq rfl) ?_ | refine TLes.cons TLe.own ?_ | refine TLes.cons TLe.nil ?_)); (first | done | fail)) ?_ | refine gen_d rfl (enters_of Try.func16 rfl rfl) (hM) (by (repeat (first | exact TLes.nil | refine TLes.cons (TLe.of_eq rfl) ?_ | refine TLes.cons TLe.own ?_ | refine TLes.cons TLe.nil ?_)); (first | done | fail)) ?_ | refine gen_d rfl (enters_of Try.func17 rfl rfl) (hE) (by (repeat (first | exact TLes.nil | refine TLes.cons (TLe.of_eq rfl) ?_ | refine TLes.cons TLe.own ?_ | refine TLes.cons TLe.nil ?_)); (first | done | fail)) ?_ | refine spT (by first | with_reducible rfl | assumption | rfl | decide | exact decide_eq_true (by omega) | exact beq_iff_eq.2 (by omega) | exact bne_iff_ne.2 (by omega)) ?_ | refine spF (by first | with_reducible rfl | assumption | rfl | decide | exact decide_eq_false (by omega) | exact beq_eq_false_iff_ne.2 (by omega) | exact bne_eq_false_iff_eq.2 (by omega)) ?_ | refine guT (by first | with_reducible rfl | assumption | rfl | decide | exact decide_eq_true (by omega) | exact beq_iff_eq.2 (by omega) | exact bne_iff_ne.2 (by omega)) ?_ | refine guF (by first | with_reducible rfl | assumption | rfl | decide | exact decide_eq_false (by omega) | exact beq_eq_false_iff_ne.2 (by omega) | exact bne_eq_false_iff_eq.2 (by omega)) ?_ | refine guT (by first | with_reducible rfl | assumption | rfl | decide | exact decide_eq_false (by omega) | exact beq_eq_false_iff_ne.2 (by omega) | exact bne_eq_false_iff_eq.2 (by omega)) ?_ | refine guF (by first | with_reducible rfl | assumption | rfl | decide | exact decide_eq_true (by omega) | exact beq_iff_eq.2 (by omega) | exact bne_iff_ne.2 (by omega)) ?_ | refine And.intro (a := orderB _ _ = true) (by kernel_rfl) ?_ | refine And.intro rfl ?_ | refine And.intro (a := _ ≤ _) (by first | omega | (simp; first | done | fail) | (simp; omega)) ?_ | refine And.intro (a := _ ≠ _) (by decide) ?_ | refine exS _ (by assumption) rfl ?_ | refine exBR _ (by assumption) ?_ | refine And.intro (a := List.length _ = _) (by first | assumption | (simp; first | done | omega)) ?_ | refine And.intro (a := _ < _) (by first | omega | (simp; first | done | omega)) ?_ | refine exI _ rfl (by assumption) ?_ | refine exI 0 rfl (by assumption) ?_ | refine exI 0 rfl rfl ?_ | refine exI 1 rfl rfl ?_ | refine exI 2 rfl rfl ?_ | refine exN _ rfl (by first | omega | (simp; first | done | fail) | (simp; omega)) ?_ | refine exN 0 rfl (by first | omega | (simp; first | done | fail) | (simp; omega)) ?_ | refine exN 1 rfl (by first | omega | (simp; first | done | fail) | (simp; omega)) ?_)))
      exact ⟨by first | exact .inl rfl | exact .inr rfl, (by (repeat (first | exact RsE.nil | refine RsE.tmp (TLe.of_eq rfl) ?_ | refine RsE.tmp TLe.own ?_ | refine RsE.tmp TLe.nil ?_ | refine RsE.one rfl rfl rfl rfl (TLe.of_eq rfl) ?_ | refine RsE.agg rfl rfl rfl rfl rfl (TLe.of_eq rfl) ?_)); (first | done | fail)), (by (repeat (first | exact FitO.nil | refine FitO.cons rfl ?_)); (first | done | fail))⟩
    | true =>
      refine FnD.ofT (n := 62) [1009] fax_ok Try.func9 rfl rfl rfl (by rfl) (by kernel_rfl) (by intro _; rfl) fun Γ hA hbA => ?_
      (repeat ((conv => whnf); (first | refine exE (α := List D) _ (by assumption) ?_ | with_reducible refine exE (α := Int) _ (by assumption) ?_ | with_reducible refine exE _ (w_inc (by omega)) ?_ | with_reducible refine exE _ (w_dec (by omega) (by omega)) ?_ | with_reducible refine exE _ (wrap_in (by omega) (by omega)) ?_ | refine exR ?_ | refine gen_d rfl (enters_of Try.func12 rfl rfl) (hP) (by (repeat (first | exact TLes.nil | refine TLes.cons (TLe.of_eq rfl) ?_ | refine TLes.cons TLe.own ?_ | refine TLes.cons TLe.nil ?_)); (first | done | fail)) ?_ | refine gen_d rfl (enters_of Try.func16 rfl rfl) (hM) (by (repeat (first | exact TLes.nil | refine TLes.cons (TLe.of_eq rfl) ?_ | refine TLes.cons TLe.own ?_ | refine TLes.cons TLe.nil ?_)); (first | done | fail)) ?_ | refine gen_d rfl (enters_of Try.func17 rfl rfl) (hE) (by (repeat (first | exact TLes.nil | refine TLes.cons (TLe.of_eq rfl) ?_ | refine TLes.cons TLe.own ?_ | refine TLes.cons TLe.nil ?_)); (first | done | fail)) ?_ | refine spT (by first | with_reducible rfl | assumption | rfl | decide | exact decide_eq_true (by omega) | exact beq_iff_eq.2 (by omega) | exact bne_iff_ne.2 (by omega)) ?_ | refine spF (by first | with_reducible rfl | assumption | rfl | decide | exact decide_eq_false (by omega) | exact beq_eq_false_iff_ne.2 (by omega) | exact bne_eq_false_iff_eq.2 (by omega)) ?_ | refine guT (by first | with_reducible rfl | assumption | rfl | decide | exact decide_eq_true (by omega) | exact beq_iff_eq.2 (by omega) | exact bne_iff_ne.2 (by omega)) ?_ | refine guF (by first | with_reducible rfl | assumption | rfl | decide | exact decide_eq_false (by omega) | exact beq_eq_false_iff_ne.2 (by omega) | exact bne_eq_false_iff_eq.2 (by omega)) ?_ | refine guT (by first | with_reducible rfl | assumption | rfl | decide | exact decide_eq_false (by omega) | exact beq_eq_false_iff_ne.2 (by omega) | exact bne_eq_false_iff_eq.2 (by omega)) ?_ | refine guF (by first | with_reducible rfl | assumption | rfl | decide | exact decide_eq_true (by omega) | exact beq_iff_eq.2 (by omega) | exact bne_iff_ne.2 (by omega)) ?_ | refine And.intro (a := orderB _ _ = true) (by kernel_rfl) ?_ | refine And.intro rfl ?_ | refine And.intro (a := _ ≤ _) (by first | omega | (simp; first | done | fail) | (simp; omega)) ?_ | refine And.intro (a := _ ≠ _) (by decide) ?_ | refine exS _ (by assumption) rfl ?_ | refine exBR _ (by assumption) ?_ | refine And.intro (a := List.length _ = _) (by first | assumption | (simp; first | done | omega)) ?_ | refine And.intro (a := _ < _) (by first | omega | (simp; first | done | omega)) ?_ | refine exI _ rfl (by assumption) ?_ | refine exI 0 rfl (by assumption) ?_ | refine exI 0 rfl rfl ?_ | refine exI 1 rfl rfl ?_ | refine exI 2 rfl rfl ?_ | refine exN _ rfl (by first | omega | (simp; first | done | fail) | (simp; omega)) ?_ | refine exN 0 rfl (by first | omega | (simp; first | done | fail) | (simp; omega)) ?_ | refine exN 1 rfl (by first | omega | (simp; first | done | fail) | (simp; omega)) ?_)))
      refine gen_d rfl (enters_of Try.func18 rfl rfl) (g1) (by (repeat (first | exact TLes.nil | refine TLes.cons (TLe.of_eq rfl) ?_ | refine TLes.cons TLe.own ?_ | refine TLes.cons TLe.nil ?_)); (first | done | fail)) ?_
      (repeat ((conv => whnf); (first | refine exE (α := List D) _ (by assumption) ?_ | with_reducible refine exE (α := Int) _ (by assumption) ?_ | with_reducible refine exE _ (w_inc (by omega)) ?_ | with_reducible refine exE _ (w_dec (by omega) (by omega)) ?_ | with_reducible refine exE _ (wrap_in (by omega) (by omega)) ?_ | refine exR ?_ | refine gen_d rfl (enters_of Try.func12 rfl rfl) (hP) (by (repeat (first | exact TLes.nil | refine TLes.cons (TLe.of_eq rfl) ?_ | refine TLes.cons TLe.own ?_ | refine TLes.cons TLe.nil ?_)); (first | done | fail)) ?_ | refine gen_d rfl (enters_of Try.func16 rfl rfl) (hM) (by (repeat (first | exact TLes.nil | refine TLes.cons (TLe.of_eq rfl) ?_ | refine TLes.cons TLe.own ?_ | refine TLes.cons TLe.nil ?_)); (first | done | fail)) ?_ | refine gen_d rfl (enters_of Try.func17 rfl rfl) (hE) (by (repeat (first | exact TLes.nil | refine TLes.cons (TLe.of_eq rfl) ?_ | refine TLes.cons TLe.own ?_ | refine TLes.cons TLe.nil ?_)); (first | done | fail)) ?_ | refine spT (by first | with_reducible rfl | assumption | rfl | decide | exact decide_eq_true (by omega) | exact beq_iff_eq.2 (by omega) | exact bne_iff_ne.2 (by omega)) ?_ | refine spF (by first | with_reducible rfl | assumption | rfl | decide | exact decide_eq_false (by omega) | exact beq_eq_false_iff_ne.2 (by omega) | exact bne_eq_false_iff_eq.2 (by omega)) ?_ | refine guT (by first | with_reducible rfl | assumption | rfl | decide | exact decide_eq_true (by omega) | exact beq_iff_eq.2 (by omega) | exact bne_iff_ne.2 (by omega)) ?_ | refine guF (by first | with_reducible rfl | assumption | rfl | decide | exact decide_eq_false (by omega) | exact beq_eq_false_iff_ne.2 (by omega) | exact bne_eq_false_iff_eq.2 (by omega)) ?_ | refine guT (by first | with_reducible rfl | assumption | rfl | decide | exact decide_eq_false (by omega) | exact beq_eq_false_iff_ne.2 (by omega) | exact bne_eq_false_iff_eq.2 (by omega)) ?_ | refine guF (by first | with_reducible rfl | assumption | rfl | decide | exact decide_eq_true (by omega) | exact beq_iff_eq.2 (by omega) | exact bne_iff_ne.2 (by omega)) ?_ | refine And.intro (a := orderB _ _ = true) (by kernel_rfl) ?_ | refine And.intro rfl ?_ | refine And.intro (a := _ ≤ _) (by first | omega | (simp; first | done | fail) | (simp; omega)) ?_ | refine And.intro (a := _ ≠ _) (by decide) ?_ | refine exS _ (by assumption) rfl ?_ | refine exBR _ (by assumption) ?_ | refine And.intro (a := List.length _ = _) (by first | assumption | (simp; first | done | omega)) ?_ | refine And.intro (a := _ < _) (by first | omega | (simp; first | done | omega)) ?_ | refine exI _ rfl (by assumption) ?_ | refine exI 0 rfl (by assumption) ?_ | refine exI 0 rfl rfl ?_ | refine exI 1 rfl rfl ?_ | refine exI 2 rfl rfl ?_ | refine exN _ rfl (by first | omega | (simp; first | done | fail) | (simp; omega)) ?_ | refine exN 0 rfl (by first | omega | (simp; first | done | fail) | (simp; omega)) ?_ | refine exN 1 rfl (by first | omega | (simp; first | done | fail) | (simp; omega)) ?_)))
      refine gen_d rfl (enters_of Try.func18 rfl rfl) (g2) (by (repeat (first | exact TLes.nil | refine TLes.cons (TLe.of_eq rfl) ?_ | refine TLes.cons TLe.own ?_ | refine TLes.cons TLe.nil ?_)); (first | done | fail)) ?_
      (repeat ((conv => whnf); (first | refine exE (α := List D) _ (by assumption) ?_ | with_reducible refine exE (α := Int) _ (by assumption) ?_ | with_reducible refine exE _ (w_inc (by omega)) ?_ | with_reducible refine exE _ (w_dec (by omega) (by omega)) ?_ | with_reducible refine exE _ (wrap_in (by omega) (by omega)) ?_ | refine exR ?_ | refine gen_d rfl (enters_of Try.func12 rfl rfl) (hP) (by (repeat (first | exact TLes.nil | refine TLes.cons (TLe.of_eq rfl) ?_ | refine TLes.cons TLe.own ?_ | refine TLes.cons TLe.nil ?_)); (first | done | fail)) ?_ | refine gen_d rfl (enters_of Try.func16 rfl rfl) (hM) (by (repeat (first | exact TLes.nil | refine TLes.cons (TLe.of_eq rfl) ?_ | refine TLes.cons TLe.own ?_ | refine TLes.cons TLe.nil ?_)); (first | done | fail)) ?_ | refine gen_d rfl (enters_of Try.func17 rfl rfl) (hE) (by (repeat (first | exact TLes.nil | refine TLes.cons (TLe.of_eq rfl) ?_ | refine TLes.cons TLe.own ?_ | refine TLes.cons TLe.nil ?_)); (first | done | fail)) ?_ | refine spT (by first | with_reducible rfl | assumption | rfl | decide | exact decide_eq_true (by omega) | exact beq_iff_eq.2 (by omega) | exact bne_iff_ne.2 (by omega)) ?_ | refine spF (by first | with_reducible rfl | assumption | rfl | decide | exact decide_eq_false (by omega) | exact beq_eq_false_iff_ne.2 (by omega) | exact bne_eq_false_iff_eq.2 (by omega)) ?_ | refine guT (by first | with_reducible rfl | assumption | rfl | decide | exact decide_eq_true (by omega) | exact beq_iff_eq.2 (by omega) | exact bne_iff_ne.2 (by omega)) ?_ | refine guF (by first | with_reducible rfl | assumption | rfl | decide | exact decide_eq_false (by omega) | exact beq_eq_false_iff_ne.2 (by omega) | exact bne_eq_false_iff_eq.2 (by omega)) ?_ | refine guT (by first | with_reducible rfl | assumption | rfl | decide | exact decide_eq_false (by omega) | exact beq_eq_false_iff_ne.2 (by omega) | exact bne_eq_false_iff_eq.2 (by omega)) ?_ | refine guF (by first | with_reducible rfl | assumption | rfl | decide | exact decide_eq_true (by omega) | exact beq_iff_eq.2 (by omega) | exact bne_iff_ne.2 (by omega)) ?_ | refine And.intro (a := orderB _ _ = true) (by kernel_rfl) ?_ | refine And.intro rfl ?_ | refine And.intro (a := _ ≤ _) (by first | omega | (simp; first | done | fail) | (simp; omega)) ?_ | refine And.intro (a := _ ≠ _) (by decide) ?_ | refine exS _ (by assumption) rfl ?_ | refine exBR _ (by assumption) ?_ | refine And.intro (a := List.length _ = _) (by first | assumption | (simp; first | done | omega)) ?_ | refine And.intro (a := _ < _) (by first | omega | (simp; first | done | omega)) ?_ | refine exI _ rfl (by assumption) ?_ | refine exI 0 rfl (by assumption) ?_ | refine exI 0 rfl rfl ?_ | refine exI 1 rfl rfl ?_ | refine exI 2 rfl rfl ?_ | refine exN _ rfl (by first | omega | (simp; first | done | fail) | (simp; omega)) ?_ | refine exN 0 rfl (by first | omega | (simp; first | done | fail) | (simp; omega)) ?_ | refine exN 1 rfl (by first | omega | (simp; first | done | fail) | (simp; omega)) ?_)))
      exact ⟨by first | exact .inl rfl | exact .inr rfl, (by (repeat (first | exact RsE.nil | refine RsE.tmp (TLe.of_eq rfl) ?_ | refine RsE.tmp TLe.own ?_ | refine RsE.tmp TLe.nil ?_ | refine RsE.one rfl rfl rfl rfl (TLe.of_eq rfl) ?_ | refine RsE.agg rfl rfl rfl rfl rfl (TLe.of_eq rfl) ?_)); (first | done | fail)), (by (repeat (first | exact FitO.nil | refine FitO.cons rfl ?_)); (first | done | fail))⟩
end Go.Proofs.Ytiaaoajnecppnaa
end

section
namespace Go.Proofs.Ytiaaoajnecppnaa
open Go.RowKit

theorem edM_len {l : List Ev} (h : l.length ≤ 60) : (edM l).length ≤ 90000 := by
  have h1 := (wst_l l l.length (Nat.le_refl _) (by omega)).out
  have h2 : (edM l).length = (edD l).length := List.length_map _
  have h3 : (edD l).length ≤ (sortP ((wst l l.length).out.map toDp)).length := (compact_sub _).length_le
  have h4 : (sortP ((wst l l.length).out.map toDp)).length = (wst l l.length).out.length := by unfold sortP; rw [List.length_mergeSort, List.length_map]
  omega

/-! ### into -/
theorem inStep_sub (out : List Int) (d : Dp) {x : Int} (h : x ∈ out) : x ∈ inStep out d := by
  unfold inStep
  split
  · exact List.mem_append_left _ h
  · exact h
theorem fold_sub : ∀ (rs : List Dp) (out : List Int) {x : Int}, x ∈ out → x ∈ rs.foldl inStep out
  | [], _, _, h => h
  | d :: rs, out, _, h => fold_sub rs (inStep out d) (inStep_sub out d h)
theorem inStep_nodup {out : List Int} (d : Dp) (h : out.Nodup) : (inStep out d).Nodup := by
  unfold inStep
  split
  · next hc =>
    rw [List.nodup_append]
    refine ⟨h, by simp, fun a ha b hb e => ?_⟩
    rw [List.mem_singleton] at hb
    subst hb; subst e
    exact hc.2 ha
  · exact h
theorem fold_nodup : ∀ (rs : List Dp) {out : List Int}, out.Nodup → (rs.foldl inStep out).Nodup
  | [], _, h => h
  | d :: rs, _, h => fold_nodup rs (inStep_nodup d h)
theorem fold_all {p : Int → Prop} : ∀ (rs : List Dp) {out : List Int}, (∀ d ∈ rs, p d.j → p d.i) → (∀ x ∈ out, p x) → ∀ x ∈ rs.foldl inStep out, p x
  | [], _, _, h => h
  | d :: rs, out, hd, h => by
    refine fold_all rs (fun e he => hd e (List.mem_cons_of_mem _ he)) fun x hx => ?_
    unfold inStep at hx
    split at hx
    · next hc =>
      rcases List.mem_append.1 hx with hx | hx
      · exact h x hx
      · rw [List.mem_singleton] at hx
        subst hx
        exact hd d List.mem_cons_self (h _ hc.1)
    · exact h x hx
theorem fold_closed : ∀ (rs pre : List Dp) (out : List Int), (∀ d ∈ pre, ∀ e ∈ rs, e.j ≤ d.j) → (rs.Pairwise fun d e => e.j ≤ d.j) → (∀ e ∈ rs, e.i < e.j) → (∀ d ∈ pre, d.j ∈ out → d.i ∈ out) → ∀ d ∈ pre ++ rs, d.j ∈ rs.foldl inStep out → d.i ∈ rs.foldl inStep out
  | [], pre, out, _, _, _, h => fun d hd => by rw [List.append_nil] at hd; exact h d hd
  | e :: rs, pre, out, h1, h2, h3, h4 => by
    obtain ⟨h5, h6⟩ := List.pairwise_cons.1 h2
    have he := h3 e List.mem_cons_self
    have := fold_closed rs (pre ++ [e]) (inStep out e) (fun d hd x hx => by
      rcases List.mem_append.1 hd with hd | hd
      · exact h1 d hd x (List.mem_cons_of_mem _ hx)
      · rw [List.mem_singleton] at hd; subst hd; exact h5 x hx) h6 (fun x hx => h3 x (List.mem_cons_of_mem _ hx)) (fun d hd hj => by
      have hle : e.j ≤ d.j := by
        rcases List.mem_append.1 hd with hd | hd
        · exact h1 d hd e List.mem_cons_self
        · rw [List.mem_singleton] at hd; subst hd; exact Int.le_refl _
      have hjo : d.j ∈ out := by
        unfold inStep at hj
        split at hj
        · rcases List.mem_append.1 hj with hj | hj
          · exact hj
          · rw [List.mem_singleton] at hj; omega
        · exact hj
      rcases List.mem_append.1 hd with hd | hd
      · exact inStep_sub _ _ (h4 d hd hjo)
      · rw [List.mem_singleton] at hd
        subst hd
        by_cases hi : d.i ∈ out
        · exact inStep_sub _ _ hi
        · unfold inStep
          rw [if_pos ⟨hjo, hi⟩]
          exact List.mem_append_right _ (by simp))
    intro d hd
    exact this d (by simpa using hd)
/-- What is known of a list that into tells. -/
structure Into (l : List Ev) (i : Nat) (L : List Int) : Prop where
  up : L.Pairwise (· < ·)
  has : (i : Int) ∈ L
  of : ∀ x ∈ L, ∃ m : Nat, x = m ∧ m ≤ i ∧ Pth (edM l) m i
  cl : ∀ p ∈ edM l, (p.2 : Int) ∈ L → (p.1 : Int) ∈ L
section
variable {l : List Ev} {n : Nat} (hc : checkM l n = 0)
include hc
theorem into_law {i : Nat} : Into l i (intoI l i) := by
  have hg := good_l hc
  unfold intoI intoL
  generalize hout : (((edM l).map toDp).reverse.foldl inStep [(i : Int)]) = out
  have hmem : ∀ x, x ∈ (out.mergeSort fun x y => decide (x ≤ y)) ↔ x ∈ out := fun x => List.mem_mergeSort
  have h1 : out.Nodup := by rw [← hout]; exact fold_nodup _ (by simp)
  have h2 : (i : Int) ∈ out := by rw [← hout]; exact fold_sub _ _ (by simp)
  have h3 : ∀ x ∈ out, ∃ m : Nat, x = m ∧ Pth (edM l) m i := by
    rw [← hout]
    refine fold_all _ (fun d hd => ?_) (fun x hx => ⟨i, by simpa using hx, .refl _⟩)
    rw [List.mem_reverse, List.mem_map] at hd
    obtain ⟨p, hp, rfl⟩ := hd
    rintro ⟨m, hm, hpt⟩
    have e : p.2 = m := by have : ((p.2 : Nat) : Int) = (m : Int) := hm; omega
    subst e
    exact ⟨p.1, rfl, Pth.trans ((Pth.refl _).step hp) hpt⟩
  have h4 : ∀ p ∈ edM l, (p.2 : Int) ∈ out → (p.1 : Int) ∈ out := fun p hp => by
    have := fold_closed ((edM l).map toDp).reverse [] [(i : Int)] (fun d hd => by cases hd) (by
      rw [List.pairwise_reverse, List.pairwise_map]
      exact (edM_sorted l).imp fun h => by unfold toDp; dsimp only; omega) (fun e he => by
      rw [List.mem_reverse, List.mem_map] at he
      obtain ⟨q, hq, rfl⟩ := he
      have := (hg.lt q hq).1
      unfold toDp; dsimp only; omega) (fun d hd => by cases hd) (toDp p) (by simpa using ⟨p.1, p.2, hp, rfl⟩)
    rw [hout] at this
    exact this
  refine ⟨?_, (hmem _).2 h2, fun x hx => ?_, fun p hp h => (hmem _).2 (h4 p hp ((hmem _).1 h))⟩
  · have s1 : (out.mergeSort fun x y => decide (x ≤ y)).Pairwise fun a b => decide (a ≤ b) = true := List.pairwise_mergeSort (fun a b c h1 h2 => by simp at *; omega) (fun a b => by simp; omega) out
    have s2 : (out.mergeSort fun x y => decide (x ≤ y)).Nodup := (List.mergeSort_perm out _).nodup_iff.2 h1
    refine (s1.and s2).imp ?_
    rintro a b ⟨h1, h2⟩
    have := of_decide_eq_true h1
    omega
  · obtain ⟨m, rfl, hp⟩ := h3 x ((hmem _).1 hx)
    exact ⟨m, rfl, hp.le hg, hp⟩
omit hc in
/-- A closed list has all that lead there. -/
theorem closed_pth {L : List Int} (h : ∀ p ∈ edM l, (p.2 : Int) ∈ L → (p.1 : Int) ∈ L) {i j : Nat} (hp : Pth (edM l) i j) (hj : (j : Int) ∈ L) : (i : Int) ∈ L := by
  induction hp with
  | refl => exact hj
  | step _ e ih => exact ih (h _ e hj)
end
theorem opens_none {es : List (Nat × Nat)} {L : List Int} : es.any (opens L) = false ↔ ∀ p ∈ es, (p.2 : Int) ∈ L → (p.1 : Int) ∈ L := by
  rw [List.any_eq_false]
  refine forall_congr' fun p => forall_congr' fun _ => ?_
  unfold opens
  rw [Bool.and_eq_true, decide_eq_true_eq, Bool.not_eq_true', decide_eq_false_iff_not]
  exact ⟨fun h h1 => Classical.byContradiction fun h2 => h ⟨h1, h2⟩, fun h h1 => h1.2 (h h1.1)⟩
theorem closed_iff {L : List Int} {es : List (Nat × Nat)} {has not_ most : Int} : closedM L es has not_ most = true ↔ risesM L most = true ∧ has ∈ L ∧ not_ ∉ L ∧ ∀ p ∈ es, (p.2 : Int) ∈ L → (p.1 : Int) ∈ L := by
  unfold closedM
  rw [Bool.and_eq_true, Bool.and_eq_true, Bool.and_eq_true, decide_eq_true_eq, Bool.not_eq_true', Bool.not_eq_true', decide_eq_false_iff_not, opens_none, and_assoc]
theorem rises_of {L : List Int} {most : Int} (h : L.Pairwise (· < ·)) (h2 : ∀ x ∈ L, 0 ≤ x ∧ x < most) : risesM L most = true := by
  unfold risesM
  rw [List.all_eq_true]
  intro i hi
  rw [List.mem_range] at hi
  have hx := h2 L[i] (List.getElem_mem hi)
  refine (okB_iff (L[i]) (by simp [List.getD, hi])).2 ⟨hx.1, hx.2, ?_⟩
  rcases Nat.eq_zero_or_pos i with h0 | h0
  · exact .inl h0
  · right
    have := List.pairwise_iff_getElem.1 h (i - 1) i (by omega) hi (by omega)
    simpa [List.getD, show i - 1 < L.length by omega] using this
section
variable {l : List Ev} {n : Nat} (hc : checkM l n = 0) {i j : Nat} (hi : i < l.length) (hj : j < l.length)
include hc hi hj
theorem ap_iff : apN l n i j = true ↔ i ≠ j ∧ ¬ Pth (edM l) i j ∧ ¬ Pth (edM l) j i := by
  unfold apN
  rw [Bool.and_eq_true, Bool.and_eq_true, Bool.not_eq_true', Bool.not_eq_true', bne_iff_ne, ← Bool.not_eq_true, ← Bool.not_eq_true, bef_iff hc hi hj, bef_iff hc hj hi]
  constructor
  · rintro ⟨⟨h1, h2⟩, h3⟩
    exact ⟨h1, fun h => h2 ⟨h1, h⟩, fun h => h3 ⟨h1.symm, h⟩⟩
  · rintro ⟨h1, h2, h3⟩
    exact ⟨⟨h1, fun h => h2 h.2⟩, fun h => h3 h.2⟩
theorem holds_race {I J : List Int} (h : holdsM l i j I J = true) : raceX l n i j = true := by
  unfold holdsM at h
  rw [Bool.and_eq_true, Bool.and_eq_true, closed_iff, closed_iff] at h
  obtain ⟨⟨h1, -, h3, h4, h5⟩, -, h7, h8, h9⟩ := h
  unfold raceX
  rw [Bool.and_eq_true, ap_iff hc hi hj]
  refine ⟨⟨fun e => h4 (e ▸ h3), fun hp => h8 (closed_pth h9 hp h7), fun hp => h4 (closed_pth h5 hp h3)⟩, h1⟩
theorem race_holds (h : raceX l n i j = true) : holdsM l i j (intoI l i) (intoI l j) = true := by
  unfold raceX at h
  rw [Bool.and_eq_true, ap_iff hc hi hj] at h
  obtain ⟨⟨h1, h2, h3⟩, h4⟩ := h
  unfold holdsM
  rw [Bool.and_eq_true, Bool.and_eq_true, closed_iff, closed_iff]
  have a := into_law hc (i := i)
  have b := into_law hc (i := j)
  refine ⟨⟨h4, rises_of a.up fun x hx => ?_, a.has, fun hx => ?_, a.cl⟩, rises_of b.up fun x hx => ?_, b.has, fun hx => ?_, b.cl⟩
  · obtain ⟨m, rfl, hm, -⟩ := a.of x hx; omega
  · obtain ⟨m, e, -, hp⟩ := a.of _ hx
    obtain rfl : j = m := by omega
    exact h3 hp
  · obtain ⟨m, rfl, hm, -⟩ := b.of x hx; omega
  · obtain ⟨m, e, -, hp⟩ := b.of _ hx
    obtain rfl : i = m := by omega
    exact h2 hp
omit hc hi hj in
theorem holds_nil : holdsM l i j [] [] = false := by
  rw [← Bool.not_eq_true]
  intro h
  unfold holdsM at h
  rw [Bool.and_eq_true, Bool.and_eq_true, closed_iff] at h
  have := h.1.2.2.1
  cases this
def toldP (i j : Nat) (p : Nat × Nat) : Bool := ((p.1 : Int) == ((min i j : Nat) : Int)) && ((p.2 : Int) == ((max i j : Nat) : Int))
theorem told_law : (allM l n).any (toldP i j) = raceX l n i j := by
  have key : ∀ {a b : Nat}, a < b → a < l.length → b < l.length → raceM l n a b = raceX l n a b := fun {a b} h ha hb => by
    unfold raceM raceX apN
    have h1 : (a != b) = true := bne_iff_ne.2 (by omega)
    have h2 : befN l n b a = false := by
      rw [← Bool.not_eq_true]
      intro h2
      have := bef_lt hc hb ha h2
      omega
    rw [h1, h2, Bool.true_and, Bool.not_false, Bool.and_true, Bool.and_comm]
  have hsym : raceX l n j i = raceX l n i j := by
    unfold raceX apN
    rw [slot_sym, show (j != i) = (i != j) by rw [Bool.eq_iff_iff, bne_iff_ne, bne_iff_ne]; exact ne_comm]
    cases (i != j) <;> cases befN l n i j <;> cases befN l n j i <;> simp
  rw [Bool.eq_iff_iff, List.any_eq_true]
  constructor
  · rintro ⟨⟨a, b⟩, h1, h2⟩
    obtain ⟨h3, h4, h5⟩ := mem_allM.1 h1
    unfold toldP at h2
    rw [Bool.and_eq_true, beq_iff_eq, beq_iff_eq] at h2
    obtain ⟨h6, h7⟩ := h2
    dsimp only at h6 h7
    rw [key h3 (by omega) h4] at h5
    have hab : (a = i ∧ b = j) ∨ (a = j ∧ b = i) := by omega
    rcases hab with ⟨rfl, rfl⟩ | ⟨rfl, rfl⟩
    · exact h5
    · rw [← hsym]; exact h5
  · intro h
    have hne : i ≠ j := by
      have h' := h
      unfold raceX at h'
      rw [Bool.and_eq_true, ap_iff hc hi hj] at h'
      exact h'.1.1
    rcases Nat.lt_or_gt_of_ne hne with h1 | h1
    · refine ⟨(i, j), mem_allM.2 ⟨h1, hj, by rw [key h1 hi hj]; exact h⟩, ?_⟩
      unfold toldP
      rw [Bool.and_eq_true, beq_iff_eq, beq_iff_eq]
      dsimp only
      omega
    · refine ⟨(j, i), mem_allM.2 ⟨h1, hi, by rw [key h1 hj hi, hsym]; exact h⟩, ?_⟩
      unfold toldP
      rw [Bool.and_eq_true, beq_iff_eq, beq_iff_eq]
      dsimp only
      omega
end
end Go.Proofs.Ytiaaoajnecppnaa
end

section
namespace Go.Proofs.Ytiaaoajnecppnaa
open Go.RowKit

theorem sp_all : allM sp 2 = [(2, 3)] := by
  unfold allM allTo allRow raceM befN rw_; rw [sp_ed]; decide +kernel
theorem sort3 {l l' : List Int} (hp : l.Perm l') (hs : l'.Pairwise (· ≤ ·)) : (l.mergeSort fun x y => decide (x ≤ y)) = l' := by
  have h1 : (l.mergeSort fun x y => decide (x ≤ y)).Pairwise fun a b => decide (a ≤ b) = true := List.pairwise_mergeSort (fun a b c h1 h2 => by simp at *; omega) (fun a b => by simp; omega) l
  exact List.Perm.eq_of_pairwise (le := (· ≤ ·)) (fun a b _ _ h1 h2 => Int.le_antisymm h1 h2) (h1.imp fun h => of_decide_eq_true h) hs ((List.mergeSort_perm l _).trans hp)
theorem sp_in2 : intoI sp 2 = [0, 1, 2] := by
  have h : ((edM sp).map toDp).reverse.foldl inStep [((2 : Nat) : Int)] = [2, 1, 0] := by rw [sp_ed]; decide +kernel
  unfold intoI intoL; rw [h]; exact sort3 (by decide) (by decide)
theorem sp_in3 : intoI sp 3 = [0, 1, 3] := by
  have h : ((edM sp).map toDp).reverse.foldl inStep [((3 : Nat) : Int)] = [3, 1, 0] := by rw [sp_ed]; decide +kernel
  unfold intoI intoL; rw [h]; exact sort3 (by decide) (by decide)
theorem sp_race : raceX sp 2 2 3 = true := by
  unfold raceX; rw [sp_ap]; decide +kernel
theorem sp_holds : holdsM sp 3 2 [0, 1, 3] [0, 1, 2] = true := by
  unfold holdsM; rw [sp_ed]; decide +kernel
theorem begun_fn : FnD Try.prog 6 [] (boolT true) := by
  have h1 := races_fn sp 2 sp_chk
  rw [sp_all] at h1
  have h2 := prove_fn sp 2 2 3 sp_chk (by decide) (by decide) (edM_len (by decide))
  rw [sp_race, if_pos rfl, if_pos rfl, sp_in2, sp_in3] at h2
  have h3 := holds_fn sp 2 3 2 [0, 1, 3] [0, 1, 2] sp_chk (by decide) (by decide)
  rw [sp_holds] at h3
  have b1 := bdp_t 2 3
  have s1 := same_fn [0, 1, 2]
  have s2 := same_fn [0, 1, 3]
  refine FnD.of1 (n := 62) [] fax_ok Try.func6 rfl rfl rfl (by rfl) (by kernel_rfl) (by intro _; rfl) fun Γ hA hbA => ?_
  (repeat ((conv => whnf); (first | refine exE (α := List D) _ (by assumption) ?_ | with_reducible refine exE (α := Int) _ (by assumption) ?_ | with_reducible refine exE _ (w_inc (by omega)) ?_ | with_reducible refine exE _ (w_dec (by omega) (by omega)) ?_ | with_reducible refine exE _ (wrap_in (by omega) (by omega)) ?_ | refine exR ?_ | refine gen_d rfl (enters_of Try.func13 rfl rfl) (spawned_fn) (by (repeat (first | exact TLes.nil | refine TLes.cons (TLe.of_eq rfl) ?_ | refine TLes.cons TLe.own ?_ | refine TLes.cons TLe.nil ?_)); (first | done | fail)) ?_ | refine gen_d rfl (enters_of Try.func8 rfl rfl) (h1) (by (repeat (first | exact TLes.nil | refine TLes.cons (TLe.of_eq rfl) ?_ | refine TLes.cons TLe.own ?_ | refine TLes.cons TLe.nil ?_)); (first | done | fail)) ?_ | refine gen_d rfl (enters_of Try.func10 rfl rfl) (h2) (by (repeat (first | exact TLes.nil | refine TLes.cons (TLe.of_eq rfl) ?_ | refine TLes.cons TLe.own ?_ | refine TLes.cons TLe.nil ?_)); (first | done | fail)) ?_ | refine gen_d rfl (enters_of Try.func9 rfl rfl) (h3) (by (repeat (first | exact TLes.nil | refine TLes.cons (TLe.of_eq rfl) ?_ | refine TLes.cons TLe.own ?_ | refine TLes.cons TLe.nil ?_)); (first | done | fail)) ?_ | refine spT (by first | with_reducible rfl | assumption | rfl | decide | exact decide_eq_true (by omega) | exact beq_iff_eq.2 (by omega) | exact bne_iff_ne.2 (by omega)) ?_ | refine spF (by first | with_reducible rfl | assumption | rfl | decide | exact decide_eq_false (by omega) | exact beq_eq_false_iff_ne.2 (by omega) | exact bne_eq_false_iff_eq.2 (by omega)) ?_ | refine guT (by first | with_reducible rfl | assumption | rfl | decide | exact decide_eq_true (by omega) | exact beq_iff_eq.2 (by omega) | exact bne_iff_ne.2 (by omega)) ?_ | refine guF (by first | with_reducible rfl | assumption | rfl | decide | exact decide_eq_false (by omega) | exact beq_eq_false_iff_ne.2 (by omega) | exact bne_eq_false_iff_eq.2 (by omega)) ?_ | refine guT (by first | with_reducible rfl | assumption | rfl | decide | exact decide_eq_false (by omega) | exact beq_eq_false_iff_ne.2 (by omega) | exact bne_eq_false_iff_eq.2 (by omega)) ?_ | refine guF (by first | with_reducible rfl | assumption | rfl | decide | exact decide_eq_true (by omega) | exact beq_iff_eq.2 (by omega) | exact bne_iff_ne.2 (by omega)) ?_ | refine And.intro (a := orderB _ _ = true) (by kernel_rfl) ?_ | refine And.intro rfl ?_ | refine And.intro (a := _ ≤ _) (by first | omega | (simp; first | done | fail) | (simp; omega)) ?_ | refine And.intro (a := _ ≠ _) (by decide) ?_ | refine exS _ (by assumption) rfl ?_ | refine exBR _ (by assumption) ?_ | refine And.intro (a := List.length _ = _) (by first | assumption | (simp; first | done | omega)) ?_ | refine And.intro (a := _ < _) (by first | omega | (simp; first | done | omega)) ?_ | refine exI _ rfl (by assumption) ?_ | refine exI 0 rfl (by assumption) ?_ | refine exI 0 rfl rfl ?_ | refine exI 1 rfl rfl ?_ | refine exI 2 rfl rfl ?_ | refine exN _ rfl (by first | omega | (simp; first | done | fail) | (simp; omega)) ?_ | refine exN 0 rfl (by first | omega | (simp; first | done | fail) | (simp; omega)) ?_ | refine exN 1 rfl (by first | omega | (simp; first | done | fail) | (simp; omega)) ?_)))
  refine gen_d rfl (enters_of Try.func14 rfl rfl) (s1) (by (repeat (first | exact TLes.nil | refine TLes.cons (TLe.of_eq rfl) ?_ | refine TLes.cons TLe.own ?_ | refine TLes.cons TLe.nil ?_)); (first | done | fail)) ?_
  (repeat ((conv => whnf); (first | refine exE (α := List D) _ (by assumption) ?_ | with_reducible refine exE (α := Int) _ (by assumption) ?_ | with_reducible refine exE _ (w_inc (by omega)) ?_ | with_reducible refine exE _ (w_dec (by omega) (by omega)) ?_ | with_reducible refine exE _ (wrap_in (by omega) (by omega)) ?_ | refine exR ?_ | refine gen_d rfl (enters_of Try.func13 rfl rfl) (spawned_fn) (by (repeat (first | exact TLes.nil | refine TLes.cons (TLe.of_eq rfl) ?_ | refine TLes.cons TLe.own ?_ | refine TLes.cons TLe.nil ?_)); (first | done | fail)) ?_ | refine gen_d rfl (enters_of Try.func8 rfl rfl) (h1) (by (repeat (first | exact TLes.nil | refine TLes.cons (TLe.of_eq rfl) ?_ | refine TLes.cons TLe.own ?_ | refine TLes.cons TLe.nil ?_)); (first | done | fail)) ?_ | refine gen_d rfl (enters_of Try.func10 rfl rfl) (h2) (by (repeat (first | exact TLes.nil | refine TLes.cons (TLe.of_eq rfl) ?_ | refine TLes.cons TLe.own ?_ | refine TLes.cons TLe.nil ?_)); (first | done | fail)) ?_ | refine gen_d rfl (enters_of Try.func9 rfl rfl) (h3) (by (repeat (first | exact TLes.nil | refine TLes.cons (TLe.of_eq rfl) ?_ | refine TLes.cons TLe.own ?_ | refine TLes.cons TLe.nil ?_)); (first | done | fail)) ?_ | refine spT (by first | with_reducible rfl | assumption | rfl | decide | exact decide_eq_true (by omega) | exact beq_iff_eq.2 (by omega) | exact bne_iff_ne.2 (by omega)) ?_ | refine spF (by first | with_reducible rfl | assumption | rfl | decide | exact decide_eq_false (by omega) | exact beq_eq_false_iff_ne.2 (by omega) | exact bne_eq_false_iff_eq.2 (by omega)) ?_ | refine guT (by first | with_reducible rfl | assumption | rfl | decide | exact decide_eq_true (by omega) | exact beq_iff_eq.2 (by omega) | exact bne_iff_ne.2 (by omega)) ?_ | refine guF (by first | with_reducible rfl | assumption | rfl | decide | exact decide_eq_false (by omega) | exact beq_eq_false_iff_ne.2 (by omega) | exact bne_eq_false_iff_eq.2 (by omega)) ?_ | refine guT (by first | with_reducible rfl | assumption | rfl | decide | exact decide_eq_false (by omega) | exact beq_eq_false_iff_ne.2 (by omega) | exact bne_eq_false_iff_eq.2 (by omega)) ?_ | refine guF (by first | with_reducible rfl | assumption | rfl | decide | exact decide_eq_true (by omega) | exact beq_iff_eq.2 (by omega) | exact bne_iff_ne.2 (by omega)) ?_ | refine And.intro (a := orderB _ _ = true) (by kernel_rfl) ?_ | refine And.intro rfl ?_ | refine And.intro (a := _ ≤ _) (by first | omega | (simp; first | done | fail) | (simp; omega)) ?_ | refine And.intro (a := _ ≠ _) (by decide) ?_ | refine exS _ (by assumption) rfl ?_ | refine exBR _ (by assumption) ?_ | refine And.intro (a := List.length _ = _) (by first | assumption | (simp; first | done | omega)) ?_ | refine And.intro (a := _ < _) (by first | omega | (simp; first | done | omega)) ?_ | refine exI _ rfl (by assumption) ?_ | refine exI 0 rfl (by assumption) ?_ | refine exI 0 rfl rfl ?_ | refine exI 1 rfl rfl ?_ | refine exI 2 rfl rfl ?_ | refine exN _ rfl (by first | omega | (simp; first | done | fail) | (simp; omega)) ?_ | refine exN 0 rfl (by first | omega | (simp; first | done | fail) | (simp; omega)) ?_ | refine exN 1 rfl (by first | omega | (simp; first | done | fail) | (simp; omega)) ?_)))
  refine gen_d rfl (enters_of Try.func14 rfl rfl) (s2) (by (repeat (first | exact TLes.nil | refine TLes.cons (TLe.of_eq rfl) ?_ | refine TLes.cons TLe.own ?_ | refine TLes.cons TLe.nil ?_)); (first | done | fail)) ?_
  (repeat ((conv => whnf); (first | refine exE (α := List D) _ (by assumption) ?_ | with_reducible refine exE (α := Int) _ (by assumption) ?_ | with_reducible refine exE _ (w_inc (by omega)) ?_ | with_reducible refine exE _ (w_dec (by omega) (by omega)) ?_ | with_reducible refine exE _ (wrap_in (by omega) (by omega)) ?_ | refine exR ?_ | refine gen_d rfl (enters_of Try.func13 rfl rfl) (spawned_fn) (by (repeat (first | exact TLes.nil | refine TLes.cons (TLe.of_eq rfl) ?_ | refine TLes.cons TLe.own ?_ | refine TLes.cons TLe.nil ?_)); (first | done | fail)) ?_ | refine gen_d rfl (enters_of Try.func8 rfl rfl) (h1) (by (repeat (first | exact TLes.nil | refine TLes.cons (TLe.of_eq rfl) ?_ | refine TLes.cons TLe.own ?_ | refine TLes.cons TLe.nil ?_)); (first | done | fail)) ?_ | refine gen_d rfl (enters_of Try.func10 rfl rfl) (h2) (by (repeat (first | exact TLes.nil | refine TLes.cons (TLe.of_eq rfl) ?_ | refine TLes.cons TLe.own ?_ | refine TLes.cons TLe.nil ?_)); (first | done | fail)) ?_ | refine gen_d rfl (enters_of Try.func9 rfl rfl) (h3) (by (repeat (first | exact TLes.nil | refine TLes.cons (TLe.of_eq rfl) ?_ | refine TLes.cons TLe.own ?_ | refine TLes.cons TLe.nil ?_)); (first | done | fail)) ?_ | refine spT (by first | with_reducible rfl | assumption | rfl | decide | exact decide_eq_true (by omega) | exact beq_iff_eq.2 (by omega) | exact bne_iff_ne.2 (by omega)) ?_ | refine spF (by first | with_reducible rfl | assumption | rfl | decide | exact decide_eq_false (by omega) | exact beq_eq_false_iff_ne.2 (by omega) | exact bne_eq_false_iff_eq.2 (by omega)) ?_ | refine guT (by first | with_reducible rfl | assumption | rfl | decide | exact decide_eq_true (by omega) | exact beq_iff_eq.2 (by omega) | exact bne_iff_ne.2 (by omega)) ?_ | refine guF (by first | with_reducible rfl | assumption | rfl | decide | exact decide_eq_false (by omega) | exact beq_eq_false_iff_ne.2 (by omega) | exact bne_eq_false_iff_eq.2 (by omega)) ?_ | refine guT (by first | with_reducible rfl | assumption | rfl | decide | exact decide_eq_false (by omega) | exact beq_eq_false_iff_ne.2 (by omega) | exact bne_eq_false_iff_eq.2 (by omega)) ?_ | refine guF (by first | with_reducible rfl | assumption | rfl | decide | exact decide_eq_true (by omega) | exact beq_iff_eq.2 (by omega) | exact bne_iff_ne.2 (by omega)) ?_ | refine And.intro (a := orderB _ _ = true) (by kernel_rfl) ?_ | refine And.intro rfl ?_ | refine And.intro (a := _ ≤ _) (by first | omega | (simp; first | done | fail) | (simp; omega)) ?_ | refine And.intro (a := _ ≠ _) (by decide) ?_ | refine exS _ (by assumption) rfl ?_ | refine exBR _ (by assumption) ?_ | refine And.intro (a := List.length _ = _) (by first | assumption | (simp; first | done | omega)) ?_ | refine And.intro (a := _ < _) (by first | omega | (simp; first | done | omega)) ?_ | refine exI _ rfl (by assumption) ?_ | refine exI 0 rfl (by assumption) ?_ | refine exI 0 rfl rfl ?_ | refine exI 1 rfl rfl ?_ | refine exI 2 rfl rfl ?_ | refine exN _ rfl (by first | omega | (simp; first | done | fail) | (simp; omega)) ?_ | refine exN 0 rfl (by first | omega | (simp; first | done | fail) | (simp; omega)) ?_ | refine exN 1 rfl (by first | omega | (simp; first | done | fail) | (simp; omega)) ?_)))
  exact ⟨by first | exact .inl rfl | exact .inr rfl, (by (repeat (first | exact RsE.nil | refine RsE.tmp (TLe.of_eq rfl) ?_ | refine RsE.tmp TLe.own ?_ | refine RsE.tmp TLe.nil ?_ | refine RsE.one rfl rfl rfl rfl (TLe.of_eq rfl) ?_ | refine RsE.agg rfl rfl rfl rfl rfl (TLe.of_eq rfl) ?_)); (first | done | fail)), (by (repeat (first | exact FitO.nil | refine FitO.cons rfl ?_)); (first | done | fail))⟩
end Go.Proofs.Ytiaaoajnecppnaa
end
