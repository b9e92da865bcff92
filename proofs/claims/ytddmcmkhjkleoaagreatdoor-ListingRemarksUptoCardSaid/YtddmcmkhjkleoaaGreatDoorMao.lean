/-
  Cb, Ca, Cd, Cw, Cy, Ce, in one.
-/
import Derived.Test.YtddmcmkhjkleoaaGreatDoorMal
import Derived.Test.YtddmcmkhjkleoaaGreatDoorMak
import Derived.Test.YtddmcmkhjkleoaaGreatDoorMam
import Derived.Shelf.Abstract
import Derived.Test.YtddmcmkhjkleoaaGreatDoorProg
import Derived.ChangeKeysEq
import Derived.Lib.SlicesCompact
section
namespace Go.Proofs.YtddmcmkhjkleoaaGreatDoor
open Go.RowKit

theorem lend_refl : ∀ l : List T, Lend l l []
  | [] => .nil
  | _ :: l => .le (TLe.of_eq rfl) (lend_refl l)
def idxF {α : Type} (pr : α → Bool) : List α → Nat → Int
  | [], _ => -1
  | x :: l, i => if pr x = true then (i : Int) else idxF pr l (i + 1)
theorem idxF_any {α : Type} (pr : α → Bool) : ∀ (l : List α) (i : Nat), decide (0 ≤ idxF pr l i) = l.any pr
  | [], i => rfl
  | x :: l, i => by
    rw [idxF, List.any_cons]
    cases h : pr x with
    | true => rw [if_pos rfl, Bool.true_or]; simp
    | false => rw [if_neg (by decide), Bool.false_or]; exact idxF_any pr l (i + 1)
set_option maxRecDepth 100000 in
theorem indexS_fn (fv : Nat) (caps : List T) (hent : ∀ args w, (callFunc fv args).run Tryz.prog w = .ok (.enter fv args) w) (pr : List UInt8 → Bool) (l : List (List UInt8)) (hf : ∀ x ∈ l, FnD Tryz.prog fv (.d (strD x) :: caps) (boolT (pr x))) (r : Int) (hr : idxF pr l 0 = r) :
    FnD Tryz.prog 75 [.d (.sl 1 (l.map strD)), .fn fv caps] (intT r) := by
  have hlm : (l.map strD).length = l.length := List.length_map _
  refine FnD.of1 (n := 19) [] fax_ok Tryz.func75 rfl rfl rfl (by rfl) (by kernel_rfl) (by intro _; rfl) fun Γ hA hbA => ?_
  skip
  refine ev_loop [] fax_ok hA (by kernel_rfl) (fun i : Nat => i ≤ l.length ∧ idxF pr (l.drop i) i = r) (fun i => [(0, .d (.sl 1 (l.map strD))), (1, .fn fv caps), (7, intT (l.map strD).length), (8, intT i)]) (fun _ => []) (fun i => l.length - i) 0 ⟨Nat.zero_le _, by simpa using hr⟩ fiE fiO ?_
  rintro i ⟨hi, hri⟩ hb -
  have hlen : (l.map strD).length ≤ 9223372036854775807 := hb.1
  by_cases h : i < l.length
  · have hx : (l.map strD)[i]? = some (strD l[i]) := by rw [List.getElem?_map, List.getElem?_eq_getElem h, Option.map_some]
    have hC := hf l[i] (List.getElem_mem h)
    rw [List.drop_eq_getElem_cons h, idxF] at hri
    generalize l[i] = x at *
    cases hp : pr x with
    | true =>
      rw [hp, if_pos rfl] at hri
      rw [hp] at hC
      subst hri
      (repeat ((conv => whnf); (first | refine exR ?_ | refine tT ?_ | refine exI _ rfl (by assumption) ?_)))
      refine gen_v rfl rfl hent hC (Lend.le (TLe.of_eq rfl) (lend_refl caps)) ?_
      (repeat ((conv => whnf); refine tT ?_))
      exact ⟨eN, rS, fiO⟩
    | false =>
      rw [hp, if_neg (by decide)] at hri
      rw [hp] at hC
      (repeat ((conv => whnf); (first | refine exR ?_ | refine tT ?_ | refine exI _ rfl (by assumption) ?_)))
      refine gen_v rfl rfl hent hC (Lend.le (TLe.of_eq rfl) (lend_refl caps)) ?_
      (repeat ((conv => whnf); (first | with_reducible refine exE _ (w_inc (by omega)) ?_ | refine tF ?_)))
      exact ⟨i + 1, ⟨by omega, hri⟩, by omega, fiE, fiO⟩
  · obtain rfl : i = l.length := by omega
    rw [List.drop_length] at hri
    replace hri : -1 = r := hri
    subst hri
    (repeat ((conv => whnf); (first | refine exR ?_ | refine tF ?_)))
    exact ⟨eN, rS, fiO⟩
set_option maxRecDepth 100000 in
theorem containsS_fn (fv : Nat) (caps : List T) (hent : ∀ args w, (callFunc fv args).run Tryz.prog w = .ok (.enter fv args) w) (pr : List UInt8 → Bool) (l : List (List UInt8)) (hf : ∀ x ∈ l, FnD Tryz.prog fv (.d (strD x) :: caps) (boolT (pr x))) :
    FnD Tryz.prog 45 [.d (.sl 1 (l.map strD)), .fn fv caps] (boolT (l.any pr)) := by
  have hI := indexS_fn fv caps hent pr l hf _ rfl
  rw [← idxF_any pr l 0]
  generalize idxF pr l 0 = r at *
  refine FnD.of1 (n := 9) [] fax_ok Tryz.func45 rfl rfl rfl (by rfl) (by kernel_rfl) (by intro _; rfl) fun Γ hA hbA => ?_
  (repeat ((conv => whnf); (first | refine exR ?_ | refine gd (enters_of Tryz.func75 rfl rfl) hI ?_)))
  exact ⟨eN, rS, fiO⟩
set_option maxRecDepth 100000 in
theorem indexF_fn (fv : Nat) (caps : List T) (hent : ∀ args w, (callFunc fv args).run Tryz.prog w = .ok (.enter fv args) w) (pr : FnR → Bool) (l : List (FnR)) (hf : ∀ x ∈ l, FnD Tryz.prog fv (.d (fnD x) :: caps) (boolT (pr x))) (r : Int) (hr : idxF pr l 0 = r) :
    FnD Tryz.prog 52 [.d (.sl 5 (l.map fnD)), .fn fv caps] (intT r) := by
  have hlm : (l.map fnD).length = l.length := List.length_map _
  refine FnD.of1 (n := 19) [] fax_ok Tryz.func52 rfl rfl rfl (by rfl) (by kernel_rfl) (by intro _; rfl) fun Γ hA hbA => ?_
  skip
  refine ev_loop [] fax_ok hA (by kernel_rfl) (fun i : Nat => i ≤ l.length ∧ idxF pr (l.drop i) i = r) (fun i => [(0, .d (.sl 5 (l.map fnD))), (1, .fn fv caps), (7, intT (l.map fnD).length), (8, intT i)]) (fun _ => []) (fun i => l.length - i) 0 ⟨Nat.zero_le _, by simpa using hr⟩ fiE fiO ?_
  rintro i ⟨hi, hri⟩ hb -
  have hlen : (l.map fnD).length ≤ 9223372036854775807 := hb.1
  by_cases h : i < l.length
  · have hx : (l.map fnD)[i]? = some (fnD l[i]) := by rw [List.getElem?_map, List.getElem?_eq_getElem h, Option.map_some]
    have hC := hf l[i] (List.getElem_mem h)
    rw [List.drop_eq_getElem_cons h, idxF] at hri
    generalize l[i] = x at *
    cases hp : pr x with
    | true =>
      rw [hp, if_pos rfl] at hri
      rw [hp] at hC
      subst hri
      (repeat ((conv => whnf); (first | refine exR ?_ | refine tT ?_ | refine And.intro rfl ?_ | refine exI _ rfl (by assumption) ?_)))
      refine gen_v rfl rfl hent hC (Lend.le (TLe.of_eq rfl) (lend_refl caps)) ?_
      (repeat ((conv => whnf); refine tT ?_))
      exact ⟨eN, rS, fiO⟩
    | false =>
      rw [hp, if_neg (by decide)] at hri
      rw [hp] at hC
      (repeat ((conv => whnf); (first | refine exR ?_ | refine tT ?_ | refine And.intro rfl ?_ | refine exI _ rfl (by assumption) ?_)))
      refine gen_v rfl rfl hent hC (Lend.le (TLe.of_eq rfl) (lend_refl caps)) ?_
      (repeat ((conv => whnf); (first | with_reducible refine exE _ (w_inc (by omega)) ?_ | refine tF ?_)))
      exact ⟨i + 1, ⟨by omega, hri⟩, by omega, fiE, fiO⟩
  · obtain rfl : i = l.length := by omega
    rw [List.drop_length] at hri
    replace hri : -1 = r := hri
    subst hri
    (repeat ((conv => whnf); (first | refine exR ?_ | refine tF ?_)))
    exact ⟨eN, rS, fiO⟩
set_option maxRecDepth 100000 in
theorem containsF_fn (fv : Nat) (caps : List T) (hent : ∀ args w, (callFunc fv args).run Tryz.prog w = .ok (.enter fv args) w) (pr : FnR → Bool) (l : List (FnR)) (hf : ∀ x ∈ l, FnD Tryz.prog fv (.d (fnD x) :: caps) (boolT (pr x))) :
    FnD Tryz.prog 26 [.d (.sl 5 (l.map fnD)), .fn fv caps] (boolT (l.any pr)) := by
  have hI := indexF_fn fv caps hent pr l hf _ rfl
  rw [← idxF_any pr l 0]
  generalize idxF pr l 0 = r at *
  refine FnD.of1 (n := 9) [] fax_ok Tryz.func26 rfl rfl rfl (by rfl) (by kernel_rfl) (by intro _; rfl) fun Γ hA hbA => ?_
  (repeat ((conv => whnf); (first | refine exR ?_ | refine gd (enters_of Tryz.func52 rfl rfl) hI ?_)))
  exact ⟨eN, rS, fiO⟩
set_option maxRecDepth 100000 in
theorem indexV_fn (fv : Nat) (caps : List T) (hent : ∀ args w, (callFunc fv args).run Tryz.prog w = .ok (.enter fv args) w) (pr : Int × Int → Bool) (l : List (Int × Int)) (hf : ∀ x ∈ l, FnD Tryz.prog fv (.d (vaD x) :: caps) (boolT (pr x))) (r : Int) (hr : idxF pr l 0 = r) :
    FnD Tryz.prog 76 [.d (.sl 2 (l.map vaD)), .fn fv caps] (intT r) := by
  have hlm : (l.map vaD).length = l.length := List.length_map _
  refine FnD.of1 (n := 19) [] fax_ok Tryz.func76 rfl rfl rfl (by rfl) (by kernel_rfl) (by intro _; rfl) fun Γ hA hbA => ?_
  skip
  refine ev_loop [] fax_ok hA (by kernel_rfl) (fun i : Nat => i ≤ l.length ∧ idxF pr (l.drop i) i = r) (fun i => [(0, .d (.sl 2 (l.map vaD))), (1, .fn fv caps), (7, intT (l.map vaD).length), (8, intT i)]) (fun _ => []) (fun i => l.length - i) 0 ⟨Nat.zero_le _, by simpa using hr⟩ fiE fiO ?_
  rintro i ⟨hi, hri⟩ hb -
  have hlen : (l.map vaD).length ≤ 9223372036854775807 := hb.1
  by_cases h : i < l.length
  · have hx : (l.map vaD)[i]? = some (vaD l[i]) := by rw [List.getElem?_map, List.getElem?_eq_getElem h, Option.map_some]
    have hC := hf l[i] (List.getElem_mem h)
    rw [List.drop_eq_getElem_cons h, idxF] at hri
    generalize l[i] = x at *
    cases hp : pr x with
    | true =>
      rw [hp, if_pos rfl] at hri
      rw [hp] at hC
      subst hri
      (repeat ((conv => whnf); (first | refine exR ?_ | refine tT ?_ | refine And.intro rfl ?_ | refine exI _ rfl (by assumption) ?_)))
      refine gen_v rfl rfl hent hC (Lend.le (TLe.of_eq rfl) (lend_refl caps)) ?_
      (repeat ((conv => whnf); refine tT ?_))
      exact ⟨eN, rS, fiO⟩
    | false =>
      rw [hp, if_neg (by decide)] at hri
      rw [hp] at hC
      (repeat ((conv => whnf); (first | refine exR ?_ | refine tT ?_ | refine And.intro rfl ?_ | refine exI _ rfl (by assumption) ?_)))
      refine gen_v rfl rfl hent hC (Lend.le (TLe.of_eq rfl) (lend_refl caps)) ?_
      (repeat ((conv => whnf); (first | with_reducible refine exE _ (w_inc (by omega)) ?_ | refine tF ?_)))
      exact ⟨i + 1, ⟨by omega, hri⟩, by omega, fiE, fiO⟩
  · obtain rfl : i = l.length := by omega
    rw [List.drop_length] at hri
    replace hri : -1 = r := hri
    subst hri
    (repeat ((conv => whnf); (first | refine exR ?_ | refine tF ?_)))
    exact ⟨eN, rS, fiO⟩
set_option maxRecDepth 100000 in
theorem containsV_fn (fv : Nat) (caps : List T) (hent : ∀ args w, (callFunc fv args).run Tryz.prog w = .ok (.enter fv args) w) (pr : Int × Int → Bool) (l : List (Int × Int)) (hf : ∀ x ∈ l, FnD Tryz.prog fv (.d (vaD x) :: caps) (boolT (pr x))) :
    FnD Tryz.prog 49 [.d (.sl 2 (l.map vaD)), .fn fv caps] (boolT (l.any pr)) := by
  have hI := indexV_fn fv caps hent pr l hf _ rfl
  rw [← idxF_any pr l 0]
  generalize idxF pr l 0 = r at *
  refine FnD.of1 (n := 9) [] fax_ok Tryz.func49 rfl rfl rfl (by rfl) (by kernel_rfl) (by intro _; rfl) fun Γ hA hbA => ?_
  (repeat ((conv => whnf); (first | refine exR ?_ | refine gd (enters_of Tryz.func76 rfl rfl) hI ?_)))
  exact ⟨eN, rS, fiO⟩
set_option maxRecDepth 100000 in
theorem indexI_fn (fv : Nat) (caps : List T) (hent : ∀ args w, (callFunc fv args).run Tryz.prog w = .ok (.enter fv args) w) (pr : Int → Bool) (l : List (Int)) (hf : ∀ x ∈ l, FnD Tryz.prog fv (.d (iD x) :: caps) (boolT (pr x))) (r : Int) (hr : idxF pr l 0 = r) :
    FnD Tryz.prog 123 [.d (.sl 1 (l.map iD)), .fn fv caps] (intT r) := by
  have hlm : (l.map iD).length = l.length := List.length_map _
  refine FnD.of1 (n := 19) [] fax_ok Tryz.func123 rfl rfl rfl (by rfl) (by kernel_rfl) (by intro _; rfl) fun Γ hA hbA => ?_
  skip
  refine ev_loop [] fax_ok hA (by kernel_rfl) (fun i : Nat => i ≤ l.length ∧ idxF pr (l.drop i) i = r) (fun i => [(0, .d (.sl 1 (l.map iD))), (1, .fn fv caps), (7, intT (l.map iD).length), (8, intT i)]) (fun _ => []) (fun i => l.length - i) 0 ⟨Nat.zero_le _, by simpa using hr⟩ fiE fiO ?_
  rintro i ⟨hi, hri⟩ hb -
  have hlen : (l.map iD).length ≤ 9223372036854775807 := hb.1
  by_cases h : i < l.length
  · have hx : (l.map iD)[i]? = some (iD l[i]) := by rw [List.getElem?_map, List.getElem?_eq_getElem h, Option.map_some]
    have hC := hf l[i] (List.getElem_mem h)
    rw [List.drop_eq_getElem_cons h, idxF] at hri
    generalize l[i] = x at *
    cases hp : pr x with
    | true =>
      rw [hp, if_pos rfl] at hri
      rw [hp] at hC
      subst hri
      (repeat ((conv => whnf); (first | refine exR ?_ | refine tT ?_ | refine exI _ rfl (by assumption) ?_)))
      refine gen_v rfl rfl hent hC (Lend.le (TLe.of_eq rfl) (lend_refl caps)) ?_
      (repeat ((conv => whnf); refine tT ?_))
      exact ⟨eN, rS, fiO⟩
    | false =>
      rw [hp, if_neg (by decide)] at hri
      rw [hp] at hC
      (repeat ((conv => whnf); (first | refine exR ?_ | refine tT ?_ | refine exI _ rfl (by assumption) ?_)))
      refine gen_v rfl rfl hent hC (Lend.le (TLe.of_eq rfl) (lend_refl caps)) ?_
      (repeat ((conv => whnf); (first | with_reducible refine exE _ (w_inc (by omega)) ?_ | refine tF ?_)))
      exact ⟨i + 1, ⟨by omega, hri⟩, by omega, fiE, fiO⟩
  · obtain rfl : i = l.length := by omega
    rw [List.drop_length] at hri
    replace hri : -1 = r := hri
    subst hri
    (repeat ((conv => whnf); (first | refine exR ?_ | refine tF ?_)))
    exact ⟨eN, rS, fiO⟩
set_option maxRecDepth 100000 in
theorem containsI_fn (fv : Nat) (caps : List T) (hent : ∀ args w, (callFunc fv args).run Tryz.prog w = .ok (.enter fv args) w) (pr : Int → Bool) (l : List (Int)) (hf : ∀ x ∈ l, FnD Tryz.prog fv (.d (iD x) :: caps) (boolT (pr x))) :
    FnD Tryz.prog 102 [.d (.sl 1 (l.map iD)), .fn fv caps] (boolT (l.any pr)) := by
  have hI := indexI_fn fv caps hent pr l hf _ rfl
  rw [← idxF_any pr l 0]
  generalize idxF pr l 0 = r at *
  refine FnD.of1 (n := 9) [] fax_ok Tryz.func102 rfl rfl rfl (by rfl) (by kernel_rfl) (by intro _; rfl) fun Γ hA hbA => ?_
  (repeat ((conv => whnf); (first | refine exR ?_ | refine gd (enters_of Tryz.func123 rfl rfl) hI ?_)))
  exact ⟨eN, rS, fiO⟩
end Go.Proofs.YtddmcmkhjkleoaaGreatDoor
end

section
namespace Go.Proofs.YtddmcmkhjkleoaaGreatDoor
open Go.RowKit

theorem cwithin_fn (n lo hi : Int) : FnD Tryz.prog 80 [intT n, intT lo, intT hi] (boolT (wi n lo hi)) := by
  unfold wi
  by_cases h : lo ≤ n
  · rw [decide_eq_true h, Bool.true_and]
    refine FnD.of1 (n := 15) [] fax_ok Tryz.func80 rfl rfl rfl (by rfl) (by kernel_rfl) (by intro _; rfl) fun Γ hA hbA => ?_
    (repeat ((conv => whnf); (first | refine exR ?_ | refine tT ?_)))
    exact ⟨eN, rS, fiO⟩
  · rw [decide_eq_false h, Bool.false_and]
    refine FnD.of1 (n := 15) [] fax_ok Tryz.func80 rfl rfl rfl (by rfl) (by kernel_rfl) (by intro _; rfl) fun Γ hA hbA => ?_
    (repeat ((conv => whnf); (first | refine exR ?_ | refine tF ?_)))
    exact ⟨eN, rS, fiO⟩
theorem owithin_fn (n lo hi : Int) : FnD Tryz.prog 77 [intT n, intT lo, intT hi] (boolT (wi n lo hi)) := by
  unfold wi
  by_cases h : lo ≤ n
  · rw [decide_eq_true h, Bool.true_and]
    refine FnD.of1 (n := 15) [] fax_ok Tryz.func77 rfl rfl rfl (by rfl) (by kernel_rfl) (by intro _; rfl) fun Γ hA hbA => ?_
    (repeat ((conv => whnf); (first | refine exR ?_ | refine tT ?_)))
    exact ⟨eN, rS, fiO⟩
  · rw [decide_eq_false h, Bool.false_and]
    refine FnD.of1 (n := 15) [] fax_ok Tryz.func77 rfl rfl rfl (by rfl) (by kernel_rfl) (by intro _; rfl) fun Γ hA hbA => ?_
    (repeat ((conv => whnf); (first | refine exR ?_ | refine tF ?_)))
    exact ⟨eN, rS, fiO⟩
set_option maxRecDepth 100000 in
set_option maxHeartbeats 16000000 in
theorem form_fn (op : Int) : FnD Tryz.prog 79 [intT op] (strT (formM op)) := by
  by_cases h : op < 1 ∨ 39 ≤ op
  · rw [show formM op = [] from if_pos h]
    rcases h with h | h
    · refine FnD.of1 (n := 14) [] fax_ok Tryz.func79 rfl rfl rfl (by rfl) (by kernel_rfl) (by intro _; rfl) fun Γ hA hbA => ?_
      (repeat ((conv => whnf); (first | refine exR ?_ | refine tT ?_ | refine uF ?_ | refine And.intro rfl ?_)))
      exact ⟨eN, rS, fiO⟩
    · have h2 : 1 ≤ op := by omega
      refine FnD.of1 (n := 14) [] fax_ok Tryz.func79 rfl rfl rfl (by rfl) (by kernel_rfl) (by intro _; rfl) fun Γ hA hbA => ?_
      (repeat ((conv => whnf); (first | refine exR ?_ | refine tT ?_ | refine tF ?_ | refine uT ?_ | refine And.intro rfl ?_)))
      exact ⟨eN, rS, fiO⟩
  · obtain ⟨j, rfl⟩ : ∃ j : Nat, op = j := ⟨op.toNat, by omega⟩
    rw [show formM (j : Int) = formsL.getD j [] from by unfold formM; rw [if_neg h, Int.toNat_natCast]]
    rcases j with _ | _ | _ | _ | _ | _ | _ | _ | _ | _ | _ | _ | _ | _ | _ | _ | _ | _ | _ | _ | _ | _ | _ | _ | _ | _ | _ | _ | _ | _ | _ | _ | _ | _ | _ | _ | _ | _ | _ | j
    all_goals first | (exfalso; omega) | skip
    all_goals
      refine FnD.of1 (n := 14) [] fax_ok Tryz.func79 rfl rfl rfl (by rfl) (by kernel_rfl) (by intro _; rfl) fun Γ hA hbA => ?_
      (repeat ((conv => whnf); (first | refine exR ?_ | refine tF ?_ | refine uT ?_ | refine And.intro rfl ?_ | refine exA 1 rfl (by decide) ?_ | refine exA _ rfl (by omega) ?_)))
      exact ⟨eN, rS, fiO⟩
/-- What bounds the tables that a function is looked at with. -/
structure LkB (p : PrR) (f : FnR) : Prop where
  fns : p.fns.length ≤ 60
  consts : p.consts.length ≤ 200
  texts : p.texts.length ≤ 200
  code : f.code.length ≤ 600
  caught : f.caught.length ≤ 1000000000000
  reg1 : 1 ≤ f.regs
  reg2 : f.regs ≤ 60
theorem reg_fn (p : PrR) (f : FnR) (h : LkB p f) (n : Int) : FnD Tryz.prog 82 [.d (lkD p f), intT n] (boolT (regM f n)) := by
  have h1 := h.reg1
  have h2 := h.reg2
  have e : IntKind.i64.wrap (f.regs - 1) = f.regs - 1 := wrap_in (by omega) (by omega)
  unfold regM
  refine FnD.of1 (n := 11) [] fax_ok Tryz.func82 rfl rfl rfl (by rfl) (by kernel_rfl) (by intro _; rfl) fun Γ hA hbA => ?_
  (repeat ((conv => whnf); (first | with_reducible refine exE (α := Int) _ (by assumption) ?_ | refine gd (enters_of Tryz.func80 rfl rfl) (cwithin_fn n 0 (f.regs - 1)) ?_ | refine And.intro rfl ?_)))
  exact ⟨eN, rS, fiO⟩
theorem text_fn (p : PrR) (f : FnR) (h : LkB p f) (n : Int) : FnD Tryz.prog 100 [.d (lkD p f), intT n] (boolT (wi n 0 ((p.texts.length : Int) - 1))) := by
  have h1 := h.texts
  have e : IntKind.i64.wrap (((p.texts.map strD).length : Int) - 1) = (p.texts.length : Int) - 1 := by rw [List.length_map, wrap_in (by omega) (by omega)]
  refine FnD.of1 (n := 12) [] fax_ok Tryz.func100 rfl rfl rfl (by rfl) (by kernel_rfl) (by intro _; rfl) fun Γ hA hbA => ?_
  (repeat ((conv => whnf); (first | with_reducible refine exE (α := Int) _ (by assumption) ?_ | refine gd (enters_of Tryz.func80 rfl rfl) (cwithin_fn n 0 ((p.texts.length : Int) - 1)) ?_ | refine And.intro rfl ?_)))
  exact ⟨eN, rS, fiO⟩
theorem at_fn (p : PrR) (f : FnR) (h : LkB p f) (n : Int) : FnD Tryz.prog 101 [.d (lkD p f), intT n] (boolT (wi n 0 ((f.code.length : Int) - 1))) := by
  have h1 := h.code
  have e : IntKind.i64.wrap (((f.code.map inD).length : Int) - 1) = (f.code.length : Int) - 1 := by rw [List.length_map, wrap_in (by omega) (by omega)]
  refine FnD.of1 (n := 12) [] fax_ok Tryz.func101 rfl rfl rfl (by rfl) (by kernel_rfl) (by intro _; rfl) fun Γ hA hbA => ?_
  (repeat ((conv => whnf); (first | with_reducible refine exE (α := Int) _ (by assumption) ?_ | refine gd (enters_of Tryz.func80 rfl rfl) (cwithin_fn n 0 ((f.code.length : Int) - 1)) ?_ | refine And.intro rfl ?_)))
  exact ⟨eN, rS, fiO⟩
set_option maxRecDepth 100000 in
set_option maxHeartbeats 16000000 in
theorem names_fn (p : PrR) (f : FnR) (h : LkB p f) (c : UInt8) (n : Int) (hc : c ∈ [114, 107, 116, 97, 117, 102, 108, 99, 110, 45]) : FnD Tryz.prog 81 [.d (lkD p f), u8T c, intT n] (boolT (namesM p f c n)) := by
  have h1 := h.consts
  have h2 := h.caught
  have h3 := h.fns
  have e1 : IntKind.i64.wrap (((p.consts.map vaD).length : Int) - 1) = (p.consts.length : Int) - 1 := by rw [List.length_map, wrap_in (by omega) (by omega)]
  have e2 : IntKind.i64.wrap (((f.caught.map iD).length : Int) - 1) = (f.caught.length : Int) - 1 := by rw [List.length_map, wrap_in (by omega) (by omega)]
  have e3 : IntKind.i64.wrap (((p.fns.map fnD).length : Int) - 1) = (p.fns.length : Int) - 1 := by rw [List.length_map, wrap_in (by omega) (by omega)]
  have w1 := cwithin_fn n 0 ((p.consts.length : Int) - 1)
  have w2 := cwithin_fn n 0 ((f.caught.length : Int) - 1)
  have w3 := cwithin_fn n 1 ((p.fns.length : Int) - 1)
  have w4 := cwithin_fn n 0 f.regs
  simp only [List.mem_cons, List.not_mem_nil, or_false] at hc
  rcases hc with rfl | rfl | rfl | rfl | rfl | rfl | rfl | rfl | rfl | rfl
  · rw [show namesM p f 114 n = regM f n from rfl]
    refine FnD.of1 (n := 61) [] fax_ok Tryz.func81 rfl rfl rfl (by rfl) (by kernel_rfl) (by intro _; rfl) fun Γ hA hbA => ?_
    (repeat ((conv => whnf); (first | refine exR ?_ | refine gd (enters_of Tryz.func82 rfl rfl) (reg_fn p f h n) ?_ | refine tT ?_ | refine And.intro rfl ?_)))
    exact ⟨eN, rS, fiO⟩
  · rw [show namesM p f 107 n = wi n 0 ((p.consts.length : Int) - 1) from rfl]
    refine FnD.of1 (n := 61) [] fax_ok Tryz.func81 rfl rfl rfl (by rfl) (by kernel_rfl) (by intro _; rfl) fun Γ hA hbA => ?_
    (repeat ((conv => whnf); (first | with_reducible refine exE (α := Int) _ (by assumption) ?_ | refine exR ?_ | refine gd (enters_of Tryz.func80 rfl rfl) w1 ?_ | refine tT ?_ | refine tF ?_ | refine And.intro rfl ?_)))
    exact ⟨eN, rS, fiO⟩
  · rw [show namesM p f 116 n = wi n 0 ((p.texts.length : Int) - 1) from rfl]
    refine FnD.of1 (n := 61) [] fax_ok Tryz.func81 rfl rfl rfl (by rfl) (by kernel_rfl) (by intro _; rfl) fun Γ hA hbA => ?_
    (repeat ((conv => whnf); (first | refine exR ?_ | refine gd (enters_of Tryz.func100 rfl rfl) (text_fn p f h n) ?_ | refine tT ?_ | refine tF ?_ | refine And.intro rfl ?_)))
    exact ⟨eN, rS, fiO⟩
  · rw [show namesM p f 97 n = wi n 0 ((f.code.length : Int) - 1) from rfl]
    refine FnD.of1 (n := 61) [] fax_ok Tryz.func81 rfl rfl rfl (by rfl) (by kernel_rfl) (by intro _; rfl) fun Γ hA hbA => ?_
    (repeat ((conv => whnf); (first | refine exR ?_ | refine gd (enters_of Tryz.func101 rfl rfl) (at_fn p f h n) ?_ | refine tT ?_ | refine tF ?_ | refine And.intro rfl ?_)))
    exact ⟨eN, rS, fiO⟩
  · rw [show namesM p f 117 n = wi n 0 ((f.caught.length : Int) - 1) from rfl]
    refine FnD.of1 (n := 61) [] fax_ok Tryz.func81 rfl rfl rfl (by rfl) (by kernel_rfl) (by intro _; rfl) fun Γ hA hbA => ?_
    (repeat ((conv => whnf); (first | with_reducible refine exE (α := Int) _ (by assumption) ?_ | refine exR ?_ | refine gd (enters_of Tryz.func80 rfl rfl) w2 ?_ | refine tT ?_ | refine tF ?_ | refine And.intro rfl ?_)))
    exact ⟨eN, rS, fiO⟩
  · rw [show namesM p f 102 n = wi n 1 ((p.fns.length : Int) - 1) from rfl]
    refine FnD.of1 (n := 61) [] fax_ok Tryz.func81 rfl rfl rfl (by rfl) (by kernel_rfl) (by intro _; rfl) fun Γ hA hbA => ?_
    (repeat ((conv => whnf); (first | with_reducible refine exE (α := Int) _ (by assumption) ?_ | refine exR ?_ | refine gd (enters_of Tryz.func80 rfl rfl) w3 ?_ | refine tT ?_ | refine tF ?_ | refine And.intro rfl ?_)))
    exact ⟨eN, rS, fiO⟩
  · rw [show namesM p f 108 n = wi n 0 f.regs from rfl]
    refine FnD.of1 (n := 61) [] fax_ok Tryz.func81 rfl rfl rfl (by rfl) (by kernel_rfl) (by intro _; rfl) fun Γ hA hbA => ?_
    (repeat ((conv => whnf); (first | refine exR ?_ | refine gd (enters_of Tryz.func80 rfl rfl) w4 ?_ | refine tT ?_ | refine tF ?_ | refine And.intro rfl ?_)))
    exact ⟨eN, rS, fiO⟩
  · rw [show namesM p f 99 n = wi n 0 f.regs from rfl]
    refine FnD.of1 (n := 61) [] fax_ok Tryz.func81 rfl rfl rfl (by rfl) (by kernel_rfl) (by intro _; rfl) fun Γ hA hbA => ?_
    (repeat ((conv => whnf); (first | refine exR ?_ | refine gd (enters_of Tryz.func80 rfl rfl) w4 ?_ | refine tT ?_ | refine tF ?_ | refine And.intro rfl ?_)))
    exact ⟨eN, rS, fiO⟩
  · rw [show namesM p f 110 n = wi n 0 f.regs from rfl]
    refine FnD.of1 (n := 61) [] fax_ok Tryz.func81 rfl rfl rfl (by rfl) (by kernel_rfl) (by intro _; rfl) fun Γ hA hbA => ?_
    (repeat ((conv => whnf); (first | refine exR ?_ | refine gd (enters_of Tryz.func80 rfl rfl) w4 ?_ | refine tT ?_ | refine tF ?_ | refine And.intro rfl ?_)))
    exact ⟨eN, rS, fiO⟩
  · rw [show namesM p f 45 n = (n == 0) from rfl]
    refine FnD.of1 (n := 61) [] fax_ok Tryz.func81 rfl rfl rfl (by rfl) (by kernel_rfl) (by intro _; rfl) fun Γ hA hbA => ?_
    (repeat ((conv => whnf); (first | refine exR ?_ | refine tF ?_ | refine And.intro rfl ?_)))
    exact ⟨eN, rS, fiO⟩
end Go.Proofs.YtddmcmkhjkleoaaGreatDoor
end

section
namespace Go.Proofs.YtddmcmkhjkleoaaGreatDoor
open Go.RowKit

abbrev lkP (p : PrR) (f : FnR) : T := .pi [fnsD p.fns, vasD p.consts, txD p.texts, iD f.params, iD f.regs, bD f.gen, isD f.caught, codeD f.code]
def badC (f : FnR) (c : Int) : Bool := !regM f c && !wi c (-(f.caught.length : Int)) (-1)
theorem caughtM_eq (f g : FnR) : caughtM f g = !(g.caught.any (badC f)) := by
  unfold caughtM badC
  induction g.caught with
  | nil => rfl
  | cons c l ih =>
    rw [List.all_cons, List.any_cons, ih]
    cases regM f c <;> cases wi c (-(f.caught.length : Int)) (-1) <;> simp
set_option maxRecDepth 100000 in
theorem caught1_fn (p : PrR) (f : FnR) (h : LkB p f) (c : Int) : FnD Tryz.prog 103 [.d (iD c), lkP p f] (boolT (badC f c)) := by
  have h2 := h.caught
  have e1 : IntKind.i64.wrap (0 - ((f.caught.map iD).length : Int)) = -(f.caught.length : Int) := by rw [List.length_map, wrap_in (by omega) (by omega)]; omega
  have hR := reg_fn p f h c
  have hW := cwithin_fn c (-(f.caught.length : Int)) (-1)
  unfold badC
  cases hr : regM f c with
  | true =>
    rw [hr] at hR
    refine FnD.of1 (n := 18) [] fax_ok Tryz.func103 rfl rfl rfl (by rfl) (by kernel_rfl) (by intro _; rfl) fun Γ hA hbA => ?_
    (repeat ((conv => whnf); (first | refine exR ?_ | refine gd (enters_of Tryz.func82 rfl rfl) hR ?_ | refine tF ?_ | refine And.intro rfl ?_)))
    exact ⟨eN, rS, fiO⟩
  | false =>
    rw [hr] at hR
    refine FnD.of1 (n := 18) [] fax_ok Tryz.func103 rfl rfl rfl (by rfl) (by kernel_rfl) (by intro _; rfl) fun Γ hA hbA => ?_
    (repeat ((conv => whnf); (first | with_reducible refine exE (α := Int) _ (by assumption) ?_ | refine exR ?_ | refine gd (enters_of Tryz.func80 rfl rfl) hW ?_ | refine gd (enters_of Tryz.func82 rfl rfl) hR ?_ | refine tT ?_ | refine And.intro rfl ?_)))
    exact ⟨eN, rS, fiO⟩
set_option maxRecDepth 100000 in
theorem caught_fn (p : PrR) (f g : FnR) (h : LkB p f) : FnD Tryz.prog 83 [.d (lkD p f), .d (fnD g)] (boolT (caughtM f g)) := by
  have hC := containsI_fn 103 [lkP p f] (enters_of Tryz.func103 rfl rfl) (badC f) g.caught fun c _ => caught1_fn p f h c
  rw [caughtM_eq]
  refine FnD.of1 (n := 10) [1002] fax_ok Tryz.func83 rfl rfl rfl (by rfl) (by kernel_rfl) (by intro _; rfl) fun Γ hA hbA => ?_
  (repeat ((conv => whnf); (first | refine exR ?_ | refine gd (enters_of Tryz.func102 rfl rfl) hC ?_ | refine And.intro rfl ?_)))
  exact ⟨eN, rS, fiO⟩
theorem forms_all : ∀ w ∈ formsL, w = [] ∨ (w.length = 3 ∧ ∀ c ∈ w, c ∈ ([114, 107, 116, 97, 117, 102, 108, 99, 110, 45] : List UInt8)) := by decide +kernel
theorem form_three (op : Int) : formM op = [] ∨ ∃ c0 c1 c2, formM op = [c0, c1, c2] ∧ c0 ∈ ([114, 107, 116, 97, 117, 102, 108, 99, 110, 45] : List UInt8) ∧ c1 ∈ ([114, 107, 116, 97, 117, 102, 108, 99, 110, 45] : List UInt8) ∧ c2 ∈ ([114, 107, 116, 97, 117, 102, 108, 99, 110, 45] : List UInt8) := by
  unfold formM
  split
  · exact .inl rfl
  · next h =>
    have hl : formsL.length = 39 := by decide
    have hm : formsL.getD op.toNat [] ∈ formsL := by
      have : op.toNat < formsL.length := by omega
      simp only [List.getD, List.getElem?_eq_getElem this, Option.getD_some]
      exact List.getElem_mem this
    generalize formsL.getD op.toNat [] = w at hm
    rcases forms_all w hm with h | ⟨h1, h2⟩
    · exact .inl h
    · match w, h1, h2 with
      | [c0, c1, c2], _, h2 => exact .inr ⟨c0, c1, c2, rfl, h2 c0 (by simp), h2 c1 (by simp), h2 c2 (by simp)⟩
set_option maxRecDepth 100000 in
set_option maxHeartbeats 8000000 in
theorem order_bad (p : PrR) (f : FnR) (k : Nat) (i : InR) (h : formM i.op = []) : FnD Tryz.prog 53 [.d (lkD p f), intT k, .d (inD i)] (boolT false) := by
  have hF := form_fn i.op
  rw [h] at hF
  refine FnD.of1 (n := 90) [] fax_ok Tryz.func53 rfl rfl rfl (by rfl) (by kernel_rfl) (by intro _; rfl) fun Γ hA hbA => ?_
  (repeat ((conv => whnf); (first | refine exR ?_ | refine gd (enters_of Tryz.func79 rfl rfl) hF ?_ | refine tT ?_ | refine uF ?_ | refine oB ?_ | refine And.intro rfl ?_)))
  exact ⟨eN, rS, fiO⟩
set_option maxRecDepth 100000 in
set_option maxHeartbeats 16000000 in
theorem order_aux (p : PrR) (f : FnR) (h : LkB p f) (k : Nat) (i : InR) (c0 c1 c2 : UInt8) (bl b0 b1 b2 r : Bool) (hF : FnD Tryz.prog 79 [intT i.op] (strT [c0, c1, c2]))
    (hL : FnD Tryz.prog 80 [intT i.line, intT 0, intT 2000] (boolT bl)) (h0 : FnD Tryz.prog 81 [.d (lkD p f), u8T c0, intT i.a] (boolT b0))
    (h1 : FnD Tryz.prog 81 [.d (lkD p f), u8T c1, intT i.b] (boolT b1)) (h2 : FnD Tryz.prog 81 [.d (lkD p f), u8T c2, intT i.c] (boolT b2))
    (hr : (bl && b0 && b1 && b2) = false ∧ r = false ∨ (bl = true ∧ b0 = true ∧ b1 = true ∧ b2 = true ∧ ((i.op = 14 ∧ r = decide (i.a ≤ (k : Int))) ∨ (i.op = 19 ∧ 0 ≤ i.b ∧ i.b ≤ 1000 ∧ 0 ≤ i.c ∧ i.c ≤ 1000 ∧ r = decide (i.b + i.c ≤ f.regs)) ∨ (i.op = 27 ∧ 0 ≤ i.b ∧ i.b ≤ 1000 ∧ 0 ≤ i.c ∧ i.c ≤ 1000 ∧ r = regM f (i.b + i.c)) ∨ (i.op = 26 ∧ 0 ≤ i.b ∧ i.b < p.fns.length ∧ r = caughtM f (p.fns.getD i.b.toNat default)) ∨ (i.op = 32 ∧ r = f.gen) ∨ (i.op ≠ 14 ∧ i.op ≠ 19 ∧ i.op ≠ 27 ∧ i.op ≠ 26 ∧ i.op ≠ 32 ∧ r = true)))) :
    FnD Tryz.prog 53 [.d (lkD p f), intT k, .d (inD i)] (boolT r) := by
  have y0 : ([c0, c1, c2] : List UInt8)[0]? = some c0 := rfl
  have y1 : ([c0, c1, c2] : List UInt8)[1]? = some c1 := rfl
  have y2 : ([c0, c1, c2] : List UInt8)[2]? = some c2 := rfl
  rcases hr with ⟨hb, rfl⟩ | ⟨rfl, rfl, rfl, rfl, hr⟩
  · have key : bl = false ∨ (bl = true ∧ b0 = false) ∨ (bl = true ∧ b0 = true ∧ b1 = false) ∨ (bl = true ∧ b0 = true ∧ b1 = true ∧ b2 = false) := by
      cases bl <;> cases b0 <;> cases b1 <;> cases b2 <;> simp at hb ⊢
    rcases key with rfl | ⟨rfl, rfl⟩ | ⟨rfl, rfl, rfl⟩ | ⟨rfl, rfl, rfl, rfl⟩
    · refine FnD.of1 (n := 90) [] fax_ok Tryz.func53 rfl rfl rfl (by rfl) (by kernel_rfl) (by intro _; rfl) fun Γ hA hbA => ?_
      (repeat ((conv => whnf); (first | refine exR ?_ | refine gd (enters_of Tryz.func79 rfl rfl) hF ?_ | refine gd (enters_of Tryz.func80 rfl rfl) hL ?_ | refine tT ?_ | refine tF ?_ | refine uT ?_ | refine uF ?_ | refine oB ?_ | refine And.intro rfl ?_)))
      exact ⟨eN, rS, fiO⟩
    · refine FnD.of1 (n := 90) [] fax_ok Tryz.func53 rfl rfl rfl (by rfl) (by kernel_rfl) (by intro _; rfl) fun Γ hA hbA => ?_
      (repeat ((conv => whnf); (first | refine exR ?_ | refine gd (enters_of Tryz.func79 rfl rfl) hF ?_ | refine gd (enters_of Tryz.func80 rfl rfl) hL ?_ | refine gd (enters_of Tryz.func81 rfl rfl) h0 ?_ | refine tT ?_ | refine tF ?_ | refine uT ?_ | refine uF ?_ | refine oB ?_ | refine And.intro rfl ?_ | refine exB _ rfl (by assumption) ?_)))
      exact ⟨eN, rS, fiO⟩
    · refine FnD.of1 (n := 90) [] fax_ok Tryz.func53 rfl rfl rfl (by rfl) (by kernel_rfl) (by intro _; rfl) fun Γ hA hbA => ?_
      (repeat ((conv => whnf); (first | refine exR ?_ | refine gd (enters_of Tryz.func79 rfl rfl) hF ?_ | refine gd (enters_of Tryz.func80 rfl rfl) hL ?_ | refine gd (enters_of Tryz.func81 rfl rfl) h0 ?_ | refine gd (enters_of Tryz.func81 rfl rfl) h1 ?_ | refine tT ?_ | refine tF ?_ | refine uT ?_ | refine uF ?_ | refine oB ?_ | refine And.intro rfl ?_ | refine exB _ rfl (by assumption) ?_)))
      exact ⟨eN, rS, fiO⟩
    · refine FnD.of1 (n := 90) [] fax_ok Tryz.func53 rfl rfl rfl (by rfl) (by kernel_rfl) (by intro _; rfl) fun Γ hA hbA => ?_
      (repeat ((conv => whnf); (first | refine exR ?_ | refine gd (enters_of Tryz.func79 rfl rfl) hF ?_ | refine gd (enters_of Tryz.func80 rfl rfl) hL ?_ | refine gd (enters_of Tryz.func81 rfl rfl) h0 ?_ | refine gd (enters_of Tryz.func81 rfl rfl) h1 ?_ | refine gd (enters_of Tryz.func81 rfl rfl) h2 ?_ | refine tT ?_ | refine tF ?_ | refine uT ?_ | refine oB ?_ | refine And.intro rfl ?_ | refine exB _ rfl (by assumption) ?_)))
      exact ⟨eN, rS, fiO⟩
  · rcases hr with ⟨g1, rfl⟩ | ⟨g1, g2, g3, g4, g5, rfl⟩ | ⟨g1, g2, g3, g4, g5, rfl⟩ | ⟨g1, g2, g3, rfl⟩ | ⟨g1, rfl⟩ | ⟨g1, g2, g3, g4, g5, rfl⟩
    · refine FnD.of1 (n := 90) [] fax_ok Tryz.func53 rfl rfl rfl (by rfl) (by kernel_rfl) (by intro _; rfl) fun Γ hA hbA => ?_
      (repeat ((conv => whnf); (first | refine exR ?_ | refine gd (enters_of Tryz.func79 rfl rfl) hF ?_ | refine gd (enters_of Tryz.func80 rfl rfl) hL ?_ | refine gd (enters_of Tryz.func81 rfl rfl) h0 ?_ | refine gd (enters_of Tryz.func81 rfl rfl) h1 ?_ | refine gd (enters_of Tryz.func81 rfl rfl) h2 ?_ | refine tT ?_ | refine tF ?_ | refine uT ?_ | refine oB ?_ | refine And.intro rfl ?_ | refine exB _ rfl (by assumption) ?_)))
      exact ⟨eN, rS, fiO⟩
    · refine FnD.of1 (n := 90) [] fax_ok Tryz.func53 rfl rfl rfl (by rfl) (by kernel_rfl) (by intro _; rfl) fun Γ hA hbA => ?_
      (repeat ((conv => whnf); (first | with_reducible refine exE _ (wrap_in (by omega) (by omega)) ?_ | refine exR ?_ | refine gd (enters_of Tryz.func79 rfl rfl) hF ?_ | refine gd (enters_of Tryz.func80 rfl rfl) hL ?_ | refine gd (enters_of Tryz.func81 rfl rfl) h0 ?_ | refine gd (enters_of Tryz.func81 rfl rfl) h1 ?_ | refine gd (enters_of Tryz.func81 rfl rfl) h2 ?_ | refine tT ?_ | refine tF ?_ | refine uT ?_ | refine oB ?_ | refine And.intro rfl ?_ | refine exB _ rfl (by assumption) ?_)))
      exact ⟨eN, rS, fiO⟩
    · have hR := reg_fn p f h (i.b + i.c)
      refine FnD.of1 (n := 90) [] fax_ok Tryz.func53 rfl rfl rfl (by rfl) (by kernel_rfl) (by intro _; rfl) fun Γ hA hbA => ?_
      (repeat ((conv => whnf); (first | with_reducible refine exE _ (wrap_in (by omega) (by omega)) ?_ | refine exR ?_ | refine gd (enters_of Tryz.func79 rfl rfl) hF ?_ | refine gd (enters_of Tryz.func82 rfl rfl) hR ?_ | refine gd (enters_of Tryz.func80 rfl rfl) hL ?_ | refine gd (enters_of Tryz.func81 rfl rfl) h0 ?_ | refine gd (enters_of Tryz.func81 rfl rfl) h1 ?_ | refine gd (enters_of Tryz.func81 rfl rfl) h2 ?_ | refine tT ?_ | refine tF ?_ | refine uT ?_ | refine oB ?_ | refine And.intro rfl ?_ | refine exB _ rfl (by assumption) ?_)))
      exact ⟨eN, rS, fiO⟩
    · obtain ⟨j, hj⟩ : ∃ j : Nat, i.b = j := ⟨i.b.toNat, by omega⟩
      rw [hj, Int.toNat_natCast]
      have hjl : j < p.fns.length := by omega
      have hx : (p.fns.map fnD)[j]? = some (fnD (p.fns.getD j default)) := by
        rw [List.getElem?_map, List.getElem?_eq_getElem hjl, Option.map_some]
        simp [List.getD, hjl]
      have hC := caught_fn p f (p.fns.getD j default) h
      generalize p.fns.getD j default = g at *
      refine FnD.of1 (n := 90) [] fax_ok Tryz.func53 rfl rfl rfl (by rfl) (by kernel_rfl) (by intro _; rfl) fun Γ hA hbA => ?_
      (repeat ((conv => whnf); (first | refine exR ?_ | refine gd (enters_of Tryz.func79 rfl rfl) hF ?_ | refine gd (enters_of Tryz.func80 rfl rfl) hL ?_ | refine gd (enters_of Tryz.func81 rfl rfl) h0 ?_ | refine gd (enters_of Tryz.func81 rfl rfl) h1 ?_ | refine gd (enters_of Tryz.func81 rfl rfl) h2 ?_ | refine tT ?_ | refine tF ?_ | refine uT ?_ | refine oB ?_ | refine And.intro rfl ?_ | refine exB _ rfl (by assumption) ?_)))
      (conv => whnf)
      refine exI j hj hx ?_
      (repeat ((conv => whnf); (first | refine gd (enters_of Tryz.func83 rfl rfl) hC ?_ | refine oB ?_ | refine And.intro rfl ?_)))
      exact ⟨eN, rS, fiO⟩
    · refine FnD.of1 (n := 90) [] fax_ok Tryz.func53 rfl rfl rfl (by rfl) (by kernel_rfl) (by intro _; rfl) fun Γ hA hbA => ?_
      (repeat ((conv => whnf); (first | refine exR ?_ | refine gd (enters_of Tryz.func79 rfl rfl) hF ?_ | refine gd (enters_of Tryz.func80 rfl rfl) hL ?_ | refine gd (enters_of Tryz.func81 rfl rfl) h0 ?_ | refine gd (enters_of Tryz.func81 rfl rfl) h1 ?_ | refine gd (enters_of Tryz.func81 rfl rfl) h2 ?_ | refine tT ?_ | refine tF ?_ | refine uT ?_ | refine oB ?_ | refine And.intro rfl ?_ | refine exB _ rfl (by assumption) ?_)))
      exact ⟨eN, rS, fiO⟩
    · refine FnD.of1 (n := 90) [] fax_ok Tryz.func53 rfl rfl rfl (by rfl) (by kernel_rfl) (by intro _; rfl) fun Γ hA hbA => ?_
      (repeat ((conv => whnf); (first | refine exR ?_ | refine gd (enters_of Tryz.func79 rfl rfl) hF ?_ | refine gd (enters_of Tryz.func80 rfl rfl) hL ?_ | refine gd (enters_of Tryz.func81 rfl rfl) h0 ?_ | refine gd (enters_of Tryz.func81 rfl rfl) h1 ?_ | refine gd (enters_of Tryz.func81 rfl rfl) h2 ?_ | refine tF ?_ | refine uT ?_ | refine oB ?_ | refine And.intro rfl ?_ | refine exB _ rfl (by assumption) ?_)))
      exact ⟨eN, rS, fiO⟩
theorem wi_iff {n lo hi : Int} : wi n lo hi = true ↔ lo ≤ n ∧ n ≤ hi := by simp [wi]
theorem order_fn (p : PrR) (f : FnR) (h : LkB p f) (k : Nat) (i : InR) : FnD Tryz.prog 53 [.d (lkD p f), intT k, .d (inD i)] (boolT (orderM p f k i)) := by
  rcases form_three i.op with hw | ⟨c0, c1, c2, hw, m0, m1, m2⟩
  · rw [show orderM p f k i = false from by unfold orderM; rw [hw]]
    exact order_bad p f k i hw
  · have hF := form_fn i.op
    rw [hw] at hF
    refine order_aux p f h k i c0 c1 c2 _ _ _ _ _ hF (cwithin_fn _ _ _) (names_fn p f h c0 i.a m0) (names_fn p f h c1 i.b m1) (names_fn p f h c2 i.c m2) ?_
    unfold orderM
    rw [hw]
    dsimp only
    have hreg := h.reg2
    cases hl : wi i.line 0 2000 with
    | false => exact .inl ⟨by simp, by simp⟩
    | true =>
      cases h0 : namesM p f c0 i.a with
      | false => exact .inl ⟨by simp, by simp⟩
      | true =>
        cases h1 : namesM p f c1 i.b with
        | false => exact .inl ⟨by simp, by simp⟩
        | true =>
          cases h2 : namesM p f c2 i.c with
          | false => exact .inl ⟨by simp, by simp⟩
          | true =>
            refine .inr ⟨rfl, rfl, rfl, rfl, ?_⟩
            simp only [Bool.not_true, Bool.false_eq_true, if_false]
            by_cases o1 : i.op = 14
            · exact .inl ⟨o1, by rw [if_pos o1]⟩
            · by_cases o2 : i.op = 19
              · rw [o2] at hw
                have e : formM 19 = [114, 108, 110] := by decide +kernel
                rw [e] at hw
                simp only [List.cons.injEq, and_true] at hw
                obtain ⟨-, rfl, rfl⟩ := hw
                have w1 := wi_iff.1 (show wi i.b 0 f.regs = true from h1)
                have w2 := wi_iff.1 (show wi i.c 0 f.regs = true from h2)
                exact .inr (.inl ⟨o2, by omega, by omega, by omega, by omega, by rw [if_neg o1, if_pos o2]⟩)
              · by_cases o3 : i.op = 27
                · rw [o3] at hw
                  have e : formM 27 = [114, 99, 110] := by decide +kernel
                  rw [e] at hw
                  simp only [List.cons.injEq, and_true] at hw
                  obtain ⟨-, rfl, rfl⟩ := hw
                  have w1 := wi_iff.1 (show wi i.b 0 f.regs = true from h1)
                  have w2 := wi_iff.1 (show wi i.c 0 f.regs = true from h2)
                  exact .inr (.inr (.inl ⟨o3, by omega, by omega, by omega, by omega, by rw [if_neg o1, if_neg o2, if_pos o3]⟩))
                · by_cases o4 : i.op = 26
                  · rw [o4] at hw
                    have e : formM 26 = [114, 102, 45] := by decide +kernel
                    rw [e] at hw
                    simp only [List.cons.injEq, and_true] at hw
                    obtain ⟨-, rfl, -⟩ := hw
                    have w1 := wi_iff.1 (show wi i.b 1 ((p.fns.length : Int) - 1) = true from h1)
                    exact .inr (.inr (.inr (.inl ⟨o4, by omega, by omega, by rw [if_neg o1, if_neg o2, if_neg o3, if_pos o4]⟩)))
                  · by_cases o5 : i.op = 32
                    · exact .inr (.inr (.inr (.inr (.inl ⟨o5, by rw [if_neg o1, if_neg o2, if_neg o3, if_neg o4, if_pos o5]⟩))))
                    · exact .inr (.inr (.inr (.inr (.inr ⟨o1, o2, o3, o4, o5, by rw [if_neg o1, if_neg o2, if_neg o3, if_neg o4, if_neg o5]⟩))))
end Go.Proofs.YtddmcmkhjkleoaaGreatDoor
end

section
namespace Go.Proofs.YtddmcmkhjkleoaaGreatDoor

/-- How many are not seen. -/
def unseen (l : List Bool) : Nat := l.countP (· == false)
structure WkI (f : FnR) (s : WkR) : Prop where
  seen : s.seen.length = f.code.length
  out : s.out.length = f.code.length
  todo : ∀ a ∈ s.todo, a < f.code.length
  few : unseen s.seen + s.todo.length ≤ f.code.length
  short : ∀ l ∈ s.out, l.length ≤ 20
theorem unseen_set {l : List Bool} {i : Nat} (h : l.getD i false = false) (hi : i < l.length) : unseen (l.set i true) + 1 = unseen l := by
  induction l generalizing i with
  | nil => simp at hi
  | cons x l ih =>
    cases i with
    | zero =>
      have hx : x = false := by simpa using h
      subst hx
      simp [unseen]
    | succ i =>
      have := ih (i := i) (by simpa using h) (by simpa using hi)
      unfold unseen at this ⊢
      rw [List.set_cons_succ, List.countP_cons, List.countP_cons]
      omega
theorem come_keep {f : FnR} {s : WkR} (h : WkI f s) (at_ : Nat) (l : List (Int × Int)) : WkI f (comeM f at_ l s) ∧ unseen (comeM f at_ l s).seen + (comeM f at_ l s).todo.length = unseen s.seen + s.todo.length := by
  unfold comeM
  split
  · exact ⟨⟨h.seen, h.out, h.todo, h.few, h.short⟩, rfl⟩
  · next hc =>
    split
    · next hs =>
      have hi : at_ < s.seen.length := by rw [h.seen]; omega
      have := unseen_set hs hi
      refine ⟨⟨by simpa using h.seen, by simpa using h.out, fun a ha => ?_, ?_, fun m hm => ?_⟩, ?_⟩
      · rcases List.mem_append.1 ha with ha | ha
        · exact h.todo a ha
        · rw [List.mem_singleton.1 ha]; omega
      · have := h.few
        simp only [List.length_append, List.length_singleton]; omega
      · rcases List.mem_or_eq_of_mem_set hm with hm | rfl
        · exact h.short m hm
        · omega
      · simp only [List.length_append, List.length_singleton]; omega
    · split
      · exact ⟨h, rfl⟩
      · exact ⟨⟨h.seen, h.out, h.todo, h.few, h.short⟩, rfl⟩
theorem from_keep {f : FnR} {s : WkR} (h : WkI f s) (at_ : Nat) : WkI f (fromM f at_ s) ∧ unseen (fromM f at_ s).seen + (fromM f at_ s).todo.length = unseen s.seen + s.todo.length := by
  unfold fromM
  dsimp only
  split
  · exact ⟨h, rfl⟩
  · split
    · exact come_keep h _ _
    · split
      · obtain ⟨h1, h2⟩ := come_keep h (f.code.getD at_ default).b.toNat (s.out.getD at_ [])
        obtain ⟨h3, h4⟩ := come_keep h1 (at_ + 1) (s.out.getD at_ [])
        exact ⟨h3, by omega⟩
      · split
        · obtain ⟨h1, h2⟩ := come_keep h (f.code.getD at_ default).b.toNat (s.out.getD at_ [])
          obtain ⟨h3, h4⟩ := come_keep h1 (at_ + 1) (s.out.getD at_ [] ++ [((f.code.getD at_ default).a, (f.code.getD at_ default).b)])
          exact ⟨h3, by omega⟩
        · split
          · split
            · exact ⟨⟨h.seen, h.out, h.todo, h.few, h.short⟩, rfl⟩
            · exact come_keep h _ _
          · exact come_keep h _ _
theorem pop_keep {f : FnR} {s : WkR} (h : WkI f s) (h0 : s.todo ≠ []) : WkI f (popM s) ∧ unseen (popM s).seen + (popM s).todo.length + 1 = unseen s.seen + s.todo.length := by
  have hl : 0 < s.todo.length := List.length_pos_iff.2 h0
  have e : (s.todo.take (s.todo.length - 1)).length = s.todo.length - 1 := by simp
  refine ⟨⟨h.seen, h.out, fun a ha => h.todo a (List.mem_of_mem_take ha), ?_, h.short⟩, ?_⟩
  · have := h.few
    show unseen s.seen + (s.todo.take (s.todo.length - 1)).length ≤ _
    omega
  · show unseen s.seen + (s.todo.take (s.todo.length - 1)).length + 1 = _
    omega
/-- With enough fuel it is over. -/
theorem tries_stop {f : FnR} : ∀ (n : Nat) (s : WkR), WkI f s → unseen s.seen + s.todo.length < n → (triesL f n s).todo = [] ∨ (triesL f n s).bad = true
  | 0, s, _, h => by omega
  | n + 1, s, h, hn => by
    rw [triesL]
    split
    · assumption
    · next hc =>
      obtain ⟨h1, h2⟩ := pop_keep h (fun e => hc (.inl e))
      obtain ⟨h3, h4⟩ := from_keep h1 (s.todo.getD (s.todo.length - 1) 0)
      exact tries_stop n _ h3 (by omega)
/-- Orders that lead within, as they have been checked. -/
structure CodeOk (f : FnR) : Prop where
  small : f.code.length ≤ 600
  ways : ∀ i ∈ f.code, (i.op = 13 ∨ i.op = 14 → 0 ≤ i.a ∧ i.a < f.code.length) ∧ (i.op = 15 ∨ i.op = 30 → 0 ≤ i.b ∧ i.b < f.code.length)
theorem start_keep {f : FnR} : WkI f ⟨List.replicate f.code.length false, List.replicate f.code.length [], [], false, 0⟩ := by
  refine ⟨by simp, by simp, fun a ha => by simp at ha, ?_, fun l hl => ?_⟩
  · unfold unseen
    have := List.countP_le_length (p := (· == false)) (l := List.replicate f.code.length false)
    simp only [List.length_replicate] at this
    show List.countP _ _ + 0 ≤ _
    omega
  · rw [(List.mem_replicate.1 hl).2]; simp
theorem wi_tt {n lo hi : Int} : wi n lo hi = true ↔ lo ≤ n ∧ n ≤ hi := by simp [wi]
theorem order_ways {p : PrR} {f : FnR} {k : Nat} {i : InR} (h : orderM p f k i = true) : (i.op = 13 ∨ i.op = 14 → 0 ≤ i.a ∧ i.a < f.code.length) ∧ (i.op = 15 ∨ i.op = 30 → 0 ≤ i.b ∧ i.b < f.code.length) := by
  unfold orderM at h
  split at h
  · next c0 c1 c2 hw =>
    have key : namesM p f c0 i.a = true ∧ namesM p f c1 i.b = true := by
      split at h
      · cases h
      · split at h
        · cases h
        · next h0 =>
          split at h
          · cases h
          · next h1 => exact ⟨by simpa using h0, by simpa using h1⟩
    constructor
    · intro ho
      have e : c0 = 97 := by
        rcases ho with ho | ho
        · rw [ho] at hw
          have e : formM 13 = [97, 45, 45] := by decide +kernel
          rw [e] at hw; simp only [List.cons.injEq] at hw; exact hw.1.symm
        · rw [ho] at hw
          have e : formM 14 = [97, 45, 45] := by decide +kernel
          rw [e] at hw; simp only [List.cons.injEq] at hw; exact hw.1.symm
      subst e
      have := wi_tt.1 (show wi i.a 0 ((f.code.length : Int) - 1) = true from key.1)
      omega
    · intro ho
      have e : c1 = 97 := by
        rcases ho with ho | ho
        · rw [ho] at hw
          have e : formM 15 = [114, 97, 45] := by decide +kernel
          rw [e] at hw; simp only [List.cons.injEq] at hw; exact hw.2.1.symm
        · rw [ho] at hw
          have e : formM 30 = [114, 97, 45] := by decide +kernel
          rw [e] at hw; simp only [List.cons.injEq] at hw; exact hw.2.1.symm
      subst e
      have := wi_tt.1 (show wi i.b 0 ((f.code.length : Int) - 1) = true from key.2)
      omega
  · cases h
theorem orders_all {p : PrR} {f : FnR} : ∀ (l : List InR) (k : Nat), ordersM p f l k = true → ∀ i ∈ l, ∃ k, orderM p f k i = true
  | [], _, _, i, hi => by simp at hi
  | x :: l, k, h, i, hi => by
    rw [ordersM] at h
    split at h
    · next h1 =>
      rcases List.mem_cons.1 hi with rfl | hi
      · exact ⟨k, h1⟩
      · exact orders_all l (k + 1) h i hi
    · cases h
end Go.Proofs.YtddmcmkhjkleoaaGreatDoor
end

section
namespace Go.Proofs.YtddmcmkhjkleoaaGreatDoor
open Go.RowKit Go.Sort Go.Lib

section
variable {P : Program} (w : World)
theorem eqFields_of (d : Nat) (xs ys : Array Value) : ∀ (fs : List Field) (ks : List (TypeId × Nat × Bool)), fs.map (fun f => (f.name != "_", f.type, f.offset)) = ks.map (fun k => (true, k.1, k.2.1)) →
    (∀ k ∈ ks, ∃ a b, (part k.1 xs k.2.1).run P w = .ok a w ∧ (part k.1 ys k.2.1).run P w = .ok b w ∧ (Op.equalIn d k.1 a b).run P w = .ok k.2.2 w) → (Op.eqFields d xs ys fs).run P w = .ok (ks.all (·.2.2)) w
  | [], [], _, _ => by simp [Op.eqFields]
  | [], _ :: _, h, _ => by simp at h
  | _ :: _, [], h, _ => by simp at h
  | f :: fs, (t, o, r) :: ks, h, H => by
    simp only [List.map_cons, List.cons.injEq, Prod.mk.injEq] at h
    obtain ⟨⟨h1, rfl, rfl⟩, h2⟩ := h
    have hn : f.name ≠ "_" := by simpa using h1
    obtain ⟨a, b, e1, e2, e3⟩ := H _ List.mem_cons_self
    simp only [Op.eqFields, if_pos hn, Sem.run_bind]
    dsimp only at e1 e2 e3
    rw [e1]
    simp only [Result.andThen_ok]
    rw [e2]
    simp only [Result.andThen_ok]
    rw [e3]
    simp only [Result.andThen_ok]
    cases r with
    | true =>
      rw [if_neg (by simp), eqFields_of d xs ys fs ks h2 fun k hk => H k (List.mem_cons_of_mem _ hk)]
      simp
    | false => simp
end
theorem part_int (xs : Array Value) (o : Nat) (a : Int) (w : World) (h : xs[o]? = some (.int .i64 a)) : (part 3 xs o).run Tryz.prog w = .ok (.int .i64 a) w := run_part_plain w (by kernel_rfl) h
theorem eq_int (d : Nat) (w : World) (a b : Int) : (Op.equalIn (d + 1) 3 (.int .i64 a) (.int .i64 b)).run Tryz.prog w = .ok (a == b) w := run_equalIn_int w d 3 .i64 .i64 a b Tryz.underlying3
theorem uTry : Tryz.prog.underlying 156 = some (.struct (Tryz.prog.fieldsOf 156)) := by kernel_rfl
theorem run_eqIn_try (w : World) (a b a' b' : Int) : (Op.equalIn 10000 156 (.agg #[.int .i64 a, .int .i64 b]) (.agg #[.int .i64 a', .int .i64 b'])).run Tryz.prog w = .ok (a == a' && b == b') w := by
  rw [show (10000 : Nat) = 9999 + 1 from rfl, run_equalIn_struct w 9999 156 _ _ uTry (by kernel_rfl), eqFields_of w 9999 _ _ _ [(3, 0, a == a'), (3, 1, b == b')] (by kernel_rfl) fun k hk => ?_]
  · congr 1
    simp
  · simp only [List.mem_cons, List.not_mem_nil, or_false] at hk
    rcases hk with rfl | rfl
    · exact ⟨_, _, part_int _ _ _ w rfl, part_int _ _ _ w rfl, eq_int _ w _ _⟩
    · exact ⟨_, _, part_int _ _ _ w rfl, part_int _ _ _ w rfl, eq_int _ w _ _⟩
theorem btry_ne (a b c d : Int) : BinR Tryz.prog .neq 156 (.agg #[.int .i64 a, .int .i64 b]) (.agg #[.int .i64 c, .int .i64 d]) (.bool (!(a == c && b == d))) := by
  intro x y w
  have h := run_eqIn_try w a b c d
  have hg : (eqGuard .neq 156 x y (.agg #[.int .i64 a, .int .i64 b]) (.agg #[.int .i64 c, .int .i64 d])).run Tryz.prog w = .ok () w := by kernel_rfl
  rw [Sem.run_bind, hg]
  simp only [Result.andThen_ok]
  show (do pure (.bool (!(← Op.equal 156 _ _))) : Sem Value).run Tryz.prog w = _
  unfold Op.equal
  simp only [Sem.run_bind]
  rw [show Op.maxDepth = 10000 from rfl, h]
  rfl
end Go.Proofs.YtddmcmkhjkleoaaGreatDoor
end

section
namespace Go.Proofs.YtddmcmkhjkleoaaGreatDoor
open Go.RowKit

abbrev nD (n : Nat) : D := iD (n : Int)
abbrev wkX (f : FnR) (seen out todo : List D) (bad : Bool) (ver : Nat) : Ob :=
  [(1000, .cells 135 [intT f.params, intT f.regs, boolT f.gen, .d (isD f.caught), .d (codeD f.code), .stk 1001 0 .all, .stk 1002 0 .all, .stk 1003 ver .all, boolT bad]),
   (1001, .stk 4 1 0 seen), (1002, .stk 153 1 0 out), (1003, .stk 3 1 ver todo)]
abbrev wkO (f : FnR) (s : WkR) : Ob := wkX f (s.seen.map bD) (s.out.map tryD) (s.todo.map nD) s.bad s.ver
set_option maxRecDepth 100000 in
set_option maxHeartbeats 1000000 in
theorem equalT_fn (a b : List (Int × Int)) (r : Bool) (hr : decide (a = b) = r) : FnD Tryz.prog 104 [.d (tryD a), .d (tryD b)] (boolT r) := by
  have hma : (a.map vaD).length = a.length := List.length_map _
  have hmb : (b.map vaD).length = b.length := List.length_map _
  by_cases hl : a.length = b.length
  · have hne : (((a.map vaD).length : Int) != ((b.map vaD).length : Int)) = false := bne_eq_false_iff_eq.2 (by omega)
    refine FnD.of1 (n := 26) [] fax_ok Tryz.func104 rfl rfl rfl (by rfl) (by kernel_rfl) (by intro _; rfl) fun Γ hA hbA => ?_
    (repeat ((conv => whnf); (first | refine exR ?_ | refine tF ?_)))
    refine ev_loop [] fax_ok hA (by kernel_rfl) (fun i : Nat => i ≤ a.length ∧ ∀ j, j < i → a[j]? = b[j]?) (fun i => [(0, .d (tryD a)), (1, .d (tryD b)), (12, intT (a.map vaD).length), (13, intT i)]) (fun _ => []) (fun i => a.length - i) 0 ⟨Nat.zero_le _, fun j hj => absurd hj (Nat.not_lt_zero j)⟩ fiE fiO ?_
    rintro i ⟨hi, hj⟩ hb -
    have hlen : (a.map vaD).length ≤ 9223372036854775807 := hb.1
    by_cases h : i < a.length
    · obtain ⟨u1, u2, hu⟩ : ∃ u1 u2, a[i] = (u1, u2) := ⟨_, _, rfl⟩
      obtain ⟨v1, v2, hv⟩ : ∃ v1 v2, b[i]'(by omega) = (v1, v2) := ⟨_, _, rfl⟩
      have hx : (a.map vaD)[i]? = some (vaD (u1, u2)) := by rw [List.getElem?_map, List.getElem?_eq_getElem h, Option.map_some, hu]
      have hy : (b.map vaD)[i]? = some (vaD (v1, v2)) := by rw [List.getElem?_map, List.getElem?_eq_getElem (by omega), Option.map_some, hv]
      have hxa : a[i]? = some (u1, u2) := by rw [List.getElem?_eq_getElem h, hu]
      have hyb : b[i]? = some (v1, v2) := by rw [List.getElem?_eq_getElem (by omega), hv]
      have hbn := btry_ne u1 u2 v1 v2
      by_cases he : u1 = v1 ∧ u2 = v2
      · obtain ⟨rfl, rfl⟩ := he
        rw [show (!(u1 == u1 && u2 == u2)) = false from by simp] at hbn
        (repeat ((conv => whnf); (first | with_reducible refine exE _ (w_inc (by omega)) ?_ | refine exR ?_ | refine tT ?_ | refine tF ?_ | refine oB ?_ | refine And.intro rfl ?_ | refine exBR _ (by assumption) ?_ | refine exI _ rfl (by assumption) ?_)))
        refine ⟨i + 1, ⟨by omega, fun j hj2 => ?_⟩, by omega, fiE, fiO⟩
        rcases Nat.lt_succ_iff_lt_or_eq.1 hj2 with h3 | rfl
        · exact hj j h3
        · rw [hxa, hyb]
      · rw [show (!(u1 == v1 && u2 == v2)) = true from by
          cases h1 : (u1 == v1 && u2 == v2) with
          | false => rfl
          | true => exact absurd (by simpa using h1) he] at hbn
        have hab : a ≠ b := fun e => by
          rw [e, hyb] at hxa
          simp only [Option.some.injEq, Prod.mk.injEq] at hxa
          exact he ⟨hxa.1.symm, hxa.2.symm⟩
        rw [decide_eq_false hab] at hr
        subst hr
        (repeat ((conv => whnf); (first | refine exR ?_ | refine tT ?_ | refine oB ?_ | refine And.intro rfl ?_ | refine exBR _ (by assumption) ?_ | refine exI _ rfl (by assumption) ?_)))
        exact ⟨eN, rS, fiO⟩
    · have hab : a = b := List.ext_getElem? fun j => by
        by_cases h3 : j < i
        · exact hj j h3
        · rw [List.getElem?_eq_none (by omega), List.getElem?_eq_none (by omega)]
      rw [decide_eq_true hab] at hr
      subst hr
      (repeat ((conv => whnf); (first | refine exR ?_ | refine tF ?_)))
      exact ⟨eN, rS, fiO⟩
  · have hab : a ≠ b := fun e => hl (by rw [e])
    have hne : (((a.map vaD).length : Int) != ((b.map vaD).length : Int)) = true := bne_iff_ne.2 (by omega)
    rw [decide_eq_false hab] at hr
    subst hr
    refine FnD.of1 (n := 26) [] fax_ok Tryz.func104 rfl rfl rfl (by rfl) (by kernel_rfl) (by intro _; rfl) fun Γ hA hbA => ?_
    (repeat ((conv => whnf); (first | refine exR ?_ | refine tT ?_)))
    exact ⟨eN, rS, fiO⟩
set_option maxRecDepth 100000 in
set_option maxHeartbeats 4000000 in
theorem come_fn (f : FnR) (s : WkR) (hI : WkI f s) (hc : f.code.length ≤ 600) (k : Nat) (hk : k ≤ 1000) (l : List (Int × Int)) (hl : l.length ≤ 1000) :
    FnO Tryz.prog 84 [.ref 1000 0, intT k, .d (tryD l)] (wkO f s) (.tup []) (wkO f (comeM f k l s)) := by
  have hcm : (f.code.map inD).length = f.code.length := List.length_map _
  have hlm : (l.map vaD).length = l.length := List.length_map _
  have hsm : (s.seen.map bD).length = s.seen.length := List.length_map _
  have hom : (s.out.map tryD).length = s.out.length := List.length_map _
  have htm : (s.todo.map nD).length = s.todo.length := List.length_map _
  have h1 := hI.seen
  have h2 := hI.out
  have h3 := hI.few
  unfold comeM
  by_cases hcond : f.code.length ≤ k ∨ 20 < l.length
  · rw [if_pos hcond]
    by_cases hk2 : f.code.length ≤ k
    · refine FnO.of0 (n := 69) [] fax_ok Tryz.func84 rfl rfl rfl (by rfl) (by rfl) (by kernel_rfl) fun Γ hA hbA hbO => ?_
      (repeat ((conv => whnf); (first | refine exR ?_ | refine tT ?_ | refine uF ?_)))
      exact ⟨eN, rS, fiO⟩
    · have hk3 : 20 < l.length := by omega
      refine FnO.of0 (n := 69) [] fax_ok Tryz.func84 rfl rfl rfl (by rfl) (by rfl) (by kernel_rfl) fun Γ hA hbA hbO => ?_
      (repeat ((conv => whnf); (first | refine exR ?_ | refine tT ?_ | refine tF ?_ | refine uT ?_)))
      exact ⟨eN, rS, fiO⟩
  · rw [if_neg hcond]
    have hk2 : k < f.code.length := by omega
    have hk3 : l.length ≤ 20 := by omega
    have hx : (s.seen.map bD)[k]? = some (bD (s.seen.getD k false)) := by
      rw [List.getElem?_map, List.getElem?_eq_getElem (by omega), Option.map_some]
      simp [List.getD, show k < s.seen.length by omega]
    have hy : (s.out.map tryD)[k]? = some (tryD (s.out.getD k [])) := by
      rw [List.getElem?_map, List.getElem?_eq_getElem (by omega), Option.map_some]
      simp [List.getD, show k < s.out.length by omega]
    have hE := equalT_fn (s.out.getD k []) l _ rfl
    cases hb : s.seen.getD k false with
    | false =>
      rw [hb] at hx
      rw [if_pos rfl]
      rw [show wkO f ⟨s.seen.set k true, s.out.set k l, s.todo ++ [k], s.bad, s.ver + 1⟩ = wkX f ((s.seen.map bD).set k (bD true)) ((s.out.map tryD).set k (tryD l)) (s.todo.map nD ++ [nD k]) s.bad (s.ver + 1) from by
        simp only [wkX, wkO, List.map_set, List.map_append, List.map_cons, List.map_nil]]
      refine FnO.of0 (n := 69) [] fax_ok Tryz.func84 rfl rfl rfl (by rfl) (by rfl) (by kernel_rfl) fun Γ hA hbA hbO => ?_
      (repeat ((conv => whnf); (first | refine exR ?_ | refine tT ?_ | refine tF ?_ | refine uT ?_ | refine oB ?_ | refine And.intro rfl ?_ | refine lQ ?_ | refine exS _ (by assumption) rfl ?_ | refine exA _ rfl (by omega) ?_)))
      exact ⟨eN, rS, fiO⟩
    | true =>
      rw [hb] at hx
      rw [if_neg (by decide)]
      generalize s.out.getD k [] = m at *
      by_cases he : m = l
      · rw [if_pos he]
        rw [decide_eq_true he] at hE
        refine FnO.of0 (n := 69) [] fax_ok Tryz.func84 rfl rfl rfl (by rfl) (by rfl) (by kernel_rfl) fun Γ hA hbA hbO => ?_
        (repeat ((conv => whnf); (first | refine exR ?_ | refine gd (enters_of Tryz.func104 rfl rfl) hE ?_ | refine tF ?_ | refine uT ?_ | refine And.intro rfl ?_ | refine exS _ (by assumption) rfl ?_ | refine exA _ rfl (by omega) ?_)))
        exact ⟨eN, rS, fiO⟩
      · rw [if_neg he]
        rw [decide_eq_false he] at hE
        refine FnO.of0 (n := 69) [] fax_ok Tryz.func84 rfl rfl rfl (by rfl) (by rfl) (by kernel_rfl) fun Γ hA hbA hbO => ?_
        (repeat ((conv => whnf); (first | refine exR ?_ | refine gd (enters_of Tryz.func104 rfl rfl) hE ?_ | refine tT ?_ | refine tF ?_ | refine uT ?_ | refine And.intro rfl ?_ | refine exS _ (by assumption) rfl ?_ | refine exA _ rfl (by omega) ?_)))
        exact ⟨eN, rS, fiO⟩
end Go.Proofs.YtddmcmkhjkleoaaGreatDoor
end
