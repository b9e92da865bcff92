/-
  Nl, Cf, Cg, Ch, Ci, Cj, Blk, Co, Sr, in one.
-/
import Derived.Test.YtddmcmkhjkleoaaGreatDoorMak
import Derived.Lib.SliceRun
import Derived.Test.YtddmcmkhjkleoaaGreatDoorMal
import Derived.Test.YtddmcmkhjkleoaaGreatDoorMao
import Derived.Laws.Externs
import GoSem.Extern.MathFloatBits
import Derived.Test.YtddmcmkhjkleoaaGreatDoorMaa
import Derived.RangeFuncBox
import Derived.RangeFuncNested
import Derived.Test.YtddmcmkhjkleoaaGreatDoorMan
import Derived.Shelf.Strings.SplitShaped
import Derived.Test.YtddmcmkhjkleoaaGreatDoorMam
section
namespace Go.Proofs.YtddmcmkhjkleoaaGreatDoor
open Go.RowKit

/-- An empty slice that is not nil. -/
def isSl0 : Value → Bool
  | .slice (some _) 0 c => decide (c ≤ 9223372036854775807)
  | _ => false
/-- The nil slice. -/
def isSlN : Value → Bool
  | .slice none 0 0 => true
  | _ => false
theorem isSlN_spec {v : Value} (h : isSlN v = true) : v = .slice none 0 0 := by
  unfold isSlN at h
  split at h
  · rfl
  · cases h
theorem isSl0_spec {v : Value} (h : isSl0 v = true) : ∃ a c, v = .slice (some a) 0 c ∧ c ≤ 9223372036854775807 := by
  unfold isSl0 at h
  split at h
  · exact ⟨_, _, rfl, of_decide_eq_true h⟩
  · cases h
theorem tle_pr {k : Nat} : TLe (.pr isSl0) (.d (.sl k [])) := fun g y h => by
  cases h with
  | pr h1 h2 =>
    obtain ⟨a, c, rfl, hc⟩ := isSl0_spec h2
    exact .d (.sl (l := []) .nil ⟨0, 0, fun h => absurd h (Nat.lt_irrefl 0), fun i h => absurd h (Nat.not_lt_zero i)⟩ (Nat.zero_le _) hc fun h => by cases h)
section
variable {P : Program} {o : Oper} {σ : Nat → T}
theorem run_eqnil {t e u : TypeId} {x : Operand} {ac : Act} {w : World} {a : Option Addr} {n c : Nat} (ho : o.op = .binOp .eql t x (.const (.slice none 0 0)) u) (hx : ac.eval x = .slice a n c) (hu : P.underlying t = some (.slice e)) :
    (execOp ac.eval o).run P w = .ok (.value (.bool a.isNone)) w := by
  have e3 : ac.eval (.const (.slice none 0 0)) = .slice none 0 0 := rfl
  unfold execOp; rw [ho]
  have h1 : (eqGuard .eql t x (.const (.slice none 0 0)) (.slice a n c) (.slice none 0 0)).run P w = .ok () w := by
    cases a with
    | some a => cases x <;> rfl
    | none => cases x <;> rfl
  simp only [hx, e3, Sem.run_bind, h1, Result.andThen_ok, Go.run_eql_slice_nil w t e a n c hu, Sem.run_pure]
theorem t_eqnil_cons {t e u : TypeId} {x : Operand} {k : Nat} {d : D} {l : List D} (ho : o.op = .binOp .eql t x (.const (.slice none 0 0)) u) (hx : opT σ x = .d (.sl k (d :: l))) (hu : P.underlying t = some (.slice e)) : Tri P o σ [] (boolT false) [] :=
  .val fun _ g _ ac w hrp _ _ => ⟨.bool false, by
    have e1 := hrp x (by rw [ho]; simp [Op.operands])
    rw [hx] at e1
    generalize hy : ac.eval x = y at e1
    cases e1 with
    | d h =>
      cases h with
      | @sl _ _ p cap xs h1 hr hc hb hn =>
        cases p with
        | some a => exact run_eqnil ho hy hu
        | none => have := hn rfl; simp at hc; omega, rep_v rfl⟩
theorem t_eqnil_pr {t e u : TypeId} {x : Operand} (ho : o.op = .binOp .eql t x (.const (.slice none 0 0)) u) (hx : opT σ x = .pr isSl0) (hu : P.underlying t = some (.slice e)) : Tri P o σ [] (boolT false) [] :=
  .val fun _ g _ ac w hrp _ _ => ⟨.bool false, by
    have e1 := hrp x (by rw [ho]; simp [Op.operands])
    rw [hx] at e1
    generalize hy : ac.eval x = y at e1
    cases e1 with
    | pr h1 h2 =>
      obtain ⟨a, c, rfl, -⟩ := isSl0_spec h2
      exact run_eqnil ho hy hu, rep_v rfl⟩
theorem t_eqnil_nil {t e u : TypeId} {x : Operand} (ho : o.op = .binOp .eql t x (.const (.slice none 0 0)) u) (hx : opT σ x = .pr isSlN) (hu : P.underlying t = some (.slice e)) : Tri P o σ [] (boolT true) [] :=
  .val fun _ g _ ac w hrp _ _ => ⟨.bool true, by
    have e1 := hrp x (by rw [ho]; simp [Op.operands])
    rw [hx] at e1
    generalize hy : ac.eval x = y at e1
    cases e1 with
    | pr h1 h2 =>
      obtain rfl := isSlN_spec h2
      exact run_eqnil ho hy hu, rep_v rfl⟩
end
/-- A contract for a slice out of three: nil, empty and not nil, not empty. -/
theorem FnO.three {P : Program} {f : FuncId} {k : Nat} {l : List D} {args : List T} {pre post : List (Nat × GObj)} {res : T} (h0 : l = [] → FnO P f (.pr isSlN :: args) pre res post) (h1 : l = [] → FnO P f (.pr isSl0 :: args) pre res post) (h2 : ∀ d m, l = d :: m → FnO P f (.d (.sl k (d :: m)) :: args) pre res post) :
    FnO P f (.d (.sl k l) :: args) pre res post := by
  intro w g vs ht hx hw hr
  cases hr with
  | @cons _ _ v vs r0 hr =>
  match l, h0, h1, h2 with
  | d :: m, _, _, h2 => exact h2 d m rfl w g _ ht hx hw (.cons r0 hr)
  | [], h0, h1, _ =>
    generalize hl : ([] : List D) = l0 at r0
    cases r0 with
    | d h =>
      cases h with
      | @sl _ _ p cap xs a1 a2 a3 a4 a5 =>
        subst hl
        cases p with
        | none =>
          obtain rfl := a5 rfl
          exact h0 rfl w g _ ht hx hw (.cons (.pr rfl rfl) hr)
        | some a =>
          exact h1 rfl w g _ ht hx hw (.cons (.pr rfl (decide_eq_true a4)) hr)
/-- The name of a new row is free. -/
theorem FnO.name1 {P : Program} {f : FuncId} {args : List T} {e k c d : Nat} {l : List D} (h : FnO P f args [] (.own k l c) [(c, .row e k l)]) : FnO P f args [] (.own k l d) [(d, .row e k l)] := by
  intro w g vs ht hx hw hr
  refine (h w g vs ht hx hw hr).mono ?_
  rintro _ w' ⟨v, g', rfl, h1, h2⟩
  have hob := h2.obj c (.row e k l) (by simp [objL])
  refine ⟨v, ⟨g'.S, g'.blk, fun _ => g'.row c, fun _ => g'.len c⟩, rfl, ?_, h2.imm, fun id ob hid => ?_, fun i j oi oj b hi hj _ _ => ?_, h2.fr, h2.old, h2.ext.S, fun i hA => ?_, fun i hA => ?_, fun i hA => ?_⟩
  · cases h1 with
    | own a1 a2 a3 => exact .own a1 a2 a3
  · have hm := objL_mem hid
    simp only [List.mem_singleton, Prod.mk.injEq] at hm
    obtain ⟨rfl, rfl⟩ := hm
    exact hob
  · have h1 := objL_mem hi
    have h2 := objL_mem hj
    simp only [List.mem_singleton, Prod.mk.injEq] at h1 h2
    rw [h1.1, h2.1]
  · obtain ⟨ob, h⟩ := hA; cases h
  · obtain ⟨ob, h⟩ := hA; cases h
  · obtain ⟨ob, h⟩ := hA; cases h
end Go.Proofs.YtddmcmkhjkleoaaGreatDoor
end

section
namespace Go.Proofs.YtddmcmkhjkleoaaGreatDoor
open Go.RowKit

set_option maxRecDepth 100000 in
set_option maxHeartbeats 1000000 in
theorem cloneT_fn (l : List (Int × Int)) (hl : l.length ≤ 1000) : FnO Tryz.prog 105 [.d (tryD l)] [] (.own 2 (l.map vaD) 5) [(5, .row 156 2 (l.map vaD))] := by
  have hlm : (l.map vaD).length = l.length := List.length_map _
  refine FnO.three (args := []) (fun e => ?_) (fun e => ?_) fun d m e => ?_
  · rw [e]
    refine FnO.name1 (c := 2) ?_
    refine FnO.of1 (n := 8) [2] fax_ok Tryz.func105 rfl rfl rfl (by rfl) (by rfl) (by kernel_rfl) fun Γ hA hbA hbO => ?_
    (repeat ((conv => whnf); refine And.intro rfl ?_))
    refine gen_nil (t_eqnil_nil rfl rfl Tryz.underlying153) ?_
    (repeat ((conv => whnf); (first | refine tT ?_ | refine And.intro rfl ?_)))
    exact ⟨eN, rS, fiO⟩
  · rw [e]
    refine FnO.of1 (n := 8) [5] fax_ok Tryz.func105 rfl rfl rfl (by rfl) (by rfl) (by kernel_rfl) fun Γ hA hbA hbO => ?_
    skip
    refine gen_nil (t_eqnil_pr rfl rfl Tryz.underlying153) ?_
    (repeat ((conv => whnf); (first | refine tF ?_ | refine And.intro rfl ?_)))
    refine gen_one (t_append (e := 156) (k := 2) (b := 16) (l := []) (m := []) rfl (by kernel_rfl) rfl tle_pr (by decide)) rfl ?_
    skip
    exact ⟨eN, rS, fiO⟩
  · rw [e]
    have hl2 : m.length + 1 ≤ 1000 := by rw [e] at hlm; simp at hlm; omega
    refine FnO.of1 (n := 8) [5] fax_ok Tryz.func105 rfl rfl rfl (by rfl) (by rfl) (by kernel_rfl) fun Γ hA hbA hbO => ?_
    skip
    refine gen_nil (t_eqnil_cons rfl rfl Tryz.underlying153) ?_
    (repeat ((conv => whnf); (first | refine tF ?_ | refine And.intro rfl ?_ | refine lQ ?_)))
    exact ⟨eN, rS, fiO⟩
end Go.Proofs.YtddmcmkhjkleoaaGreatDoor
end

section
namespace Go.Proofs.YtddmcmkhjkleoaaGreatDoor
open Go.RowKit

abbrev R4 : List (Nat × Nat) := [(1000, 1000), (1001, 1001), (1002, 1002), (1003, 1003)]
set_option maxRecDepth 100000 in
set_option maxHeartbeats 8000000 in
theorem from_fn (f : FnR) (s : WkR) (hI : WkI f s) (hO : CodeOk f) (k : Nat) (hk : k < f.code.length) :
    FnO Tryz.prog 85 [.ref 1000 0, intT k] (wkO f s) (.tup []) (wkO f (fromM f k s)) := by
  have hc := hO.small
  have hw := hO.ways (f.code.getD k default) (by simp [List.getD, hk])
  have hx : (f.code.map inD)[k]? = some (inD (f.code.getD k default)) := by
    rw [List.getElem?_map, List.getElem?_eq_getElem hk, Option.map_some]
    simp [List.getD, hk]
  have hko : k < s.out.length := by rw [hI.out]; exact hk
  have hy : (s.out.map tryD)[k]? = some (tryD (s.out.getD k [])) := by
    rw [List.getElem?_map, List.getElem?_eq_getElem hko, Option.map_some]
    simp [List.getD, hko]
  have hl : (s.out.getD k []).length ≤ 20 := hI.short _ (by simp [List.getD, hko])
  have hom : (s.out.map tryD).length = s.out.length := List.length_map _
  unfold fromM
  dsimp only
  generalize f.code.getD k default = i at *
  generalize s.out.getD k [] = l at *
  have hlm : (l.map vaD).length = l.length := List.length_map _
  by_cases o1 : i.op = 28 ∨ i.op = 29
  · rw [if_pos o1]
    rcases o1 with o1 | o1
    · refine FnO.of0 (n := 75) [] fax_ok Tryz.func85 rfl rfl rfl (by rfl) (by rfl) (by kernel_rfl) fun Γ hA hbA hbO => ?_
      (repeat ((conv => whnf); (first | refine exR ?_ | refine tT ?_ | refine oB ?_ | refine And.intro rfl ?_ | refine exS _ (by assumption) rfl ?_ | refine exI _ rfl (by assumption) ?_ | refine exA _ rfl (by omega) ?_)))
      exact ⟨eN, rS, fiO⟩
    · refine FnO.of0 (n := 75) [] fax_ok Tryz.func85 rfl rfl rfl (by rfl) (by rfl) (by kernel_rfl) fun Γ hA hbA hbO => ?_
      (repeat ((conv => whnf); (first | refine exR ?_ | refine tT ?_ | refine tF ?_ | refine oB ?_ | refine And.intro rfl ?_ | refine exS _ (by assumption) rfl ?_ | refine exI _ rfl (by assumption) ?_ | refine exA _ rfl (by omega) ?_)))
      exact ⟨eN, rS, fiO⟩
  · rw [if_neg o1]
    have o1a : i.op ≠ 28 := fun e => o1 (.inl e)
    have o1b : i.op ≠ 29 := fun e => o1 (.inr e)
    by_cases o2 : i.op = 13 ∨ i.op = 14
    · rw [if_pos o2]
      obtain ⟨w1, w2⟩ := hw.1 o2
      obtain ⟨j, hj⟩ : ∃ j : Nat, i.a = j := ⟨i.a.toNat, by omega⟩
      have hC := come_fn f s hI hc i.a.toNat (by omega) l (by omega)
      rw [hj, Int.toNat_natCast] at hC
      rw [hj, Int.toNat_natCast]
      obtain ⟨op, a, b, c, line⟩ := i
      dsimp only at hj o1a o1b o2 hx
      subst hj
      rcases o2 with rfl | rfl
      · refine FnO.of0 (n := 75) [] fax_ok Tryz.func85 rfl rfl rfl (by rfl) (by rfl) (by kernel_rfl) fun Γ hA hbA hbO => ?_
        (repeat ((conv => whnf); (first | refine exR ?_ | refine gO R4 (enters_of Tryz.func84 rfl rfl) hC ?_ | refine tT ?_ | refine tF ?_ | refine oB ?_ | refine And.intro rfl ?_ | refine exS _ (by assumption) rfl ?_ | refine exI _ rfl (by assumption) ?_ | refine exA _ rfl (by omega) ?_)))
        exact ⟨eN, rS, fiO⟩
      · refine FnO.of0 (n := 75) [] fax_ok Tryz.func85 rfl rfl rfl (by rfl) (by rfl) (by kernel_rfl) fun Γ hA hbA hbO => ?_
        (repeat ((conv => whnf); (first | refine exR ?_ | refine gO R4 (enters_of Tryz.func84 rfl rfl) hC ?_ | refine tT ?_ | refine tF ?_ | refine oB ?_ | refine And.intro rfl ?_ | refine exS _ (by assumption) rfl ?_ | refine exI _ rfl (by assumption) ?_ | refine exA _ rfl (by omega) ?_)))
        exact ⟨eN, rS, fiO⟩
    · rw [if_neg o2]
      have o2a : i.op ≠ 13 := fun e => o2 (.inl e)
      have o2b : i.op ≠ 14 := fun e => o2 (.inr e)
      by_cases o3 : i.op = 15
      · rw [if_pos o3]
        obtain ⟨w1, w2⟩ := hw.2 (.inl o3)
        obtain ⟨j, hj⟩ : ∃ j : Nat, i.b = j := ⟨i.b.toNat, by omega⟩
        have hC := come_fn f s hI hc i.b.toNat (by omega) l (by omega)
        have hD := come_fn f _ (come_keep hI i.b.toNat l).1 hc (k + 1) (by omega) l (by omega)
        rw [hj, Int.toNat_natCast] at hC hD
        rw [hj, Int.toNat_natCast]
        obtain ⟨op, a, b, c, line⟩ := i
        dsimp only at hj o1a o1b o2a o2b o3 hx
        subst hj o3
        refine FnO.of0 (n := 75) [] fax_ok Tryz.func85 rfl rfl rfl (by rfl) (by rfl) (by kernel_rfl) fun Γ hA hbA hbO => ?_
        (repeat ((conv => whnf); (first | with_reducible refine exE _ (w_inc (by omega)) ?_ | refine exR ?_ | refine gO R4 (enters_of Tryz.func84 rfl rfl) hC ?_ | refine gO R4 (enters_of Tryz.func84 rfl rfl) hD ?_ | refine tT ?_ | refine tF ?_ | refine oB ?_ | refine And.intro rfl ?_ | refine exS _ (by assumption) rfl ?_ | refine exI _ rfl (by assumption) ?_ | refine exA _ rfl (by omega) ?_)))
        exact ⟨eN, rS, fiO⟩
      · rw [if_neg o3]
        by_cases o4 : i.op = 30
        · rw [if_pos o4]
          obtain ⟨w1, w2⟩ := hw.2 (.inr o4)
          obtain ⟨j, hj⟩ : ∃ j : Nat, i.b = j := ⟨i.b.toNat, by omega⟩
          have hC := come_fn f s hI hc i.b.toNat (by omega) l (by omega)
          have hD := come_fn f _ (come_keep hI i.b.toNat l).1 hc (k + 1) (by omega) (l ++ [(i.a, i.b)]) (by simp; omega)
          rw [show tryD (l ++ [(i.a, i.b)]) = .sl 2 (l.map vaD ++ [vaD (i.a, i.b)]) from by simp] at hD
          have hCl := cloneT_fn l (by omega)
          rw [hj, Int.toNat_natCast] at hC hD
          rw [hj, Int.toNat_natCast]
          obtain ⟨op, a, b, c, line⟩ := i
          dsimp only at hj o1a o1b o2a o2b o3 o4 hx hD
          subst hj o4
          refine FnO.of0 (n := 75) [49] fax_ok Tryz.func85 rfl rfl rfl (by rfl) (by rfl) (by kernel_rfl) fun Γ hA hbA hbO => ?_
          (repeat ((conv => whnf); (first | with_reducible refine exE _ (w_inc (by omega)) ?_ | refine exR ?_ | refine gO R4 (enters_of Tryz.func84 rfl rfl) hC ?_ | refine gO [(5,49)] (enters_of Tryz.func105 rfl rfl) hCl ?_ | refine gO R4 (enters_of Tryz.func84 rfl rfl) hD ?_ | refine tT ?_ | refine tF ?_ | refine oB ?_ | refine And.intro rfl ?_ | refine lQ ?_ | refine exS _ (by assumption) rfl ?_ | refine exI _ rfl (by assumption) ?_ | refine exA _ rfl (by omega) ?_)))
          exact ⟨eN, rS, fiO⟩
        · rw [if_neg o4]
          by_cases o5 : i.op = 31
          · rw [if_pos o5]
            by_cases hl0 : l = []
            · subst hl0
              rw [if_pos rfl]
              refine FnO.of0 (n := 75) [] fax_ok Tryz.func85 rfl rfl rfl (by rfl) (by rfl) (by kernel_rfl) fun Γ hA hbA hbO => ?_
              (repeat ((conv => whnf); (first | refine exR ?_ | refine tT ?_ | refine tF ?_ | refine oB ?_ | refine And.intro rfl ?_ | refine exS _ (by assumption) rfl ?_ | refine exI _ rfl (by assumption) ?_ | refine exA _ rfl (by omega) ?_)))
              exact ⟨eN, rS, fiO⟩
            · rw [if_neg hl0]
              have hlp : 0 < l.length := List.length_pos_iff.2 hl0
              have hD := come_fn f s hI hc (k + 1) (by omega) l.dropLast (by simp; omega)
              rw [show tryD l.dropLast = .sl 2 ((l.map vaD).take (l.length - 1)) from by simp [List.dropLast_eq_take]] at hD
              have ew : IntKind.i64.wrap (((l.map vaD).length : Int) - 1) = ((l.length - 1 : Nat) : Int) := by rw [hlm, wrap_in (by omega) (by omega)]; omega
              refine FnO.of0 (n := 75) [] fax_ok Tryz.func85 rfl rfl rfl (by rfl) (by rfl) (by kernel_rfl) fun Γ hA hbA hbO => ?_
              (repeat ((conv => whnf); (first | with_reducible refine exE (α := Int) _ (by assumption) ?_ | with_reducible refine exE _ (w_inc (by omega)) ?_ | refine exR ?_ | refine gO R4 (enters_of Tryz.func84 rfl rfl) hD ?_ | refine tT ?_ | refine tF ?_ | refine oB ?_ | refine And.intro rfl ?_ | refine exS _ (by assumption) rfl ?_ | refine exI _ rfl (by assumption) ?_ | refine exA _ rfl (by omega) ?_ | refine nA _ rfl ?_)))
              exact ⟨eN, rS, fiO⟩
          · rw [if_neg o5]
            have hD := come_fn f s hI hc (k + 1) (by omega) l (by omega)
            refine FnO.of0 (n := 75) [] fax_ok Tryz.func85 rfl rfl rfl (by rfl) (by rfl) (by kernel_rfl) fun Γ hA hbA hbO => ?_
            (repeat ((conv => whnf); (first | with_reducible refine exE _ (w_inc (by omega)) ?_ | refine exR ?_ | refine gO R4 (enters_of Tryz.func84 rfl rfl) hD ?_ | refine tF ?_ | refine oB ?_ | refine And.intro rfl ?_ | refine exS _ (by assumption) rfl ?_ | refine exI _ rfl (by assumption) ?_ | refine exA _ rfl (by omega) ?_)))
            exact ⟨eN, rS, fiO⟩
end Go.Proofs.YtddmcmkhjkleoaaGreatDoor
end

section
namespace Go.Proofs.YtddmcmkhjkleoaaGreatDoor
open Go.RowKit

abbrev wkY (f : FnR) (seen out todo : List D) (bad : Bool) (ver : Nat) : Ob :=
  [(17, .cells 135 [intT f.params, intT f.regs, boolT f.gen, .d (isD f.caught), .d (codeD f.code), .stk 11 0 .all, .stk 15 0 .all, .stk 16 ver .all, boolT bad]),
   (11, .stk 4 1 0 seen), (15, .stk 153 1 0 out), (16, .stk 3 1 ver todo)]
abbrev R5 : List (Nat × Nat) := [(1000, 17), (1001, 11), (1002, 15), (1003, 16)]
set_option maxRecDepth 100000 in
set_option maxHeartbeats 8000000 in
theorem tries_fn (f : FnR) (hO : CodeOk f) : FnD Tryz.prog 54 [.d (fnD f)] (.tup [.d (.sl 1 ((triesM f).out.map tryD)), .d (.sl 1 ((triesM f).seen.map bD)), boolT (!(triesM f).bad)]) := by
  have hc := hO.small
  have hcm : (f.code.map inD).length = f.code.length := List.length_map _
  have hS := start_keep (f := f)
  obtain ⟨hS1, hS2⟩ := come_keep hS 0 []
  have hC := come_fn f _ hS hc 0 (by omega) [] (by simp)
  rw [show wkO f ⟨List.replicate f.code.length false, List.replicate f.code.length [], [], false, 0⟩ = wkX f (List.replicate (f.code.map inD).length (bD false)) (List.replicate (f.code.map inD).length (tryD [])) [] false 0 from by
    rw [hcm]; simp only [wkO, wkX, List.map_replicate, List.map_nil]] at hC
  have hfew : unseen (comeM f 0 [] ⟨List.replicate f.code.length false, List.replicate f.code.length [], [], false, 0⟩).seen + (comeM f 0 [] ⟨List.replicate f.code.length false, List.replicate f.code.length [], [], false, 0⟩).todo.length < 2 * f.code.length + 2 := by
    have := hS1.few; omega
  have hR : triesL f (2 * f.code.length + 2) (comeM f 0 [] ⟨List.replicate f.code.length false, List.replicate f.code.length [], [], false, 0⟩) = triesM f := rfl
  generalize triesM f = R at *
  generalize comeM f 0 [] ⟨List.replicate f.code.length false, List.replicate f.code.length [], [], false, 0⟩ = s1 at *
  clear hS hS2
  refine FnD.ofT (n := 75) [2011, 2015, 2016, 4002, 4003] fax_ok Tryz.func54 rfl rfl rfl (by rfl) (by kernel_rfl) (by intro _; rfl) fun Γ hA hbA => ?_
  (repeat ((conv => whnf); (first | refine And.intro rfl ?_ | refine mK _ rfl rfl ?_)))
  (conv => whnf)
  refine ⟨3, 1, ?_⟩
  (repeat ((conv => whnf); (first | refine gO R5 (enters_of Tryz.func84 rfl rfl) hC ?_ | refine oB ?_ | refine And.intro rfl ?_)))
  refine ev_loop [2011, 2015, 2016, 4002, 4003] fax_ok hA (by kernel_rfl) (fun i : Nat × WkR => WkI f i.2 ∧ unseen i.2.seen + i.2.todo.length < i.1 ∧ triesL f i.1 i.2 = R) (fun _ => [(5, .ref 17 0)]) (fun i => wkY f (i.2.seen.map bD) (i.2.out.map tryD) (i.2.todo.map nD) i.2.bad i.2.ver) (fun i => i.1) (2 * f.code.length + 2, s1) ⟨hS1, hfew, hR⟩ fiE fiO ?_
  clear hC hS1 hfew hR
  rintro ⟨n, s⟩ ⟨hI, hfew, hR⟩ - -
  dsimp only at hI hfew hR ⊢
  cases n with
  | zero => omega
  | succ n =>
    rw [triesL] at hR
    have htm : (s.todo.map nD).length = s.todo.length := List.length_map _
    by_cases hend : s.todo = [] ∨ s.bad = true
    · rw [if_pos hend] at hR
      subst hR
      by_cases h0 : s.todo = []
      · have h1 : s.todo.length = 0 := by rw [h0]; rfl
        (repeat ((conv => whnf); (first | refine exR ?_ | refine tF ?_ | refine oB ?_ | refine And.intro rfl ?_)))
        exact ⟨eN, rS, fiO⟩
      · have h1 : s.bad = true := hend.resolve_left h0
        have h2 : 0 < s.todo.length := List.length_pos_iff.2 h0
        obtain ⟨seen, out, todo, bad, ver⟩ := s
        dsimp only at h1 h2 htm ⊢
        subst h1
        (repeat ((conv => whnf); (first | refine exR ?_ | refine tT ?_ | refine tF ?_ | refine oB ?_ | refine And.intro rfl ?_)))
        exact ⟨eN, rS, fiO⟩
    · rw [if_neg hend] at hR
      have h0 : s.todo ≠ [] := fun e => hend (.inl e)
      have h1 : s.bad = false := by
        cases h : s.bad with
        | true => exact absurd (.inr h) hend
        | false => rfl
      have h2 : 0 < s.todo.length := List.length_pos_iff.2 h0
      obtain ⟨p1, p2⟩ := pop_keep hI h0
      have hk : s.todo.getD (s.todo.length - 1) 0 < f.code.length := hI.todo _ (by simp [List.getD, show s.todo.length - 1 < s.todo.length by omega])
      have hx : (s.todo.map nD)[s.todo.length - 1]? = some (nD (s.todo.getD (s.todo.length - 1) 0)) := by
        rw [List.getElem?_map, List.getElem?_eq_getElem (by omega), Option.map_some]
        simp [List.getD, show s.todo.length - 1 < s.todo.length by omega]
      have hF := from_fn f (popM s) p1 hO _ hk
      obtain ⟨q1, q2⟩ := from_keep p1 (s.todo.getD (s.todo.length - 1) 0)
      rw [show wkO f (popM s) = wkX f (s.seen.map bD) (s.out.map tryD) ((s.todo.map nD).take (s.todo.length - 1)) false (s.ver + 1) from by
        simp only [wkO, wkX, popM, List.map_take, h1]] at hF
      have ew : IntKind.i64.wrap (((s.todo.map nD).length : Int) - 1) = ((s.todo.length - 1 : Nat) : Int) := by
        have := hI.few
        rw [htm, wrap_in (by omega) (by omega)]; omega
      have hfw := hI.few
      rw [h1]
      generalize s.todo.getD (s.todo.length - 1) 0 = k at *
      generalize hT : fromM f k (popM s) = s2 at *
      (repeat ((conv => whnf); (first | with_reducible refine exE (α := Int) _ (by assumption) ?_ | refine exR ?_ | refine gO R5 (enters_of Tryz.func85 rfl rfl) hF ?_ | refine tT ?_ | refine oB ?_ | refine And.intro rfl ?_ | refine exS _ (by assumption) rfl ?_ | refine exA _ rfl (by omega) ?_ | refine nA _ rfl ?_)))
      exact ⟨(n, s2), ⟨q1, by dsimp only; omega, hR⟩, by dsimp only; omega, fiE, fiO⟩
end Go.Proofs.YtddmcmkhjkleoaaGreatDoor
end

section
namespace Go.Proofs.YtddmcmkhjkleoaaGreatDoor
open Go.RowKit

/-! Values -/
section
variable {P : Program} {o : Oper} {σ : Nat → T}
theorem t_extern {f : FuncId} {x : Operand} {ts : Array TypeId} {v r : Value} (ho : o.op = .call { callee := .value (.func f), args := #[x], argTypes := ts }) (hx : opT σ x = .d (.v v)) (hE : ∀ w, (callFunc f #[v]).run P w = .ok (.value r) w) (hr : r.oneCell' = true) : Tri P o σ [] (.d (.v r)) [] :=
  .val fun _ g _ a w hrp _ _ => ⟨r, by
    have e1 := hrp x (by rw [ho]; simp [Op.operands, Call.operands])
    rw [hx] at e1
    have e0 : a.eval (.func f) = .func (.func f) #[] #[] := rfl
    unfold execOp; rw [ho]
    simp [resolve, Deferred.ofValue, invoke, e0, inv_v e1, hE], rep_v hr⟩
theorem t_feq {t u : TypeId} {x y : Operand} {k : FloatKind} {a b : Nat} (ho : o.op = .binOp .eql t x y u) (hx : opT σ x = .d (.v (.float k a))) (hy : opT σ y = .d (.v (.float k b))) : Tri P o σ [] (boolT (Op.floatEq k a b)) [] :=
  .val fun _ g _ ac w hrp _ _ => ⟨.bool (Op.floatEq k a b), by
    have e1 := hrp x (by rw [ho]; simp [Op.operands])
    have e2 := hrp y (by rw [ho]; simp [Op.operands])
    rw [hx] at e1
    rw [hy] at e2
    unfold execOp; rw [ho]
    simp only [inv_v e1, inv_v e2]
    simp [eqGuard, binOp, Op.floatCmp, Op.floatEq], rep_v rfl⟩
end
theorem bits_run (n : Int) (w : World) : (callFunc 99 #[.int .u64 n]).run Tryz.prog w = .ok (.value (.float .f64 n.toNat)) w :=
  (run_callFunc_extern (e := Extern.MathFloatBits.float64frombits) Tryz.func99 rfl rfl (by rfl) (by rfl) #[.int .u64 n] w).trans rfl
set_option maxRecDepth 100000 in
theorem float_fn (k n : Int) : FnD Tryz.prog 78 [.d (vaD (k, n))] (.d (.v (.float .f64 (IntKind.u64.wrap n).toNat))) := by
  refine FnD.of1 (n := 7) [] fax_ok Tryz.func78 rfl rfl rfl (by rfl) (by kernel_rfl) (by intro _; rfl) fun Γ hA hbA => ?_
  (repeat ((conv => whnf); (first | refine exR ?_ | refine And.intro rfl ?_)))
  refine gen_nil (t_extern rfl rfl (bits_run _) rfl) ?_
  skip
  exact ⟨eN, rS, fiO⟩
set_option maxRecDepth 100000 in
set_option maxHeartbeats 4000000 in
theorem right_fn (k n : Int) : FnD Tryz.prog 51 [.d (vaD (k, n))] (boolT (rightM k n)) := by
  unfold rightM
  by_cases k0 : k = 0
  · subst k0
    rw [if_pos rfl]
    refine FnD.of1 (n := 43) [] fax_ok Tryz.func51 rfl rfl rfl (by rfl) (by kernel_rfl) (by intro _; rfl) fun Γ hA hbA => ?_
    (repeat ((conv => whnf); (first | refine exR ?_ | refine tT ?_ | refine And.intro rfl ?_)))
    exact ⟨eN, rS, fiO⟩
  · rw [if_neg k0]
    by_cases k1 : k = 1
    · subst k1
      rw [if_pos rfl]
      refine FnD.of1 (n := 43) [] fax_ok Tryz.func51 rfl rfl rfl (by rfl) (by kernel_rfl) (by intro _; rfl) fun Γ hA hbA => ?_
      (repeat ((conv => whnf); (first | refine exR ?_ | refine gd (enters_of Tryz.func77 rfl rfl) (owithin_fn n 0 1) ?_ | refine tT ?_ | refine tF ?_ | refine And.intro rfl ?_)))
      exact ⟨eN, rS, fiO⟩
    · rw [if_neg k1]
      by_cases k2 : k = 2
      · subst k2
        rw [if_pos rfl]
        refine FnD.of1 (n := 43) [] fax_ok Tryz.func51 rfl rfl rfl (by rfl) (by kernel_rfl) (by intro _; rfl) fun Γ hA hbA => ?_
        (repeat ((conv => whnf); (first | refine exR ?_ | refine gd (enters_of Tryz.func77 rfl rfl) (owithin_fn n (-2147483648) 2147483647) ?_ | refine tT ?_ | refine tF ?_ | refine And.intro rfl ?_)))
        exact ⟨eN, rS, fiO⟩
      · rw [if_neg k2]
        by_cases k3 : k = 3
        · subst k3
          rw [if_pos rfl]
          have hF := float_fn 3 n
          cases hb : isNum n with
          | true =>
            have hb2 : Op.floatEq .f64 (IntKind.u64.wrap n).toNat (IntKind.u64.wrap n).toNat = true := hb
            rw [Bool.true_or]
            refine FnD.of1 (n := 43) [] fax_ok Tryz.func51 rfl rfl rfl (by rfl) (by kernel_rfl) (by intro _; rfl) fun Γ hA hbA => ?_
            (repeat ((conv => whnf); (first | refine exR ?_ | refine gd (enters_of Tryz.func78 rfl rfl) hF ?_ | refine tT ?_ | refine tF ?_ | refine And.intro rfl ?_)))
            refine gen_nil (t_feq rfl rfl rfl) ?_
            rw [hb2]
            (repeat ((conv => whnf); (first | refine tT ?_ | refine uF ?_ | refine oB ?_)))
            exact ⟨eN, rS, fiO⟩
          | false =>
            have hb2 : Op.floatEq .f64 (IntKind.u64.wrap n).toNat (IntKind.u64.wrap n).toNat = false := hb
            rw [Bool.false_or]
            refine FnD.of1 (n := 43) [] fax_ok Tryz.func51 rfl rfl rfl (by rfl) (by kernel_rfl) (by intro _; rfl) fun Γ hA hbA => ?_
            (repeat ((conv => whnf); (first | refine exR ?_ | refine gd (enters_of Tryz.func78 rfl rfl) hF ?_ | refine tT ?_ | refine tF ?_ | refine And.intro rfl ?_)))
            refine gen_nil (t_feq rfl rfl rfl) ?_
            rw [hb2]
            (repeat ((conv => whnf); (first | refine exR ?_ | refine tF ?_ | refine uT ?_ | refine oB ?_)))
            exact ⟨eN, rS, fiO⟩
        · rw [if_neg k3]
          by_cases k4 : k = 4 ∨ k = 5
          · rw [if_pos k4]
            rcases k4 with rfl | rfl
            · refine FnD.of1 (n := 43) [] fax_ok Tryz.func51 rfl rfl rfl (by rfl) (by kernel_rfl) (by intro _; rfl) fun Γ hA hbA => ?_
              (repeat ((conv => whnf); (first | refine exR ?_ | refine tT ?_ | refine tF ?_ | refine And.intro rfl ?_)))
              exact ⟨eN, rS, fiO⟩
            · refine FnD.of1 (n := 43) [] fax_ok Tryz.func51 rfl rfl rfl (by rfl) (by kernel_rfl) (by intro _; rfl) fun Γ hA hbA => ?_
              (repeat ((conv => whnf); (first | refine exR ?_ | refine tT ?_ | refine tF ?_ | refine And.intro rfl ?_)))
              exact ⟨eN, rS, fiO⟩
          · rw [if_neg k4]
            have k5 : k ≠ 4 := fun e => k4 (.inl e)
            have k6 : k ≠ 5 := fun e => k4 (.inr e)
            by_cases k7 : k = 6
            · subst k7
              rw [if_pos rfl]
              refine FnD.of1 (n := 43) [] fax_ok Tryz.func51 rfl rfl rfl (by rfl) (by kernel_rfl) (by intro _; rfl) fun Γ hA hbA => ?_
              (repeat ((conv => whnf); (first | refine exR ?_ | refine gd (enters_of Tryz.func77 rfl rfl) (owithin_fn n 0 15) ?_ | refine tT ?_ | refine tF ?_ | refine And.intro rfl ?_)))
              exact ⟨eN, rS, fiO⟩
            · rw [if_neg k7]
              refine FnD.of1 (n := 43) [] fax_ok Tryz.func51 rfl rfl rfl (by rfl) (by kernel_rfl) (by intro _; rfl) fun Γ hA hbA => ?_
              (repeat ((conv => whnf); (first | refine exR ?_ | refine tF ?_ | refine And.intro rfl ?_)))
              exact ⟨eN, rS, fiO⟩
end Go.Proofs.YtddmcmkhjkleoaaGreatDoor
end

section
namespace Go.Proofs.YtddmcmkhjkleoaaGreatDoor
open Go.RowKit

theorem flarge_fn (f : FnR) : FnD Tryz.prog 47 [.d (fnD f)] (boolT (decide (600 < f.code.length) || decide (60 < f.regs))) := by
  have hcm : (f.code.map inD).length = f.code.length := List.length_map _
  by_cases h : 600 < f.code.length
  · rw [decide_eq_true h, Bool.true_or]
    refine FnD.of1 (n := 12) [] fax_ok Tryz.func47 rfl rfl rfl (by rfl) (by kernel_rfl) (by intro _; rfl) fun Γ hA hbA => ?_
    (repeat ((conv => whnf); (first | refine exR ?_ | refine tT ?_ | refine uF ?_ | refine And.intro rfl ?_)))
    exact ⟨eN, rS, fiO⟩
  · rw [decide_eq_false h, Bool.false_or]
    refine FnD.of1 (n := 12) [] fax_ok Tryz.func47 rfl rfl rfl (by rfl) (by kernel_rfl) (by intro _; rfl) fun Γ hA hbA => ?_
    (repeat ((conv => whnf); (first | refine exR ?_ | refine tF ?_ | refine uT ?_ | refine And.intro rfl ?_)))
    exact ⟨eN, rS, fiO⟩
theorem tlarge_fn (t : List UInt8) : FnD Tryz.prog 46 [strT t] (boolT (decide (200 < t.length))) := by
  by_cases h : 200 < t.length
  · rw [decide_eq_true h]
    refine FnD.of1 (n := 6) [] fax_ok Tryz.func46 rfl rfl rfl (by rfl) (by kernel_rfl) (by intro _; rfl) fun Γ hA hbA => ?_
    (repeat ((conv => whnf); refine exR ?_))
    refine ⟨.inl rfl, RsE.tmp (TLe.bool rfl (decide_eq_true (by omega))) RsE.nil, FitO.nil⟩
  · rw [decide_eq_false h]
    refine FnD.of1 (n := 6) [] fax_ok Tryz.func46 rfl rfl rfl (by rfl) (by kernel_rfl) (by intro _; rfl) fun Γ hA hbA => ?_
    (repeat ((conv => whnf); refine exR ?_))
    refine ⟨.inl rfl, RsE.tmp (TLe.bool rfl (decide_eq_false (by omega))) RsE.nil, FitO.nil⟩
set_option maxRecDepth 100000 in
set_option maxHeartbeats 4000000 in
theorem large_fn (p : PrR) : FnD Tryz.prog 24 [.d (prD p)] (boolT (largeM p)) := by
  have h1 : (p.fns.map fnD).length = p.fns.length := List.length_map _
  have h2 : (p.consts.map vaD).length = p.consts.length := List.length_map _
  have h3 : (p.texts.map strD).length = p.texts.length := List.length_map _
  have hT := containsS_fn 46 [] (enters_of Tryz.func46 rfl rfl) (fun t => decide (200 < t.length)) p.texts fun t _ => tlarge_fn t
  have hF := containsF_fn 47 [] (enters_of Tryz.func47 rfl rfl) (fun f => decide (600 < f.code.length) || decide (60 < f.regs)) p.fns fun f _ => flarge_fn f
  unfold largeM
  by_cases c1 : 60 < p.fns.length
  · rw [decide_eq_true c1]
    simp only [Bool.true_or]
    refine FnD.of1 (n := 29) [] fax_ok Tryz.func24 rfl rfl rfl (by rfl) (by kernel_rfl) (by intro _; rfl) fun Γ hA hbA => ?_
    (repeat ((conv => whnf); (first | refine exR ?_ | refine tT ?_ | refine uF ?_ | refine And.intro rfl ?_)))
    exact ⟨eN, rS, fiO⟩
  · rw [decide_eq_false c1]
    by_cases c2 : 200 < p.consts.length
    · rw [decide_eq_true c2]
      simp only [Bool.true_or, Bool.or_true]
      refine FnD.of1 (n := 29) [] fax_ok Tryz.func24 rfl rfl rfl (by rfl) (by kernel_rfl) (by intro _; rfl) fun Γ hA hbA => ?_
      (repeat ((conv => whnf); (first | refine exR ?_ | refine tT ?_ | refine tF ?_ | refine uT ?_ | refine uF ?_ | refine And.intro rfl ?_)))
      exact ⟨eN, rS, fiO⟩
    · rw [decide_eq_false c2]
      by_cases c3 : 200 < p.texts.length
      · rw [decide_eq_true c3]
        simp only [Bool.true_or, Bool.or_true]
        refine FnD.of1 (n := 29) [] fax_ok Tryz.func24 rfl rfl rfl (by rfl) (by kernel_rfl) (by intro _; rfl) fun Γ hA hbA => ?_
        (repeat ((conv => whnf); (first | refine exR ?_ | refine tT ?_ | refine tF ?_ | refine uT ?_ | refine uF ?_ | refine And.intro rfl ?_)))
        exact ⟨eN, rS, fiO⟩
      · rw [decide_eq_false c3]
        simp only [Bool.false_or]
        generalize p.texts.any (fun t => decide (200 < t.length)) = b at *
        generalize (p.fns.any fun f => decide (600 < f.code.length) || decide (60 < f.regs)) = c at *
        cases b with
        | true =>
          refine FnD.of1 (n := 29) [] fax_ok Tryz.func24 rfl rfl rfl (by rfl) (by kernel_rfl) (by intro _; rfl) fun Γ hA hbA => ?_
          (repeat ((conv => whnf); (first | refine exR ?_ | refine gd (enters_of Tryz.func45 rfl rfl) hT ?_ | refine tT ?_ | refine tF ?_ | refine uT ?_ | refine uF ?_ | refine And.intro rfl ?_)))
          exact ⟨eN, rS, fiO⟩
        | false =>
          refine FnD.of1 (n := 29) [] fax_ok Tryz.func24 rfl rfl rfl (by rfl) (by kernel_rfl) (by intro _; rfl) fun Γ hA hbA => ?_
          (repeat ((conv => whnf); (first | refine exR ?_ | refine gd (enters_of Tryz.func45 rfl rfl) hT ?_ | refine gd (enters_of Tryz.func26 rfl rfl) hF ?_ | refine tF ?_ | refine uT ?_ | refine And.intro rfl ?_)))
          exact ⟨eN, rS, fiO⟩
/-! Functions -/
set_option maxRecDepth 100000 in
set_option maxHeartbeats 4000000 in
theorem function_fn (p : PrR) (f : FnR) (hf : p.fns.length ≤ 60) (hk : p.consts.length ≤ 200) (ht : p.texts.length ≤ 200) (hc : f.code.length ≤ 600) (hg : f.caught.length ≤ 1000000000000) (hr : f.regs ≤ 60) :
    FnD Tryz.prog 28 [.d (prD p), .d (fnD f)] (boolT (functionM p f)) := by
  have hcm : (f.code.map inD).length = f.code.length := List.length_map _
  unfold functionM
  by_cases c1 : f.params < 0
  · rw [if_pos (.inl c1)]
    refine FnD.of1 (n := 50) [] fax_ok Tryz.func28 rfl rfl rfl (by rfl) (by kernel_rfl) (by intro _; rfl) fun Γ hA hbA => ?_
    (repeat ((conv => whnf); (first | refine exR ?_ | refine tT ?_ | refine uF ?_ | refine And.intro rfl ?_)))
    exact ⟨eN, rS, fiO⟩
  · by_cases c2 : f.regs < 1
    · rw [if_pos (.inr (.inl c2))]
      refine FnD.of1 (n := 50) [] fax_ok Tryz.func28 rfl rfl rfl (by rfl) (by kernel_rfl) (by intro _; rfl) fun Γ hA hbA => ?_
      (repeat ((conv => whnf); (first | refine exR ?_ | refine tT ?_ | refine tF ?_ | refine uT ?_ | refine uF ?_ | refine And.intro rfl ?_)))
      exact ⟨eN, rS, fiO⟩
    · by_cases c3 : f.regs < f.params
      · rw [if_pos (.inr (.inr c3))]
        refine FnD.of1 (n := 50) [] fax_ok Tryz.func28 rfl rfl rfl (by rfl) (by kernel_rfl) (by intro _; rfl) fun Γ hA hbA => ?_
        (repeat ((conv => whnf); (first | refine exR ?_ | refine tT ?_ | refine tF ?_ | refine uT ?_ | refine And.intro rfl ?_)))
        exact ⟨eN, rS, fiO⟩
      · rw [if_neg (by rintro (h | h | h) <;> contradiction)]
        have hB : LkB p f := ⟨hf, hk, ht, hc, hg, by omega, hr⟩
        refine FnD.of1 (n := 50) [] fax_ok Tryz.func28 rfl rfl rfl (by rfl) (by kernel_rfl) (by intro _; rfl) fun Γ hA hbA => ?_
        (repeat ((conv => whnf); (first | refine exR ?_ | refine tF ?_ | refine uT ?_ | refine And.intro rfl ?_)))
        refine ev_loop [] fax_ok hA (by kernel_rfl) (fun i : Nat => i ≤ f.code.length ∧ ordersM p f (f.code.drop i) i = ordersM p f f.code 0 ∧ ∀ j, j < i → ∀ x, f.code[j]? = some x → ∃ k, orderM p f k x = true) (fun i => [(2, .ref 2 0), (3, .ref 3 0), (5, .ref 5 0), (30, .d (codeD f.code)), (31, intT (f.code.map inD).length), (32, intT i)])
          (fun _ => [(2, .cells 26 [.d (fnsD p.fns), .d (vasD p.consts), .d (txD p.texts)]), (3, .cells 39 [intT f.params, intT f.regs, boolT f.gen, .d (isD f.caught), .d (codeD f.code)]), (5, .cells 100 [.d (fnsD p.fns), .d (vasD p.consts), .d (txD p.texts), intT f.params, intT f.regs, boolT f.gen, .d (isD f.caught), .d (codeD f.code)])]) (fun i => f.code.length - i) 0 ⟨Nat.zero_le _, rfl, fun j hj => absurd hj (Nat.not_lt_zero j)⟩ fiE fiO ?_
        rintro i ⟨hi, hord, hall⟩ - -
        by_cases h : i < f.code.length
        · have hx : (f.code.map inD)[i]? = some (inD f.code[i]) := by rw [List.getElem?_map, List.getElem?_eq_getElem h, Option.map_some]
          have hO := order_fn p f hB i f.code[i]
          have hxi : f.code[i]? = some f.code[i] := List.getElem?_eq_getElem h
          rw [List.drop_eq_getElem_cons h, ordersM] at hord
          generalize f.code[i] = x at *
          cases hb : orderM p f i x with
          | true =>
            rw [hb] at hO hord
            rw [if_pos rfl] at hord
            (repeat ((conv => whnf); (first | with_reducible refine exE _ (w_inc (by omega)) ?_ | refine exR ?_ | refine gd (enters_of Tryz.func53 rfl rfl) hO ?_ | refine tT ?_ | refine tF ?_ | refine And.intro rfl ?_ | refine exI _ rfl (by assumption) ?_)))
            refine ⟨i + 1, ⟨by omega, hord, fun j hj y hy => ?_⟩, by omega, fiE, fiO⟩
            rcases Nat.lt_succ_iff_lt_or_eq.1 hj with h3 | rfl
            · exact hall j h3 y hy
            · rw [hxi] at hy; cases hy; exact ⟨_, hb⟩
          | false =>
            rw [hb] at hO hord
            rw [if_neg (by decide)] at hord
            rw [← hord, if_neg (by decide)]
            (repeat ((conv => whnf); (first | refine exR ?_ | refine gd (enters_of Tryz.func53 rfl rfl) hO ?_ | refine tT ?_ | refine And.intro rfl ?_ | refine exI _ rfl (by assumption) ?_)))
            exact ⟨eN, rS, fiO⟩
        · obtain rfl : i = f.code.length := by omega
          rw [List.drop_length] at hord
          replace hord : true = ordersM p f f.code 0 := hord
          rw [← hord, if_pos rfl]
          have hO : CodeOk f := ⟨hc, fun x hx => by
            obtain ⟨j, hj, e⟩ := List.getElem_of_mem hx
            obtain ⟨k, hk⟩ := hall j hj x (by rw [List.getElem?_eq_getElem hj, e])
            exact order_ways hk⟩
          have hT := tries_fn f hO
          (repeat ((conv => whnf); (first | refine exR ?_ | refine gd (enters_of Tryz.func54 rfl rfl) hT ?_ | refine tF ?_)))
          exact ⟨eN, rS, fiO⟩
end Go.Proofs.YtddmcmkhjkleoaaGreatDoor
end

section
namespace Go.Proofs.YtddmcmkhjkleoaaGreatDoor
open Go.RowKit

/-- Block B of W holds the cells cs. -/
def Blk (W : World) (B : Nat) (cs : Array Value) (t : TypeId) : Prop := W.heap[B]? = some (.cells cs t (0, 0))
section
variable {W W' : World} {B : Nat} {cs : Array Value} {t : TypeId}
theorem Blk.lt (h : Blk W B cs t) : B < W.heap.size := (Array.getElem?_eq_some_iff.1 h).1
theorem Blk.cell (h : Blk W B cs t) (k : Nat) : W.cell? ⟨B, k, none⟩ = cs[k]? := by
  unfold World.cell?
  dsimp only
  rw [show W.heap[B]? = _ from h]
  rfl
theorem Blk.frozen (h : Blk W B cs t) (k : Nat) : W.frozen? ⟨B, k, none⟩ = false := by simp [World.frozen?, show W.heap[B]? = _ from h]
theorem Blk.mk_ (W : World) (cs : Array Value) (t : TypeId) (h : W.heap.size = B) : Blk (W.alloc (.cells cs t)) B cs t := by
  subst h
  exact World.alloc_heap_new W _
theorem Blk.alloc (h : Blk W B cs t) (o : Obj) : Blk (W.alloc o) B cs t := (Below.heap_alloc W o B h.lt).trans h
theorem Blk.drew (h : Blk W B cs t) : Blk W.drew B cs t := h
theorem Blk.below (h : Blk W B cs t) {n : Nat} (hw : Below n W W') (hb : B < n) : Blk W' B cs t := (hw.block B hb).trans h
theorem Blk.next (h : Blk W B cs t) (hw : Below W.heap.size W W') : Blk W' B cs t := h.below hw h.lt
theorem Blk.own {β : Type} (f : β → Array Value) : Own (fun s W => Blk W B (f s) t) := fun s X Y row hs hg hrow => by
  have hs' : X.heap[B]? = some (.cells (f s) t (0, 0)) := hs
  refine (hg.block B (Array.getElem?_eq_some_iff.1 hs').1 fun e' => ?_).trans hs'
  obtain ⟨o, ho, hc⟩ := hrow B e'.symm
  rw [hs'] at ho
  cases ho
  cases hc
theorem Blk.set (h : Blk W B cs t) (k : Nat) (v : Value) : Blk (W.setCell ⟨B, k, none⟩ v) B (cs.setIfInBounds k v) t := by
  obtain ⟨hlt, hk⟩ := Array.getElem?_eq_some_iff.1 h
  show (W.heap.modify B _)[B]? = _
  rw [Array.getElem?_eq_getElem (by rw [Array.size_modify]; exact hlt), Array.getElem_modify_self, hk]
  rfl
theorem Blk.other (h : Blk W B cs t) {C k : Nat} (v : Value) (hne : C ≠ B) : Blk (W.setCell ⟨C, k, none⟩ v) B cs t := by
  obtain ⟨hlt, hk⟩ := Array.getElem?_eq_some_iff.1 h
  show (W.heap.modify C _)[B]? = _
  rw [Array.getElem?_eq_getElem (by rw [Array.size_modify]; exact hlt), Array.getElem_modify_of_ne hne, hk]
end
theorem keeps_of_below {W W' : World} (h : Below W.heap.size W W') (B : Nat) : KeepsFrom B W W' :=
  ⟨h.size, fun k _ _ hk _ => (h.block k (Array.getElem?_eq_some_iff.1 hk).1).trans hk⟩
end Go.Proofs.YtddmcmkhjkleoaaGreatDoor
end

section
namespace Go.Proofs.YtddmcmkhjkleoaaGreatDoor
open Go.RowKit

theorem ascii_tab {w : World} (h : TabsIn w) : Lib.TabIs Tryz.prog w "strings.asciiSpace" .u8 Lib.asciiSpaceTab := by
  obtain ⟨cs, t, fr, rfl, h1⟩ := h (0, (· = asciiV)) (by unfold tabs; simp)
  unfold Lib.TabIs World.var?
  rw [show Tryz.prog.globalNamed "strings.asciiSpace" = some 0 from by kernel_rfl]
  simp only [Option.bind_some, h1]
  kernel_rfl
abbrev ssD (l : List (List UInt8)) : D := .sl 1 (l.map strD)
theorem rep_ss (S : Sm) : ∀ l : List (List UInt8), RepLv S 1 (l.map strD) (l.map fun x => Value.string ⟨x.toArray⟩)
  | [] => .nil
  | x :: l => by
    show RepLv S 1 (strD x :: l.map strD) ([Value.string ⟨x.toArray⟩] ++ l.map fun x => Value.string ⟨x.toArray⟩)
    exact .cons (.cons (.v rfl) rfl .nil) rfl (rep_ss S l)
theorem fields_fn (s : List UInt8) (hs : s.length < 4294967281) (ha : ∀ b ∈ s, b.toNat < 128) (hb : (Lib.fields s).length ≤ 9223372036854775807) : FnD Tryz.prog 29 [strT s] (.d (ssD (Lib.fields s))) := by
  intro w g vs ht hi hr
  cases hr with
  | cons r0 hr =>
  cases hr
  obtain rfl := inv_v r0
  have hc := Any.strings_Fields_laid Tryz.fields ⟨s.toArray⟩ w (by rw [str_size]; exact hs) (fun j b hj => ha b (List.mem_of_getElem? hj)) (ascii_tab ht)
  change Calls Tryz.prog 29 _ _ _ at hc
  refine hc.mono ?_
  rintro e w' ⟨rfl, rfl⟩
  have hB : Below w.heap.size w (w.alloc (.cells ((Lib.fields s).map fun l => Value.string ⟨l.toArray⟩).toArray 9)) := (Below.refl _ w).alloc (Nat.le_refl _) _
  have hk := Blk.mk_ w ((Lib.fields s).map fun l => Value.string ⟨l.toArray⟩).toArray 9 rfl
  refine ⟨_, behS g.S w _, rfl, behS_le _ hi, behS_old, behS_imm hi hB, .d (rep_new (p := some ⟨w.heap.size, 0, none⟩) (n := (Lib.fields s).length) (cap := (Lib.fields s).length) (xs := (Lib.fields s).map fun l => Value.string ⟨l.toArray⟩) ?_ ?_ (by rw [List.length_map]) fun S => rep_ss S _), hB⟩
  · refine ⟨⟨w.heap.size, 0, fun _ => ⟨rfl, by simp⟩, fun i hi => ?_⟩, by simp, Nat.le_refl _, hb, fun h => by cases h⟩
    rw [Nat.zero_add]
    refine Eq.trans (hk.cell i) ?_
    simp
  · rintro a ⟨rfl⟩
    exact Nat.le_refl _
theorem words_fn : FnD Tryz.prog 12 [] (.d (txD opsL)) := by
  have hF : FnD Tryz.prog 29 [strT opsT] (.d (txD opsL)) := fields_fn opsT (by decide +kernel) (by decide +kernel) (by decide +kernel)
  generalize opsL = L at *
  refine FnD.of1 (n := 2) [] fax_ok Tryz.func12 rfl rfl rfl (by rfl) (by kernel_rfl) (by intro _; rfl) fun Γ hA hbA => ?_
  (repeat ((conv => whnf); refine gd (enters_of Tryz.func29 rfl rfl) hF ?_))
  exact ⟨eN, rS, fiO⟩
/-! Tables -/
set_option maxRecDepth 100000 in
set_option maxHeartbeats 1000000 in
theorem equalS_fn (a b : List (List UInt8)) (r : Bool) (hr : decide (a = b) = r) : FnD Tryz.prog 48 [.d (txD a), .d (txD b)] (boolT r) := by
  have hma : (a.map strD).length = a.length := List.length_map _
  have hmb : (b.map strD).length = b.length := List.length_map _
  by_cases hl : a.length = b.length
  · have hne : (((a.map strD).length : Int) != ((b.map strD).length : Int)) = false := bne_eq_false_iff_eq.2 (by omega)
    refine FnD.of1 (n := 26) [] fax_ok Tryz.func48 rfl rfl rfl (by rfl) (by kernel_rfl) (by intro _; rfl) fun Γ hA hbA => ?_
    (repeat ((conv => whnf); (first | refine exR ?_ | refine tF ?_)))
    refine ev_loop [] fax_ok hA (by kernel_rfl) (fun i : Nat => i ≤ a.length ∧ ∀ j, j < i → a[j]? = b[j]?) (fun i => [(0, .d (txD a)), (1, .d (txD b)), (12, intT (a.map strD).length), (13, intT i)]) (fun _ => []) (fun i => a.length - i) 0 ⟨Nat.zero_le _, fun j hj => absurd hj (Nat.not_lt_zero j)⟩ fiE fiO ?_
    rintro i ⟨hi, hj⟩ hb -
    have hlen : (a.map strD).length ≤ 9223372036854775807 := hb.1
    by_cases h : i < a.length
    · have hx : (a.map strD)[i]? = some (strD a[i]) := by rw [List.getElem?_map, List.getElem?_eq_getElem h, Option.map_some]
      have hy : (b.map strD)[i]? = some (strD (b[i]'(by omega))) := by rw [List.getElem?_map, List.getElem?_eq_getElem (by omega), Option.map_some]
      have hxa : a[i]? = some a[i] := List.getElem?_eq_getElem h
      have hyb : b[i]? = some (b[i]'(by omega)) := List.getElem?_eq_getElem (by omega)
      generalize a[i] = u at *
      generalize b[i]'(by omega) = v at *
      by_cases he : u = v
      · subst he
        have hq : (!(u == u)) = false := by simp
        (repeat ((conv => whnf); (first | with_reducible refine exE _ (w_inc (by omega)) ?_ | refine exR ?_ | refine tT ?_ | refine tF ?_ | refine oB ?_ | refine exI _ rfl (by assumption) ?_)))
        refine ⟨i + 1, ⟨by omega, fun j hj2 => ?_⟩, by omega, fiE, fiO⟩
        rcases Nat.lt_succ_iff_lt_or_eq.1 hj2 with h3 | rfl
        · exact hj j h3
        · rw [hxa, hyb]
      · have hq : (!(u == v)) = true := by simpa using he
        have hab : a ≠ b := fun e => by rw [e, hyb] at hxa; exact he (Option.some.inj hxa).symm
        rw [decide_eq_false hab] at hr
        subst hr
        (repeat ((conv => whnf); (first | refine exR ?_ | refine tT ?_ | refine oB ?_ | refine exI _ rfl (by assumption) ?_)))
        exact ⟨eN, rS, fiO⟩
    · have hab : a = b := List.ext_getElem? fun j => by
        by_cases h3 : j < i
        · exact hj j h3
        · rw [List.getElem?_eq_none (by omega), List.getElem?_eq_none (by omega)]
      rw [decide_eq_true hab] at hr
      subst hr
      (repeat ((conv => whnf); (first | refine exR ?_ | refine tF ?_)))
      exact ⟨eN, rS, fiO⟩
  · have hab : a ≠ b := fun e => hl (by rw [e])
    have hne : (((a.map strD).length : Int) != ((b.map strD).length : Int)) = true := bne_iff_ne.2 (by omega)
    rw [decide_eq_false hab] at hr
    subst hr
    refine FnD.of1 (n := 26) [] fax_ok Tryz.func48 rfl rfl rfl (by rfl) (by kernel_rfl) (by intro _; rfl) fun Γ hA hbA => ?_
    (repeat ((conv => whnf); (first | refine exR ?_ | refine tT ?_)))
    exact ⟨eN, rS, fiO⟩
theorem fconst_fn (p : PrR) (v : Int × Int) : FnD Tryz.prog 50 [.d (vaD v), .pi [fnsD p.fns, vasD p.consts, txD p.texts]] (boolT (!constM p v)) := by
  obtain ⟨k, n⟩ := v
  have hR := right_fn k n
  have h3 : (p.texts.map strD).length = p.texts.length := List.length_map _
  unfold constM
  dsimp only
  cases hr : rightM k n with
  | false =>
    rw [hr] at hR
    refine FnD.of1 (n := 25) [] fax_ok Tryz.func50 rfl rfl rfl (by rfl) (by kernel_rfl) (by intro _; rfl) fun Γ hA hbA => ?_
    (repeat ((conv => whnf); (first | refine exR ?_ | refine gd (enters_of Tryz.func51 rfl rfl) hR ?_ | refine tT ?_ | refine uF ?_ | refine And.intro rfl ?_)))
    exact ⟨eN, rS, fiO⟩
  | true =>
    rw [hr] at hR
    by_cases k5 : k = 5
    · subst k5
      refine FnD.of1 (n := 25) [] fax_ok Tryz.func50 rfl rfl rfl (by rfl) (by kernel_rfl) (by intro _; rfl) fun Γ hA hbA => ?_
      (repeat ((conv => whnf); (first | refine exR ?_ | refine gd (enters_of Tryz.func51 rfl rfl) hR ?_ | refine tT ?_ | refine tF ?_ | refine uT ?_ | refine uF ?_ | refine And.intro rfl ?_)))
      exact ⟨eN, rS, fiO⟩
    · have k5b : (k == 5) = false := beq_eq_false_iff_ne.2 k5
      rw [k5b]
      by_cases k4 : k = 4
      · subst k4
        by_cases hn : (p.texts.length : Int) ≤ n
        · rw [decide_eq_true hn]
          refine FnD.of1 (n := 25) [] fax_ok Tryz.func50 rfl rfl rfl (by rfl) (by kernel_rfl) (by intro _; rfl) fun Γ hA hbA => ?_
          (repeat ((conv => whnf); (first | refine exR ?_ | refine gd (enters_of Tryz.func51 rfl rfl) hR ?_ | refine tT ?_ | refine tF ?_ | refine uT ?_ | refine And.intro rfl ?_)))
          refine ⟨.inl rfl, RsE.tmp (TLe.bool rfl (by first | rfl | exact decide_eq_true (by omega))) RsE.nil, FitO.nil⟩
        · rw [decide_eq_false hn]
          refine FnD.of1 (n := 25) [] fax_ok Tryz.func50 rfl rfl rfl (by rfl) (by kernel_rfl) (by intro _; rfl) fun Γ hA hbA => ?_
          (repeat ((conv => whnf); (first | refine exR ?_ | refine gd (enters_of Tryz.func51 rfl rfl) hR ?_ | refine tT ?_ | refine tF ?_ | refine uT ?_ | refine And.intro rfl ?_)))
          refine ⟨.inl rfl, RsE.tmp (TLe.bool rfl (by first | rfl | exact decide_eq_false (by omega))) RsE.nil, FitO.nil⟩
      · have k4b : (k == 4) = false := beq_eq_false_iff_ne.2 k4
        rw [k4b]
        refine FnD.of1 (n := 25) [] fax_ok Tryz.func50 rfl rfl rfl (by rfl) (by kernel_rfl) (by intro _; rfl) fun Γ hA hbA => ?_
        (repeat ((conv => whnf); (first | refine exR ?_ | refine gd (enters_of Tryz.func51 rfl rfl) hR ?_ | refine tF ?_ | refine uT ?_ | refine And.intro rfl ?_)))
        exact ⟨eN, rS, fiO⟩
end Go.Proofs.YtddmcmkhjkleoaaGreatDoor
end

section
namespace Go.Proofs.YtddmcmkhjkleoaaGreatDoor
open Go.RowKit

abbrev lwT : List UInt8 := strU "load move add sub mul div mod eq lt le not neg jump back test new get put list index store box unbox into up clos call return throw try end yield say ask spawn join lock free"
theorem lw_fields : Lib.fields lwT = lwordsL.drop 1 := by decide +kernel
set_option maxRecDepth 100000 in
theorem lwords_fn : FnD Tryz.prog 16 [] (.d (txD lwordsL)) := by
  have hF : FnD Tryz.prog 29 [strT lwT] (.d (txD (Lib.fields lwT))) := fields_fn lwT (by decide +kernel) (by decide +kernel) (by decide +kernel)
  rw [lw_fields] at hF
  have hl : lwordsL = [] :: lwordsL.drop 1 := rfl
  rw [hl]
  have hn : (lwordsL.drop 1).length = 38 := rfl
  generalize lwordsL.drop 1 = L at *
  refine FnD.of1 (n := 4) [1] fax_ok Tryz.func16 rfl rfl rfl (by rfl) (by kernel_rfl) (by intro _; rfl) fun Γ hA hbA => ?_
  (repeat ((conv => whnf); (first | refine gd (enters_of Tryz.func29 rfl rfl) hF ?_ | refine And.intro rfl ?_ | refine lQ ?_)))
  exact ⟨eN, rS, fiO⟩
end Go.Proofs.YtddmcmkhjkleoaaGreatDoor
end
