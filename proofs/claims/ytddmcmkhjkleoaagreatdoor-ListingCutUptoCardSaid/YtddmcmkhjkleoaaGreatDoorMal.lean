/-
  Vo, Sh, in one.
-/
import Derived.Test.YtddmcmkhjkleoaaGreatDoorMak
section
namespace Go.Proofs.YtddmcmkhjkleoaaGreatDoor
open Go.RowKit

section
variable {P : Program} {o : Oper} {σ : Nat → T} {E : En} {L : Ob} {k : KO}
theorem t_callvo {c : Operand} {f : FuncId} {xs : List Operand} {ts : Array TypeId} {caps : List T} {args : List T} {pre : List (Nat × GObj)} {res : T} {post : List (Nat × GObj)} (R : List (Nat × Nat)) (ho : o.op = .call { callee := .value c, args := xs.toArray, argTypes := ts }) (hcl : opT σ c = .fn f caps)
    (hE : ∀ args w, (callFunc f args).run P w = .ok (.enter f args) w) (hF : FnO P f args pre res post) (hx : Lend (opTs σ xs ++ caps) (T.rens (rn R) args) []) (hc : chkO (R.map (·.1)) (rn R) args pre res post = true) :
    Tri P o σ (renP (rn R) pre ++ (newsOf (R.map (·.1)) pre).map fun i => (rn R i, .vac)) (res.ren (rn R)) (renP (rn R) post) := by
  intro Γ g objs a w Q hr hp hw
  generalize hρ : rn R = ρ at *
  generalize hI : R.map (·.1) = I at *
  unfold chkO at hc
  simp only [Bool.and_eq_true, List.all_eq_true] at hc
  obtain ⟨c1, c2, c3, c4, c5, c6, c7, c8⟩ := hc
  have hinj : ∀ i ∈ I, ∀ j ∈ I, ρ i = ρ j → i = j := fun i hi j hj e => by
    have := c6 i hi j hj
    rw [e, Nat.beq_refl] at this
    exact Nat.eq_of_beq_eq_true (by simpa using this)
  have hpre : ∀ i ob, objL pre i = some ob → objs (ρ i) = some (ob.ren ρ) := fun i ob h => hp (ρ i, ob.ren ρ) (List.mem_append_left _ (List.mem_map.2 ⟨(i, ob), objL_mem h, rfl⟩))
  have hnew : ∀ i ∈ I, objL pre i = none → objs (ρ i) = some .vac := fun i hi h => hp (ρ i, .vac) (List.mem_append_right _ (List.mem_map.2 ⟨i, List.mem_filter.2 ⟨hi, by
    have := objL_none h
    cases hb : inB (pre.map (·.1)) i with
    | false => rfl
    | true => exact absurd (inB_mem hb) this⟩, rfl⟩))
  have e1 := rep_op hr (x := c) (by rw [ho]; simp [Op.operands, Call.operands])
  rw [hcl] at e1
  have e2 := reps_ops (g := g) (a := a) (σ := σ) (xs := xs) fun x hx => rep_op hr (by rw [ho]; simp [Op.operands, Call.operands, hx])
  generalize hy : a.eval c = y at e1
  cases e1 with
  | @fn _ _ vs h =>
  have key : ∀ {ts ts' : List T} {vs : List Value} {pre : List (Nat × GObj)}, Lend ts ts' pre → pre = [] → Reps g ts vs → Reps g ts' vs := by
    intro ts ts' vs pre hl
    induction hl generalizing vs with
    | nil => intro _ h; exact h
    | le h _ ih => intro hp h; cases h with | cons h1 h2 => exact .cons (h g _ h1) (ih hp h2)
    | ref _ _ => intro hp; cases hp
  have hreps := key hx rfl (e2.app h)
  have hreps2 := (Reps.ren (agree_ren (ρ := ρ) g fun _ => True) args _ fun _ _ => trivial).2 hreps
  unfold Oper.wp
  have hrun : (execOp a.eval o).run P w = .ok (.enter f (xs.map a.eval ++ vs).toArray) w := by
    unfold execOp; rw [ho]
    simp [resolve, Deferred.ofValue, hy, invoke, hE]
  rw [hrun]
  refine (hF w _ _ hw.fr.tabs (hw.lentX hpre) (WI.into hw.fr.tabs (hw.lentX hpre) hinj (fun p hp => inB_mem (c1 p hp)) hw hpre) hreps2).mono ?_
  rintro e w' ⟨v, gc, rfl, h1, h2⟩
  obtain ⟨g', k1, k2, k3⟩ := WI.out hinj (fun p hp => inB_mem (c1 p hp)) (fun p hp => inB_mem (c2 p hp)) hw hpre hnew (fun i hi => objL_of_mem (inB_mem (c3 i hi))) (fun i ob h3 h4 => by
    have := c5 (i, ob) (objL_mem h4)
    rw [Bool.or_eq_true] at this
    rcases this with h6 | h6
    · exact absurd (inB_mem h6) (objL_none h3)
    · simpa using h6) (fun i ob h3 id h4 => inB_mem (c4 (i, ob) (objL_mem h3) id (has_in h4))) h2
  exact ⟨g', v, rfl, k1, (RepT.ren k3 res v fun id h => inB_mem (c8 id (has_ids h))).1 h1, k2⟩
theorem gen_vo (R : List (Nat × Nat)) {c : Operand} {f : FuncId} {xs : List Operand} {ts : Array TypeId} {caps args : List T} {pre post : Ob} {res : T} (ho : o.op = .call { callee := .value c, args := xs.toArray, argTypes := ts }) (hcl : opT (sl E) c = .fn f caps) (hE : ∀ args w, (callFunc f args).run P w = .ok (.enter f args) w) (hC : FnO P f args pre res post)
    (hx : Lend (opTs (sl E) xs ++ caps) (T.rens (rn R) args) []) (hc : chkO (R.map (·.1)) (rn R) args pre res post = true) (hp : AllO L (renP (rn R) pre ++ (newsOf (R.map (·.1)) pre).map fun i => (rn R i, .vac)))
    (hk : k ((renP (rn R) pre ++ (newsOf (R.map (·.1)) pre).map fun i => (rn R i, GObj.vac)).map Prod.fst) (res.ren (rn R)) (renP (rn R) post)) : gen P o E L k :=
  ⟨_, _, _, t_callvo R ho hcl hE hC hx hc, hp.mem, hk⟩
theorem t_callbo {c : Operand} {f : FuncId} {xs : List Operand} {ts : Array TypeId} {caps : List T} {args : List T} {pre : List (Nat × GObj)} {res : T} {post : List (Nat × GObj)} (R : List (Nat × Nat)) (ho : o.op = .call { callee := .value c, args := xs.toArray, argTypes := ts }) (hcl : opT σ c = .bf f caps)
    (hE : ∀ args w, (callFunc f args).run P w = .ok (.enter f args) w) (hF : FnO P f args pre res post) (hx : Lend (caps ++ opTs σ xs) (T.rens (rn R) args) []) (hc : chkO (R.map (·.1)) (rn R) args pre res post = true) :
    Tri P o σ (renP (rn R) pre ++ (newsOf (R.map (·.1)) pre).map fun i => (rn R i, .vac)) (res.ren (rn R)) (renP (rn R) post) := by
  intro Γ g objs a w Q hr hp hw
  generalize hρ : rn R = ρ at *
  generalize hI : R.map (·.1) = I at *
  unfold chkO at hc
  simp only [Bool.and_eq_true, List.all_eq_true] at hc
  obtain ⟨c1, c2, c3, c4, c5, c6, c7, c8⟩ := hc
  have hinj : ∀ i ∈ I, ∀ j ∈ I, ρ i = ρ j → i = j := fun i hi j hj e => by
    have := c6 i hi j hj
    rw [e, Nat.beq_refl] at this
    exact Nat.eq_of_beq_eq_true (by simpa using this)
  have hpre : ∀ i ob, objL pre i = some ob → objs (ρ i) = some (ob.ren ρ) := fun i ob h => hp (ρ i, ob.ren ρ) (List.mem_append_left _ (List.mem_map.2 ⟨(i, ob), objL_mem h, rfl⟩))
  have hnew : ∀ i ∈ I, objL pre i = none → objs (ρ i) = some .vac := fun i hi h => hp (ρ i, .vac) (List.mem_append_right _ (List.mem_map.2 ⟨i, List.mem_filter.2 ⟨hi, by
    have := objL_none h
    cases hb : inB (pre.map (·.1)) i with
    | false => rfl
    | true => exact absurd (inB_mem hb) this⟩, rfl⟩))
  have e1 := rep_op hr (x := c) (by rw [ho]; simp [Op.operands, Call.operands])
  rw [hcl] at e1
  have e2 := reps_ops (g := g) (a := a) (σ := σ) (xs := xs) fun x hx => rep_op hr (by rw [ho]; simp [Op.operands, Call.operands, hx])
  generalize hy : a.eval c = y at e1
  cases e1 with
  | @bf _ _ vs h =>
  have key : ∀ {ts ts' : List T} {vs : List Value} {pre : List (Nat × GObj)}, Lend ts ts' pre → pre = [] → Reps g ts vs → Reps g ts' vs := by
    intro ts ts' vs pre hl
    induction hl generalizing vs with
    | nil => intro _ h; exact h
    | le h _ ih => intro hp h; cases h with | cons h1 h2 => exact .cons (h g _ h1) (ih hp h2)
    | ref _ _ => intro hp; cases hp
  have hreps := key hx rfl (h.app e2)
  have hreps2 := (Reps.ren (agree_ren (ρ := ρ) g fun _ => True) args _ fun _ _ => trivial).2 hreps
  unfold Oper.wp
  have hrun : (execOp a.eval o).run P w = .ok (.enter f (vs ++ xs.map a.eval).toArray) w := by
    unfold execOp; rw [ho]
    simp [resolve, Deferred.ofValue, hy, invoke, hE]
  rw [hrun]
  refine (hF w _ _ hw.fr.tabs (hw.lentX hpre) (WI.into hw.fr.tabs (hw.lentX hpre) hinj (fun p hp => inB_mem (c1 p hp)) hw hpre) hreps2).mono ?_
  rintro e w' ⟨v, gc, rfl, h1, h2⟩
  obtain ⟨g', k1, k2, k3⟩ := WI.out hinj (fun p hp => inB_mem (c1 p hp)) (fun p hp => inB_mem (c2 p hp)) hw hpre hnew (fun i hi => objL_of_mem (inB_mem (c3 i hi))) (fun i ob h3 h4 => by
    have := c5 (i, ob) (objL_mem h4)
    rw [Bool.or_eq_true] at this
    rcases this with h6 | h6
    · exact absurd (inB_mem h6) (objL_none h3)
    · simpa using h6) (fun i ob h3 id h4 => inB_mem (c4 (i, ob) (objL_mem h3) id (has_in h4))) h2
  exact ⟨g', v, rfl, k1, (RepT.ren k3 res v fun id h => inB_mem (c8 id (has_ids h))).1 h1, k2⟩
theorem gen_bo (R : List (Nat × Nat)) {c : Operand} {f : FuncId} {xs : List Operand} {ts : Array TypeId} {caps args : List T} {pre post : Ob} {res : T} (ho : o.op = .call { callee := .value c, args := xs.toArray, argTypes := ts }) (hcl : opT (sl E) c = .bf f caps) (hE : ∀ args w, (callFunc f args).run P w = .ok (.enter f args) w) (hC : FnO P f args pre res post)
    (hx : Lend (caps ++ opTs (sl E) xs) (T.rens (rn R) args) []) (hc : chkO (R.map (·.1)) (rn R) args pre res post = true) (hp : AllO L (renP (rn R) pre ++ (newsOf (R.map (·.1)) pre).map fun i => (rn R i, .vac)))
    (hk : k ((renP (rn R) pre ++ (newsOf (R.map (·.1)) pre).map fun i => (rn R i, GObj.vac)).map Prod.fst) (res.ren (rn R)) (renP (rn R) post)) : gen P o E L k :=
  ⟨_, _, _, t_callbo R ho hcl hE hC hx hc, hp.mem, hk⟩
end
end Go.Proofs.YtddmcmkhjkleoaaGreatDoor
end

section
namespace Go.Proofs.YtddmcmkhjkleoaaGreatDoor
open Go.RowKit

theorem tT {c : Bool} {A B : Prop} (a : A) (h : c = true := by first | with_reducible rfl | assumption | rfl | decide | exact decide_eq_true (by omega) | exact beq_iff_eq.2 (by omega) | exact bne_iff_ne.2 (by omega)) : (c = true → A) ∧ (c = false → B) := spT h a
theorem tF {c : Bool} {A B : Prop} (b : B) (h : c = false := by first | with_reducible rfl | assumption | rfl | decide | exact decide_eq_false (by omega) | exact beq_eq_false_iff_ne.2 (by omega) | exact bne_eq_false_iff_eq.2 (by omega)) : (c = true → A) ∧ (c = false → B) := spF h b
theorem uT {c want : Bool} {A B : Prop} (a : A) (h : c = want := by first | with_reducible rfl | assumption | rfl | decide | exact decide_eq_true (by omega) | exact beq_iff_eq.2 (by omega) | exact bne_iff_ne.2 (by omega) | exact decide_eq_false (by omega) | exact beq_eq_false_iff_ne.2 (by omega) | exact bne_eq_false_iff_eq.2 (by omega)) : (c = want → A) ∧ (c = (!want) → B) := guT h a
theorem uF {c want : Bool} {A B : Prop} (b : B) (h : c = !want := by first | with_reducible rfl | assumption | rfl | decide | exact decide_eq_true (by omega) | exact beq_iff_eq.2 (by omega) | exact bne_iff_ne.2 (by omega) | exact decide_eq_false (by omega) | exact beq_eq_false_iff_ne.2 (by omega) | exact bne_eq_false_iff_eq.2 (by omega)) : (c = want → A) ∧ (c = (!want) → B) := guF h b
theorem oB {a b} {K : Prop} (k : K) (h : orderB a b = true := by kernel_rfl) : orderB a b = true ∧ K := ⟨h, k⟩
theorem lQ {a b : Nat} {K : Prop} (k : K) (h : a ≤ b := by first | omega | (simp; first | done | fail) | (simp; omega)) : a ≤ b ∧ K := ⟨h, k⟩
theorem lT {a b : Nat} {K : Prop} (k : K) (h : a < b := by first | omega | (simp; first | done | omega)) : a < b ∧ K := ⟨h, k⟩
theorem lL {α : Type} {l : List α} {n : Nat} {K : Prop} (k : K) (h : l.length = n := by first | assumption | (simp; first | done | omega)) : l.length = n ∧ K := ⟨h, k⟩
theorem nA {z : Int} {m : Nat} {K : Nat → Prop} (a : Nat) (e : z = (a : Int)) (k : K a) (h : a ≤ m := by first | omega | (simp; first | done | fail) | (simp; omega)) : ∃ a : Nat, z = (a : Int) ∧ a ≤ m ∧ K a := ⟨a, e, h, k⟩
theorem mK {a b : Int} {m : Nat} {K : Nat → Prop} (n : Nat) (e1 : a = (n : Int)) (e2 : b = (n : Int)) (k : K n) (h : n ≤ m := by first | omega | (simp; first | done | fail) | (simp; omega)) : ∃ n : Nat, a = (n : Int) ∧ b = (n : Int) ∧ n ≤ m ∧ K n := ⟨n, e1, e2, h, k⟩
theorem fiE {a b : En} (h : FitE a b := by (repeat (first | exact FitE.nil | refine FitE.cons (TLe.of_eq rfl) ?_ | refine FitE.cons TLe.own ?_ | refine FitE.cons TLe.nil ?_)); (first | done | fail)) : FitE a b := h
theorem fiO {a b : Ob} (h : FitO a b := by (repeat (first | exact FitO.nil | refine FitO.cons rfl ?_)); (first | done | fail)) : FitO a b := h
theorem rS {F : Fax} {E : En} {L : Ob} {rs : List ResultVar} {ts : List T} (h : RsE F E L rs ts := by (repeat (first | exact RsE.nil | refine RsE.tmp (TLe.of_eq rfl) ?_ | refine RsE.tmp TLe.own ?_ | refine RsE.tmp TLe.nil ?_ | refine RsE.one rfl rfl rfl rfl (TLe.of_eq rfl) ?_ | refine RsE.agg rfl rfl rfl rfl rfl (TLe.of_eq rfl) ?_)); (first | done | fail)) : RsE F E L rs ts := h
theorem eN {e : Exit} (h : e = .ret ∨ e = .normal := by first | exact .inl rfl | exact .inr rfl) : e = .ret ∨ e = .normal := h
section
variable {P : Program} {F : Fax} {V : List Nat} {Γ : Cx} {n : Nat} {o : Oper} {E : En} {L : Ob} {k : KO}
theorem gd {f : FuncId} {xs : List Operand} {ts : Array TypeId} {args : List T} {res : T} (hE : ∀ args w, (callFunc f args).run P w = .ok (.enter f args) w) (hC : FnD P f args res) (hk : k [] res []) (ho : o.op = .call { callee := .value (.func f), args := xs.toArray, argTypes := ts } := by rfl)
    (hx : TLes (sl E) xs args := by (repeat (first | exact TLes.nil | refine TLes.cons (TLe.of_eq rfl) ?_ | refine TLes.cons TLe.own ?_ | refine TLes.cons TLe.nil ?_)); (first | done | fail)) : gen P o E L k := gen_d ho hE hC hx hk
theorem gO (R : List (Nat × Nat)) {f : FuncId} {xs : List Operand} {ts : Array TypeId} {args : List T} {pre post : Ob} {res : T} (hE : ∀ args w, (callFunc f args).run P w = .ok (.enter f args) w) (hC : FnO P f args pre res post)
    (hk : k ((renP (rn R) pre ++ (newsOf (R.map (·.1)) pre).map fun i => (rn R i, GObj.vac)).map Prod.fst) (res.ren (rn R)) (renP (rn R) post)) (ho : o.op = .call { callee := .value (.func f), args := xs.toArray, argTypes := ts } := by rfl)
    (hx : TLes (sl E) xs (T.rens (rn R) args) := by (repeat (first | exact TLes.nil | refine TLes.cons (TLe.of_eq rfl) ?_ | refine TLes.cons TLe.own ?_ | refine TLes.cons TLe.nil ?_)); (first | done | fail)) (hc : chkO (R.map (·.1)) (rn R) args pre res post = true := by rfl)
    (hp : AllO L (renP (rn R) pre ++ (newsOf (R.map (·.1)) pre).map fun i => (rn R i, .vac)) := by (repeat (first | exact trivial | refine And.intro rfl ?_)); (first | done | fail)) : gen P o E L k := gen_o R ho hE hC hx hc hp hk
theorem gv {c : Operand} {f : FuncId} {xs : List Operand} {ts : Array TypeId} {caps args : List T} {res : T} (hE : ∀ args w, (callFunc f args).run P w = .ok (.enter f args) w) (hC : FnD P f args res) (hk : k [] res []) (ho : o.op = .call { callee := .value c, args := xs.toArray, argTypes := ts } := by rfl) (hc : opT (sl E) c = .fn f caps := by rfl)
    (hx : Lend (opTs (sl E) xs ++ caps) args [] := by (repeat (first | exact Lend.nil | refine Lend.le (TLe.of_eq rfl) ?_ | refine Lend.le TLe.own ?_ | refine Lend.le TLe.nil ?_)); (first | done | fail)) : gen P o E L k := gen_v ho hc hE hC hx hk
end
end Go.Proofs.YtddmcmkhjkleoaaGreatDoor
end
