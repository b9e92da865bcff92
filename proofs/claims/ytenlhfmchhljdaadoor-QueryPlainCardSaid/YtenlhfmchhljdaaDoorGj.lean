/-
  Ghost values: functions by what their code asks for; calls; steps.
-/
import Derived.Test.YtenlhfmchhljdaaDoorGi
namespace Go.Proofs.YtenlhfmchhljdaaDoor
open Go.RowKit

section
variable {P : Program} {F : Fax} {V : List Nat} {Γ : Cx} {n : Nat} {o : Oper} {E : En} {L : Ob} {k : KO}
/-! ### Results -/
inductive RsE (F : Fax) (E : En) (L : Ob) : List ResultVar → List T → Prop
  | nil : RsE F E L [] []
  | tmp {r : Tmp} {t : T} {rs : List ResultVar} {ts : List T} (h : TLe (sl E r) t) (ht : RsE F E L rs ts) : RsE F E L (.tmp r :: rs) (t :: ts)
  | one {a ty id e m : Nat} {xs : List T} {v t : T} {rs : List ResultVar} {ts : List T} (h1 : sl E a = .ref id 0) (h2 : lk L id = some (.cells e xs)) (h3 : lk F.ag ty = some (false, m)) (h4 : xs[0]? = some v) (h5 : TLe v t) (ht : RsE F E L rs ts) : RsE F E L (.cell a ty :: rs) (t :: ts)
  | agg {a ty id e m : Nat} {xs : List T} {ds : List D} {t : T} {rs : List ResultVar} {ts : List T} (h1 : sl E a = .ref id 0) (h2 : lk L id = some (.cells e xs)) (h3 : lk F.ag ty = some (true, m)) (h4 : dsOf (xs.take m) = some ds) (h6 : Nat.beq ds.length m = true) (h5 : TLe (.d (.agg ds)) t) (ht : RsE F E L rs ts) : RsE F E L (.cell a ty :: rs) (t :: ts)
theorem rse_run {g : Gh} {tmps : Array Value} {w : World} {σ : Nat → T} {objs : Objs} (hF : FaxOK P F) (hr : ∀ t, RepT g (σ t) (tmps.getD t undef)) (hE : ∀ t, TLe (σ t) (sl E t)) (hL : ∀ id x, obE L id = some x → objs id = some x) (hw : WI Γ g objs w) :
    ∀ {rs : List ResultVar} {ts : List T}, RsE F E L rs ts → ∃ vs : List Value, (List.mapM (m := Sem) (fun r : ResultVar => match r with
    | .tmp t => pure (tmps.getD t undef)
    | .cell a t => do loadVar t (← asAddr (tmps.getD a undef))) rs).run P w = .ok vs w ∧ Reps g ts vs
  | _, _, .nil => ⟨[], rfl, .nil⟩
  | _, _, @RsE.tmp _ _ _ r t rs ts h ht => by
    obtain ⟨vs, h1, h2⟩ := rse_run hF hr hE hL hw ht
    refine ⟨tmps.getD r undef :: vs, ?_, .cons (h g _ (hE r g _ (hr r))) h2⟩
    rw [List.mapM_cons]
    simp only [Sem.run_bind, Sem.run_pure, Result.andThen_ok, h1]
  | _, _, @RsE.one _ _ _ a ty id e m xs v t rs ts k1 k2 k3 k4 k5 ht => by
    obtain ⟨vs, h1, h2⟩ := rse_run hF hr hE hL hw ht
    have e1 := hE a g _ (hr a)
    rw [k1] at e1
    obtain ⟨u, hu, hru, -⟩ := obj_cell hw (hL id _ k2) k4
    generalize hy : tmps.getD a undef = y at e1
    cases e1 with
    | ref ha =>
      refine ⟨u :: vs, ?_, .cons (k5 g _ hru) h2⟩
      rw [List.mapM_cons]
      have hl : (loadVar ty ⟨g.blk id, 0, none⟩).run P w = .ok u w := by simp [loadVar, (agg_spec (hF.ag _ _ _ k3) w).1, load, Sem.run, hu]
      have hadr : (asAddr (tmps.getD a undef)).run P w = .ok ⟨g.blk id, 0, none⟩ w := by rw [hy]; simp [asAddr]
      simp only [Sem.run_bind, Sem.run_pure, Result.andThen_ok, hadr, hl, h1]
  | _, _, @RsE.agg _ _ _ a ty id e m xs ds t rs ts k1 k2 k3 k4 k6 k5 ht => by
    obtain ⟨vs, h1, h2⟩ := rse_run hF hr hE hL hw ht
    have e1 := hE a g _ (hr a)
    rw [k1] at e1
    obtain ⟨ys, -, a1, a2, a3, a4, a5⟩ := hw.obj id _ (hL id _ k2)
    have h3 := dsOf_reps k4 (a3.take m)
    have h4 := reps_dd h3 (fun x hx => a4 x (List.mem_of_mem_take hx))
    have hl := h4.len
    have hm := Nat.eq_of_beq_eq_true k6
    generalize hy : tmps.getD a undef = y at e1
    cases e1 with
    | ref ha =>
      refine ⟨.agg (ys.take m).toArray :: vs, ?_, .cons (k5 g _ (.d (.agg h4))) h2⟩
      rw [List.mapM_cons]
      have hcell : ∀ j, j < m → w.cell? ⟨g.blk id, 0 + j, none⟩ = (ys.take m)[j]? := fun j hj => by
        have hj2 : j < ys.length := by
          have : (ys.take m).length = m := by rw [hl, hm]
          rw [List.length_take] at this
          omega
        unfold World.cell?
        dsimp only
        rw [a2, List.getElem?_take, if_pos hj, Nat.zero_add]
        simp
      have hlc := loadCells_run (P := P) (w := w) m 0 #[] ⟨g.blk id, 0, none⟩ (ys.take m) (by rw [hl, hm]) (fun j hj => by rw [add_lit', Nat.zero_add]; exact hcell j hj)
      have hlv : (loadVar ty ⟨g.blk id, 0, none⟩).run P w = .ok (.agg (ys.take m).toArray) w := by
        simp only [loadVar, Sem.run_bind, Sem.run_pure, Result.andThen_ok, (agg_spec (hF.ag _ _ _ k3) w).1, if_true, (agg_spec (hF.ag _ _ _ k3) w).2, loadCells, hlc]
        simp
      have hadr : (asAddr (tmps.getD a undef)).run P w = .ok ⟨g.blk id, 0, none⟩ w := by rw [hy]; simp [asAddr]
      simp only [Sem.run_bind, Sem.run_pure, Result.andThen_ok, hadr, hlv, h1]
theorem results_rse {fn : Func} {rs : List ResultVar} {ts : List T} {g : Gh} {tmps : Array Value} {w : World} {σ : Nat → T} {objs : Objs} (hF : FaxOK P F) (hf : fn.results = rs.toArray) (hr : ∀ t, RepT g (σ t) (tmps.getD t undef)) (hE : ∀ t, TLe (σ t) (sl E t)) (hL : ∀ id x, obE L id = some x → objs id = some x) (hw : WI Γ g objs w)
    (h : RsE F E L rs ts) : ∃ v, (results fn tmps).run P w = .ok v w ∧ RepT g (resOf ts) v := by
  obtain ⟨vs, h1, h2⟩ := rse_run hF hr hE hL hw h
  have hrun : (results fn tmps).run P w = .ok (if h : vs.toArray.size = 1 then vs.toArray[0] else .tuple vs.toArray) w := by
    unfold results
    rw [hf]
    simp only [List.mapM_toArray, Sem.run_bind, Sem.run_map, Sem.run_pure]
    exact congrArg (fun x => (Result.andThen x fun (a : List Value) w' => Result.ok a.toArray w').andThen fun (a : Array Value) w' => Result.ok (if h : a.size = 1 then a[0] else Value.tuple a) w') h1
  refine ⟨_, hrun, ?_⟩
  cases h2 with
  | nil => exact .tup .nil
  | @cons t l x xs h3 h4 =>
    cases h4 with
    | nil => exact h3
    | @cons t2 l2 x2 xs2 h5 h6 =>
      rw [dif_neg (by simp)]
      exact .tup (.cons h3 (.cons h5 h6))
def argsE : Nat → List T → En
  | _, [] => []
  | i, t :: ts => (i, t) :: argsE (i + 1) ts
theorem argsE_get : ∀ (ts : List T) (i t : Nat), sl (argsE i ts) t = if t < i then .und else envL ts (t - i)
  | [], i, t => by
    show T.und = _
    split
    · rfl
    · simp [envL]
  | x :: ts, i, t => by
    rw [argsE, sl_cons]
    cases e : Nat.beq t i with
    | true =>
      have := Nat.eq_of_beq_eq_true e
      subst this
      rw [if_neg (Nat.lt_irrefl _), Nat.sub_self]
      rfl
    | false =>
      have hne : t ≠ i := fun h => by rw [h, Nat.beq_refl] at e; cases e
      simp only [cond_false]
      rw [argsE_get ts (i + 1) t]
      by_cases h : t < i
      · rw [if_pos h, if_pos (by omega)]
      · rw [if_neg h, if_neg (by omega)]
        obtain ⟨m, rfl⟩ : ∃ m, t = i + 1 + m := ⟨t - i - 1, by omega⟩
        rw [show i + 1 + m - (i + 1) = m from by omega, show i + 1 + m - i = m + 1 from by omega]
        rfl
theorem argsE_env (ts : List T) : sl (argsE 0 ts) = envL ts := by
  funext t
  rw [argsE_get, if_neg (Nat.not_lt_zero t), Nat.sub_zero]
/-! ### Functions -/
abbrev QF (F : Fax) (rs : List ResultVar) (ress : List T) (post : Ob) : QE := fun e E L => (e = .ret ∨ e = .normal) ∧ RsE F E L rs ress ∧ FitO L post
theorem FnO.of_EV (V : List Nat) (hF : FaxOK P F) {f : FuncId} {fn : Func} {c : Code} {args ress : List T} {pre post : Ob} {rs : List ResultVar} (hf : P.funcs[f]? = some fn) (hb : fn.body = some c) (hr : fn.results = rs.toArray) (hN : fn.ntmps = n) (hk : Nat.ble args.length n = true) (hp : (pre.all fun p => Nat.ble 1000 p.1) = true) (hok : okC n c = true)
    (h : ∀ Γ : Cx, (∀ i, i < 1000 → ¬ Γ.A i) → bdTs args → bdO pre pre → evC P F V Γ n c (argsE 0 args) pre (QF F rs ress post)) : FnO P f args pre (resOf ress) post := by
  intro w g vs ht hx hw hreps
  have hl := reps_len hreps
  have hk' := Nat.le_of_ble_eq_true hk
  have hA : ∀ i, i < 1000 → ¬ (cxO w g pre ht hx).A i := fun i hi ⟨ob, hob⟩ => by
    have := List.all_eq_true.1 hp _ (objL_mem hob)
    have := Nat.le_of_ble_eq_true this
    simp only at this
    omega
  have haw := AW.bd fun _ hb => evC_AW hF hA hok (h (cxO w g pre ht hx) hA (bdTs_rep hreps) hb)
  rw [argsE_env, obE_obj] at haw
  refine calls_of_wp hf hb (wp_mono (haw _ w ⟨rfl, ?_, g, reps_slots hreps _, hw⟩) ?_)
  · simp [hN, hl]; omega
  · rintro e a' w' ⟨σ', objs', ⟨E', L', hE, hL, he, hres, hpost⟩, hd, hs, g', hr', hw'⟩
    obtain ⟨v, hv, hrv⟩ := results_rse hF hr hr' hE hL hw' hres
    have hsub : ∀ id ob, objL post id = some ob → objs' id = some ob := fun id ob h => hL id ob (hpost.le id ob (by rw [obE_obj]; exact h))
    have key : a'.defers = [] ∧ ∃ v, (results fn a'.tmps).run P w' = .ok v w' ∧ ∃ u g', Ending.returned v = .returned u ∧ RepT g' (resOf ress) u ∧ WI (cxO w g pre ht hx) g' (objL post) w' :=
      ⟨hd, v, hv, v, g', rfl, hrv, hw'.imm, fun id ob h => hw'.obj id ob (hsub id ob h), fun i j oi oj b h1 h2 => hw'.apart i j oi oj b (hsub _ _ h1) (hsub _ _ h2), hw'.fr, hw'.old, hw'.ext⟩
    rcases he with rfl | rfl
    · exact key
    · exact key
theorem FnD.of_EV (V : List Nat) (hF : FaxOK P F) {f : FuncId} {fn : Func} {c : Code} {args ress : List T} {rs : List ResultVar} (hf : P.funcs[f]? = some fn) (hb : fn.body = some c) (hr : fn.results = rs.toArray) (hN : fn.ntmps = n) (hk : Nat.ble args.length n = true) (hok : okC n c = true) (hid : ∀ id, (resOf ress).has id = false)
    (h : ∀ Γ : Cx, (∀ i, i < 1000 → ¬ Γ.A i) → bdTs args → evC P F V Γ n c (argsE 0 args) [] (QF F rs ress [])) : FnD P f args (resOf ress) := by
  intro w g vs htab hi hreps
  have hl := reps_len hreps
  have hk' := Nat.le_of_ble_eq_true hk
  have haw := evC_AW hF (fun _ _ => id) hok (h ⟨fun _ => False, w, g, fun _ => False, htab, fun _ _ => id⟩ (fun _ _ => id) (bdTs_rep hreps))
  rw [argsE_env, obE_obj] at haw
  refine calls_of_wp hf hb (wp_mono (haw _ w ⟨rfl, ?_, g, reps_slots hreps _, ⟨hi, fun id ob h => ?_, fun i j oi oj b h => ?_, Fr.refl _, fun _ _ _ _ => rfl, GLe.refl _ _⟩⟩) ?_)
  · simp [hN, hl]; omega
  · cases h
  · cases h
  · rintro e a' w' ⟨σ', objs', ⟨E', L', hE, hL, he, hres, -⟩, hd, hs, g', hr', hw'⟩
    obtain ⟨v, hv, hrv⟩ := results_rse hF hr hr' hE hL hw' hres
    have key : a'.defers = [] ∧ ∃ v, (results fn a'.tmps).run P w' = .ok v w' ∧ ∃ v' S', Ending.returned v = .returned v' ∧ SLe g.S S' ∧ (∀ b o, b < w.heap.size → S' b o = g.S b o) ∧ (∀ b o x, S' b o = some x → w'.cell? ⟨b, o, none⟩ = some x) ∧ RepT ⟨S', g.blk, g.row, g.len⟩ (resOf ress) v' ∧ Below w.heap.size w w' := by
      refine ⟨hd, v, hv, v, g'.S, rfl, hw'.ext.S, fun b o hb => hw'.old b o hb id, hw'.imm, ?_, hw'.fr.below fun _ => id⟩
      exact hrv.mono (A := fun _ => False) (g := g') (g' := ⟨g'.S, g.blk, g.row, g.len⟩) ⟨SLe.refl _, fun _ h => h.elim, fun _ h => h.elim, fun _ h => h.elim⟩ fun id h => by rw [hid id] at h; cases h
    rcases he with rfl | rfl
    · exact key
    · exact key
theorem FnO.of1 (V : List Nat) (hF : FaxOK P F) {f : FuncId} {fn : Func} {c : Code} {args : List T} {res : T} {pre post : Ob} {rs : List ResultVar} (hf : P.funcs[f]? = some fn) (hb : fn.body = some c) (hr : fn.results = rs.toArray) (hN : fn.ntmps = n) (hk : Nat.ble args.length n = true) (hp : (pre.all fun p => Nat.ble 1000 p.1) = true) (hok : okC n c = true)
    (h : ∀ Γ : Cx, (∀ i, i < 1000 → ¬ Γ.A i) → bdTs args → bdO pre pre → evC P F V Γ n c (argsE 0 args) pre (QF F rs [res] post)) : FnO P f args pre res post := FnO.of_EV V hF (ress := [res]) hf hb hr hN hk hp hok h
theorem FnO.ofT (V : List Nat) (hF : FaxOK P F) {f : FuncId} {fn : Func} {c : Code} {args : List T} {r1 r2 : T} {ress : List T} {pre post : Ob} {rs : List ResultVar} (hf : P.funcs[f]? = some fn) (hb : fn.body = some c) (hr : fn.results = rs.toArray) (hN : fn.ntmps = n) (hk : Nat.ble args.length n = true) (hp : (pre.all fun p => Nat.ble 1000 p.1) = true) (hok : okC n c = true)
    (h : ∀ Γ : Cx, (∀ i, i < 1000 → ¬ Γ.A i) → bdTs args → bdO pre pre → evC P F V Γ n c (argsE 0 args) pre (QF F rs (r1 :: r2 :: ress) post)) : FnO P f args pre (.tup (r1 :: r2 :: ress)) post := FnO.of_EV V hF (ress := r1 :: r2 :: ress) hf hb hr hN hk hp hok h
theorem FnO.of0 (V : List Nat) (hF : FaxOK P F) {f : FuncId} {fn : Func} {c : Code} {args : List T} {pre post : Ob} {rs : List ResultVar} (hf : P.funcs[f]? = some fn) (hb : fn.body = some c) (hr : fn.results = rs.toArray) (hN : fn.ntmps = n) (hk : Nat.ble args.length n = true) (hp : (pre.all fun p => Nat.ble 1000 p.1) = true) (hok : okC n c = true)
    (h : ∀ Γ : Cx, (∀ i, i < 1000 → ¬ Γ.A i) → bdTs args → bdO pre pre → evC P F V Γ n c (argsE 0 args) pre (QF F rs [] post)) : FnO P f args pre (.tup []) post := FnO.of_EV V hF (ress := []) hf hb hr hN hk hp hok h
theorem FnD.of1 (V : List Nat) (hF : FaxOK P F) {f : FuncId} {fn : Func} {c : Code} {args : List T} {res : T} {rs : List ResultVar} (hf : P.funcs[f]? = some fn) (hb : fn.body = some c) (hr : fn.results = rs.toArray) (hN : fn.ntmps = n) (hk : Nat.ble args.length n = true) (hok : okC n c = true) (hid : ∀ id, res.has id = false)
    (h : ∀ Γ : Cx, (∀ i, i < 1000 → ¬ Γ.A i) → bdTs args → evC P F V Γ n c (argsE 0 args) [] (QF F rs [res] [])) : FnD P f args res := FnD.of_EV V hF (ress := [res]) hf hb hr hN hk hok hid h
theorem FnD.ofT (V : List Nat) (hF : FaxOK P F) {f : FuncId} {fn : Func} {c : Code} {args : List T} {r1 r2 : T} {ress : List T} {rs : List ResultVar} (hf : P.funcs[f]? = some fn) (hb : fn.body = some c) (hr : fn.results = rs.toArray) (hN : fn.ntmps = n) (hk : Nat.ble args.length n = true) (hok : okC n c = true) (hid : ∀ id, (T.tup (r1 :: r2 :: ress)).has id = false)
    (h : ∀ Γ : Cx, (∀ i, i < 1000 → ¬ Γ.A i) → bdTs args → evC P F V Γ n c (argsE 0 args) [] (QF F rs (r1 :: r2 :: ress) [])) : FnD P f args (.tup (r1 :: r2 :: ress)) := FnD.of_EV V hF (ress := r1 :: r2 :: ress) hf hb hr hN hk hok hid h
/-! ### Calls -/
def AllO (L : Ob) : Ob → Prop
  | [] => True
  | p :: l => lk L p.1 = some p.2 ∧ AllO L l
theorem AllO.mem {L : Ob} : ∀ {l : Ob}, AllO L l → ∀ p ∈ l, obE L p.1 = some p.2
  | [], _, p, hp => by cases hp
  | q :: l, h, p, hp => by
    rcases List.mem_cons.1 hp with rfl | hp
    · exact h.1
    · exact h.2.mem p hp
theorem gen_d {f : FuncId} {xs : List Operand} {ts : Array TypeId} {args : List T} {res : T} (ho : o.op = .call { callee := .value (.func f), args := xs.toArray, argTypes := ts }) (hE : ∀ args w, (callFunc f args).run P w = .ok (.enter f args) w) (hC : FnD P f args res) (hx : TLes (sl E) xs args) (hk : k [] res []) : gen P o E L k :=
  gen_nil (t_callf ho hE hC hx) hk
theorem gen_o (R : List (Nat × Nat)) {f : FuncId} {xs : List Operand} {ts : Array TypeId} {args : List T} {pre post : Ob} {res : T} (ho : o.op = .call { callee := .value (.func f), args := xs.toArray, argTypes := ts }) (hE : ∀ args w, (callFunc f args).run P w = .ok (.enter f args) w) (hC : FnO P f args pre res post)
    (hx : TLes (sl E) xs (T.rens (rn R) args)) (hc : chkO (R.map (·.1)) (rn R) args pre res post = true) (hp : AllO L (renP (rn R) pre ++ (newsOf (R.map (·.1)) pre).map fun i => (rn R i, .vac)))
    (hk : k ((renP (rn R) pre ++ (newsOf (R.map (·.1)) pre).map fun i => (rn R i, GObj.vac)).map Prod.fst) (res.ren (rn R)) (renP (rn R) post)) : gen P o E L k :=
  ⟨_, _, _, t_callo R ho hE hC hx hc, hp.mem, hk⟩
theorem gen_v {c : Operand} {f : FuncId} {xs : List Operand} {ts : Array TypeId} {caps args : List T} {res : T} (ho : o.op = .call { callee := .value c, args := xs.toArray, argTypes := ts }) (hc : opT (sl E) c = .fn f caps)
    (hE : ∀ args w, (callFunc f args).run P w = .ok (.enter f args) w) (hC : FnD P f args res) (hx : Lend (opTs (sl E) xs ++ caps) args []) (hk : k [] res []) : gen P o E L k := gen_nil (t_callv ho hc hE hx hC) hk
theorem exA {z : Int} {m : Nat} {K : Nat → Prop} (j : Nat) (e : z = (j : Int)) (hj : j < m) (h : K j) : ∃ j : Nat, z = (j : Int) ∧ j < m ∧ K j := ⟨j, e, hj, h⟩
theorem TLe.int {t : Nat} {a b : Int} (h : sl E t = intT a) (e : a = b) : TLe (sl E t) (intT b) := TLe.of_eq (by rw [h, e])
theorem TLe.bool {t : Nat} {a b : Bool} (h : sl E t = boolT a) (e : a = b) : TLe (sl E t) (boolT b) := TLe.of_eq (by rw [h, e])
theorem TLe.str {t : Nat} {a b : List UInt8} (h : sl E t = strT a) (e : a = b) : TLe (sl E t) (strT b) := TLe.of_eq (by rw [h, e])
/-! ### Steps -/
theorem spT {c : Bool} {A B : Prop} (h : c = true) (a : A) : (c = true → A) ∧ (c = false → B) := ⟨fun _ => a, fun e => by rw [h] at e; cases e⟩
theorem spF {c : Bool} {A B : Prop} (h : c = false) (b : B) : (c = true → A) ∧ (c = false → B) := ⟨fun e => (by rw [h] at e; cases e), fun _ => b⟩
theorem guT {c want : Bool} {A B : Prop} (h : c = want) (a : A) : (c = want → A) ∧ (c = (!want) → B) := ⟨fun _ => a, fun e => by rw [h] at e; cases want <;> cases e⟩
theorem guF {c want : Bool} {A B : Prop} (h : c = !want) (b : B) : (c = want → A) ∧ (c = (!want) → B) := ⟨fun e => (by rw [h] at e; cases want <;> cases e), fun _ => b⟩
theorem sp2 {c : Bool} {A B : Prop} (a : c = true → A) (b : c = false → B) : (c = true → A) ∧ (c = false → B) := ⟨a, b⟩
theorem exR {α : Type} {x : α} {K : α → Prop} (h : K x) : ∃ r, x = r ∧ K r := ⟨x, rfl, h⟩
theorem exE {α : Type} {x : α} {K : α → Prop} (y : α) (e : x = y) (h : K y) : ∃ r, x = r ∧ K r := ⟨y, e, h⟩
theorem exC {a : Int} {K : List UInt8 → Prop} {l : List UInt8} (h : EncB a l) (hk : K l) : ∃ l, EncB a l ∧ K l := ⟨l, h, hk⟩
theorem exS {l : List D} {j : Nat} {K : D → Prop} (d : D) (hd : l[j]? = some d) (hl : d.lv = [d]) (h : K d) : ∃ d : D, l[j]? = some d ∧ d.lv = [d] ∧ K d := ⟨d, hd, hl, h⟩
theorem exBR {P : Program} {op : BinOp} {t : Nat} {x y : Value} {K : Bool → Prop} (c : Bool) (hr : BinR P op t x y (.bool c)) (h : K c) : ∃ c : Bool, BinR P op t x y (.bool c) ∧ K c := ⟨c, hr, h⟩
theorem exCl {rows : List (List D)} {j t0 : Nat} {K : D → Prop} (l : List D) (d : D) (h1 : rows[j]? = some l) (h2 : l[t0]? = some d) (hl : d.lv = [d]) (h : K d) : ∃ (l : List D) (d : D), rows[j]? = some l ∧ l[t0]? = some d ∧ d.lv = [d] ∧ K d := ⟨l, d, h1, h2, hl, h⟩
theorem exL {rows : List (List D)} {j : Nat} {K : List D → Prop} (l : List D) (h1 : rows[j]? = some l) (h : K l) : ∃ l : List D, rows[j]? = some l ∧ K l := ⟨l, h1, h⟩
theorem exL0 {rows : List (List D)} {j t0 : Nat} {d : D} {K : List D → Prop} (l : List D) (h1 : rows[j]? = some l) (h2 : t0 < l.length) (hl : d.lv = [d]) (h : K l) : ∃ l : List D, rows[j]? = some l ∧ t0 < l.length ∧ d.lv = [d] ∧ K l := ⟨l, h1, h2, hl, h⟩
theorem exRA {rows : List (List D)} {j : Nat} {z : Int} {K : List D → Nat → Prop} (l : List D) (t0 : Nat) (h1 : rows[j]? = some l) (e : z = (t0 : Int)) (h2 : t0 < l.length) (h : K l t0) : ∃ (l : List D) (t0 : Nat), rows[j]? = some l ∧ z = (t0 : Int) ∧ t0 < l.length ∧ K l t0 := ⟨l, t0, h1, e, h2, h⟩
theorem exMk {a b : Int} {m : Nat} {K : Nat → Prop} (n : Nat) (e1 : a = (n : Int)) (e2 : b = (n : Int)) (hn : n ≤ m) (h : K n) : ∃ n : Nat, a = (n : Int) ∧ b = (n : Int) ∧ n ≤ m ∧ K n := ⟨n, e1, e2, hn, h⟩
theorem exT {kv : Value} {K : List (Value × Option (List D)) → Prop} (M0 : List (Value × Option (List D))) (h : K M0) : ∃ M1, mtake M0 kv = mtake M1 kv ∧ K M1 := ⟨M0, rfl, h⟩
theorem exI {l : List D} {z : Int} {K : D → Prop} (j : Nat) {d : D} (e : z = (j : Int)) (hd : l[j]? = some d) (h : K d) : ∃ (j : Nat) (d : D), z = (j : Int) ∧ l[j]? = some d ∧ K d := ⟨j, d, e, hd, h⟩
theorem exB {l : List UInt8} {z : Int} {K : UInt8 → Prop} (j : Nat) {d : UInt8} (e : z = (j : Int)) (hd : l[j]? = some d) (h : K d) : ∃ (j : Nat) (d : UInt8), z = (j : Int) ∧ l[j]? = some d ∧ K d := ⟨j, d, e, hd, h⟩
theorem exN {z : Int} {m : Nat} {K : Nat → Prop} (a : Nat) (e : z = (a : Int)) (ha : a ≤ m) (h : K a) : ∃ a : Nat, z = (a : Int) ∧ a ≤ m ∧ K a := ⟨a, e, ha, h⟩
theorem w_inc {i : Nat} (h : i + 1 ≤ 9223372036854775807) : IntKind.i64.wrap ((i : Int) + 1) = ((i + 1 : Nat) : Int) := by rw [wrap_in (by omega) (by omega)]; omega
theorem w_dec {i : Nat} (h0 : 1 ≤ i) (h : i ≤ 9223372036854775807) : IntKind.i64.wrap ((i : Int) - 1) = ((i - 1 : Nat) : Int) := by rw [wrap_in (by omega) (by omega)]; omega
end
end Go.Proofs.YtenlhfmchhljdaaDoor
