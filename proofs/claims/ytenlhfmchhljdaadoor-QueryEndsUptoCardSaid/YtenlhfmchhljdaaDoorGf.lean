/-
  Functions over ghost values: contracts, calls, entry and end; a region step by step.
-/
import Derived.Test.YtenlhfmchhljdaaDoorGc
namespace Go.Proofs.YtenlhfmchhljdaaDoor
open Go.RowKit

/-! ### Slots as a list -/
def envL (l : List T) : Nat → T := fun t => l.getD t .und
def objL (l : List (Nat × GObj)) : Objs := fun i => l.lookup i
theorem objL_nil : objL [] = fun _ => none := rfl
theorem objL_sub {L : List (Nat × GObj)} {objs : Objs} (h : ∀ p ∈ L, objs p.1 = some p.2) : ∀ id ob, objL L id = some ob → objs id = some ob := by
  intro id ob hl
  unfold objL at hl
  induction L with
  | nil => cases hl
  | cons p L ih =>
    rw [List.lookup_cons] at hl
    split at hl
    · next e => cases hl; rw [show id = p.1 from by simpa using e]; exact h p (by simp)
    · exact ih (fun q hq => h q (by simp [hq])) hl
def Trim (σ : Nat → T) : Nat → List T → Prop
  | _, [] => True
  | i, v :: vs => TLe (σ i) v ∧ Trim σ (i + 1) vs
theorem Trim.get {σ : Nat → T} : ∀ {vs : List T} {i : Nat}, Trim σ i vs → ∀ t, TLe (σ (i + t)) (vs.getD t .und)
  | [], _, _, t => by simpa using TLe.und _
  | v :: vs, i, h, 0 => by simpa using h.1
  | v :: vs, i, h, t + 1 => by
    have := Trim.get h.2 t
    rw [show i + 1 + t = i + (t + 1) from by omega] at this
    simpa using this
theorem Trim.all {σ : Nat → T} {vs : List T} (h : Trim σ 0 vs) : ∀ t, TLe (σ t) (envL vs t) := fun t => by have := h.get t; rwa [Nat.zero_add] at this
theorem Trim.nil {σ : Nat → T} {i : Nat} : Trim σ i [] := trivial
theorem Trim.to {σ : Nat → T} {i : Nat} {v : T} {vs : List T} (h : σ i = v) (ht : Trim σ (i + 1) vs) : Trim σ i (v :: vs) := ⟨TLe.of_eq h, ht⟩
theorem Trim.le {σ : Nat → T} {i : Nat} {v : T} {vs : List T} (h : TLe (σ i) v) (ht : Trim σ (i + 1) vs) : Trim σ i (v :: vs) := ⟨h, ht⟩
/-- k slots, as they are. -/
inductive TrimN (σ : Nat → T) : Nat → Nat → List T → Prop
  | nil {i : Nat} : TrimN σ i 0 []
  | cons {i k : Nat} {v : T} {vs : List T} (h : σ i = v) (ht : TrimN σ (i + 1) k vs) : TrimN σ i (k + 1) (v :: vs)
theorem TrimN.trim {σ : Nat → T} {i k : Nat} {vs : List T} (h : TrimN σ i k vs) : Trim σ i vs := by
  induction h with
  | nil => exact trivial
  | cons h _ ih => exact ⟨TLe.of_eq h, ih⟩

/-! ### A region -/
inductive RunL (P : Program) (ops : Array Oper) (n : Nat) : Nat → List Oper → List FP → (Nat → T) → Objs → (Nat → T) → Objs → Prop
  | nil {i : Nat} {σ : Nat → T} {objs : Objs} : RunL P ops n i [] [] σ objs σ objs
  | cons {i : Nat} {o : Oper} {os : List Oper} {fps : List FP} {σ σ' : Nat → T} {objs objs' : Objs} {pre post : List (Nat × GObj)} {v : T} (hn : DstLt n o) (hg : GuardT ops σ o true) (h : Tri P o σ pre v post)
      (hp : ∀ p ∈ pre, objs p.1 = some p.2) (ht : RunL P ops n (i + 1) os fps (updT σ o.dst v) (ovr objs post) σ' objs') : RunL P ops n i (o :: os) (⟨pre.map (·.1), post.map (·.1), false⟩ :: fps) σ objs σ' objs'
  | skip {i : Nat} {o : Oper} {os : List Oper} {fps : List FP} {σ σ' : Nat → T} {objs objs' : Objs} (hn : DstLt n o) (hg : GuardT ops σ o false)
      (ht : RunL P ops n (i + 1) os fps (updT σ o.dst (.tup [])) objs σ' objs') : RunL P ops n i (o :: os) (⟨[], [], false⟩ :: fps) σ objs σ' objs'
section
variable {P : Program} {ops : Array Oper} {n : Nat} {Γ : Cx} {σ σ' : Nat → T} {objs objs' : Objs} {Q : GPost}
def zipFrom : Nat → List FP → List (Nat × FP)
  | _, [] => []
  | i, f :: fs => (i, f) :: zipFrom (i + 1) fs
theorem RunL.run {i : Nat} {os : List Oper} {fps : List FP} (h : RunL P ops n i os fps σ objs σ' objs') (ho : ops.toList.drop i = os) : Run P ops n (zipFrom i fps) σ objs σ' objs' := by
  have key : ∀ (i : Nat) (o : Oper) (os : List Oper), ops.toList.drop i = o :: os → ops[i]? = some o ∧ ops.toList.drop (i + 1) = os := fun i o os h => by
    refine ⟨?_, ?_⟩
    · have := congrArg (·[0]?) h
      simpa using this
    · rw [← List.drop_drop, h]; rfl
  induction h with
  | nil => exact .nil
  | cons hn hg h hp ht ih => exact .cons (key _ _ _ ho).1 hn hg h hp (ih (key _ _ _ ho).2)
  | skip hn hg ht ih => exact .skip (key _ _ _ ho).1 hn hg (ih (key _ _ _ ho).2)
theorem RunL.len {i : Nat} {os : List Oper} {fps : List FP} (h : RunL P ops n i os fps σ objs σ' objs') : fps.length = os.length := by
  induction h with
  | nil => rfl
  | cons _ _ _ _ _ ih => simp [ih]
  | skip _ _ _ ih => simp [ih]
theorem zip_fst : ∀ (fps : List FP) (i : Nat), (zipFrom i fps).map (·.1) = List.range' i fps.length
  | [], _ => rfl
  | f :: fs, i => by rw [zipFrom, List.map_cons, zip_fst fs (i + 1), List.length_cons, List.range'_succ]
theorem AW.reg0 {rid : Nat} {l : List Oper} {fps : List FP} (h : RunL P l.toArray n 0 l fps σ objs σ' objs') (hq : Q .normal σ' objs') : AW P Γ n (.region rid l.toArray false) σ objs Q := fun a w hc =>
  wp_seq_region (h.run (by simp)) (by rw [zip_fst, h.len, List.range_eq_range']; simp) hc fun a' w' hc' => ⟨σ', objs', hq, hc'⟩
theorem AW.reg1 {rid : Nat} {l : List Oper} {fps : List FP} (hm : P.follows .mixedOrders = true) (h : RunL P l.toArray n 0 l fps σ objs σ' objs') (hB : orderB l.toArray (zipFrom 0 fps) = true) (hq : Q .normal σ' objs') : AW P Γ n (.region rid l.toArray true) σ objs Q := fun a w hc =>
  wp_any_region hm (h.run (by simp)) (by rw [zip_fst, h.len, List.range_eq_range']; simp) hB hc fun a' w' hc' => ⟨σ', objs', hq, hc'⟩
/-- The same, what follows handed on. -/
def RunK (P : Program) (ops : Array Oper) (n i : Nat) (os : List Oper) (σ : Nat → T) (objs : Objs) (K : List FP → (Nat → T) → Objs → Prop) : Prop := ∃ fps σ' objs', RunL P ops n i os fps σ objs σ' objs' ∧ K fps σ' objs'
theorem RunK.nil {i : Nat} {K : List FP → (Nat → T) → Objs → Prop} (h : K [] σ objs) : RunK P ops n i [] σ objs K := ⟨_, _, _, .nil, h⟩
theorem RunK.cons {i : Nat} {o : Oper} {os : List Oper} {pre post : List (Nat × GObj)} {v : T} {K : List FP → (Nat → T) → Objs → Prop} (h : Tri P o σ pre v post) (hn : DstLt n o) (hg : GuardT ops σ o true)
    (hp : ∀ p ∈ pre, objs p.1 = some p.2) (ht : RunK P ops n (i + 1) os (updT σ o.dst v) (ovr objs post) fun fps => K (⟨pre.map (·.1), post.map (·.1), false⟩ :: fps)) : RunK P ops n i (o :: os) σ objs K := by
  obtain ⟨fps, σ', objs', h1, h2⟩ := ht
  exact ⟨_, _, _, .cons hn hg h hp h1, h2⟩
theorem RunK.skip {i : Nat} {o : Oper} {os : List Oper} {K : List FP → (Nat → T) → Objs → Prop} (hg : GuardT ops σ o false) (hn : DstLt n o)
    (ht : RunK P ops n (i + 1) os (updT σ o.dst (.tup [])) objs fun fps => K (⟨[], [], false⟩ :: fps)) : RunK P ops n i (o :: os) σ objs K := by
  obtain ⟨fps, σ', objs', h1, h2⟩ := ht
  exact ⟨_, _, _, .skip hn hg h1, h2⟩
theorem AW.reg0k {rid : Nat} {l : List Oper} (h : RunK P l.toArray n 0 l σ objs fun _ σ' objs' => Q .normal σ' objs') : AW P Γ n (.region rid l.toArray false) σ objs Q := by
  obtain ⟨fps, σ', objs', h1, h2⟩ := h
  exact AW.reg0 h1 h2
theorem AW.reg1k {rid : Nat} {l : List Oper} (hm : P.follows .mixedOrders = true) (h : RunK P l.toArray n 0 l σ objs fun fps σ' objs' => orderB l.toArray (zipFrom 0 fps) = true ∧ Q .normal σ' objs') : AW P Γ n (.region rid l.toArray true) σ objs Q := by
  obtain ⟨fps, σ', objs', h1, h2, h3⟩ := h
  exact AW.reg1 hm h1 h2 h3
def TrimK (σ : Nat → T) (i k : Nat) (K : List T → Prop) : Prop := ∃ vs, TrimN σ i k vs ∧ K vs
theorem TrimK.nil {i : Nat} {K : List T → Prop} (h : K []) : TrimK σ i 0 K := ⟨_, .nil, h⟩
theorem TrimK.cons {i k : Nat} {v : T} {K : List T → Prop} (h : σ i = v) (ht : TrimK σ (i + 1) k fun vs => K (v :: vs)) : TrimK σ i (k + 1) K := by
  obtain ⟨vs, h1, h2⟩ := ht
  exact ⟨_, .cons h h1, h2⟩
theorem AW.trimk {c : Code} (k : Nat) (h : TrimK σ 0 k fun vs => AW P Γ n c (envL vs) objs Q) : AW P Γ n c σ objs Q := by
  obtain ⟨vs, h1, h2⟩ := h
  exact h2.weak h1.trim.all fun _ _ h => h
/-- The slots that are variables, as a list. -/
theorem AW.trim {c : Code} {vs : List T} (k : Nat) (h : TrimN σ 0 k vs) (hq : AW P Γ n c (envL vs) objs Q) : AW P Γ n c σ objs Q := hq.weak h.trim.all fun _ _ h => h
theorem AW.to {c : Code} (vs : List T) (h : Trim σ 0 vs) (hq : AW P Γ n c (envL vs) objs Q) : AW P Γ n c σ objs Q := hq.weak h.all fun _ _ h => h
theorem AW.tos {c : Code} (vs : List T) (L : List (Nat × GObj)) (h : Trim σ 0 vs) (ho : ∀ p ∈ L, objs p.1 = some p.2) (hq : AW P Γ n c (envL vs) (objL L) Q) : AW P Γ n c σ objs Q := hq.weak h.all (objL_sub ho)
theorem dlt {o : Oper} {d : Nat} (h : o.dst = some d) (hb : Nat.blt d n = true) : DstLt n o := fun e he => by rw [h] at he; cases he; exact Nat.le_of_ble_eq_true hb
theorem dno {o : Oper} (h : o.dst = none) : DstLt n o := fun e he => by rw [h] at he; cases he
theorem gno {o : Oper} (h : o.guard = none) : GuardT ops σ o true := by unfold GuardT; rw [h]
theorem gyes {o : Oper} {j t : Nat} {b : Bool} (h : o.guard = some (j, b)) (hj : (ops[j]?).bind (·.dst) = some t) (ht : σ t = .d (.v (.bool b))) : GuardT ops σ o true := by
  unfold GuardT; rw [h]; exact ⟨t, hj, .inl ⟨b, ht, by simp⟩⟩
theorem gskip {o : Oper} {j t : Nat} {b : Bool} (h : o.guard = some (j, b)) (hj : (ops[j]?).bind (·.dst) = some t) (ht : σ t = .d (.v (.bool (!b)))) : GuardT ops σ o false := by
  unfold GuardT; rw [h]; exact ⟨t, hj, .inl ⟨!b, ht, by cases b <;> rfl⟩⟩
theorem gnone {o : Oper} {j t : Nat} {b : Bool} (h : o.guard = some (j, b)) (hj : (ops[j]?).bind (·.dst) = some t) (ht : σ t = .tup []) : GuardT ops σ o false := by
  unfold GuardT; rw [h]; exact ⟨t, hj, .inr ⟨ht, rfl⟩⟩
theorem pnil {objs : Objs} : ∀ p ∈ ([] : List (Nat × GObj)), objs p.1 = some p.2 := fun p h => by cases h
theorem pone {objs : Objs} {id : Nat} {ob : GObj} (h : objs id = some ob) : ∀ p ∈ [(id, ob)], objs p.1 = some p.2 := fun p hp => by
  obtain rfl := List.mem_singleton.1 hp; exact h

theorem ptwo {objs : Objs} {i j : Nat} {a b : GObj} (h : objs i = some a) (h' : objs j = some b) : ∀ p ∈ [(i, a), (j, b)], objs p.1 = some p.2 := fun p hp => by
  rcases List.mem_cons.1 hp with rfl | hp
  · exact h
  · obtain rfl := List.mem_singleton.1 hp; exact h'

/-! ### Contracts -/
/-- f, of arguments that read so, answers what reads as res; of what was there nothing turns. -/
def FnD (P : Program) (f : FuncId) (args : List T) (res : T) : Prop := ∀ (w : World) (g : Gh) (vs : List Value), TabsIn w → (∀ b o x, g.S b o = some x → w.cell? ⟨b, o, none⟩ = some x) → Reps g args vs →
  Calls P f vs.toArray w fun e w' => ∃ v S', e = .returned v ∧ SLe g.S S' ∧ (∀ b o, b < w.heap.size → S' b o = g.S b o) ∧ (∀ b o x, S' b o = some x → w'.cell? ⟨b, o, none⟩ = some x) ∧ RepT ⟨S', g.blk, g.row, g.len⟩ res v ∧ Below w.heap.size w w'
theorem below_obj {g : Gh} {S' : Sm} {w w' : World} {id : Nat} {ob : GObj} (h : ObjAt Γ g w id ob) (hS : SLe g.S S') (ho : ∀ b o, b < w.heap.size → S' b o = g.S b o) (hb : Below w.heap.size w w') : ObjAt Γ ⟨S', g.blk, g.row, g.len⟩ w' id ob := by
  have hle : GLe (fun _ => True) g ⟨S', g.blk, g.row, g.len⟩ := ⟨hS, fun _ _ _ => rfl, fun _ _ => Nat.le_refl _, fun _ _ _ => rfl⟩
  exact h.same hle rfl rfl rfl (fun _ _ => trivial) fun b hbk => ⟨hb.block _ (h.blk_lt hbk), fun o => ho b o (h.blk_lt hbk)⟩
theorem WI.call {g : Gh} {S' : Sm} {w w' : World} (h : WI Γ g objs w) (hS : SLe g.S S') (ho : ∀ b o, b < w.heap.size → S' b o = g.S b o) (hi : ∀ b o x, S' b o = some x → w'.cell? ⟨b, o, none⟩ = some x) (hb : Below w.heap.size w w') : WI Γ ⟨S', g.blk, g.row, g.len⟩ objs w' := by
  refine ⟨hi, fun id ob h1 => below_obj (h.obj id ob h1) hS ho hb, fun i j oi oj b h1 h2 h3 h4 => h.apart i j oi oj b h1 h2 ?_ ?_, h.fr.trans hb, fun b o hb' hx => (ho b o (Nat.lt_of_lt_of_le hb' h.fr.size)).trans (h.old b o hb' hx), h.ext.trans ⟨hS, fun _ _ _ => rfl, fun _ _ => Nat.le_refl _, fun _ _ _ => rfl⟩⟩
  · rw [← blk_same (g := g) (g' := ⟨S', g.blk, g.row, g.len⟩) rfl rfl oi]; exact h3
  · rw [← blk_same (g := g) (g' := ⟨S', g.blk, g.row, g.len⟩) rfl rfl oj]; exact h4
inductive TLes (σ : Nat → T) : List Operand → List T → Prop
  | nil : TLes σ [] []
  | cons {x : Operand} {t : T} {xs : List Operand} {ts : List T} (h : TLe (opT σ x) t) (ht : TLes σ xs ts) : TLes σ (x :: xs) (t :: ts)
theorem reps_of {g : Gh} {a : Act} : ∀ {xs : List Operand} {args : List T}, (∀ x ∈ xs, RepT g (opT σ x) (a.eval x)) → TLes σ xs args → Reps g args (xs.map a.eval)
  | [], _, _, .nil => .nil
  | x :: xs, _, h, .cons h1 ht => .cons (h1 g _ (h x (by simp))) (reps_of (fun y hy => h y (by simp [hy])) ht)
theorem t_call {o : Oper} {f : FuncId} {xs : List Operand} {ts : Array TypeId} {args : List T} {res : T} (ho : o.op = .call { callee := .value (.func f), args := xs.toArray, argTypes := ts })
    (hE : ∀ args w, (callFunc f args).run P w = .ok (.enter f args) w) (hx : TLes σ xs args) (hF : FnD P f args res) : Tri P o σ [] res [] := by
  intro Γ g objs a w Q hr _ hw
  have hreps := reps_of (a := a) (g := g) (fun x hx => rep_op hr (by rw [ho]; simp [Op.operands, Call.operands, hx])) hx
  unfold Oper.wp
  have hrun : (execOp a.eval o).run P w = .ok (.enter f (xs.map a.eval).toArray) w := by
    unfold execOp; rw [ho]
    simp [resolve, Deferred.ofValue, Act.eval, invoke, hE]
  rw [hrun]
  refine (hF w g _ hw.fr.tabs hw.imm hreps).mono ?_
  rintro e w' ⟨v, S', rfl, h1, h2, h3, h4, h5⟩
  exact ⟨⟨S', g.blk, g.row, g.len⟩, v, rfl, ⟨h1, fun _ _ _ => rfl, fun _ _ => Nat.le_refl _, fun _ _ _ => rfl⟩, h4, hw.call h1 h2 h3 h5⟩
theorem t_callf {o : Oper} {f : FuncId} {xs : List Operand} {ts : Array TypeId} {args : List T} {res : T} (ho : o.op = .call { callee := .value (.func f), args := xs.toArray, argTypes := ts })
    (hE : ∀ args w, (callFunc f args).run P w = .ok (.enter f args) w) (hF : FnD P f args res) (hx : TLes σ xs args) : Tri P o σ [] res [] := t_call ho hE hx hF
/-- A function by its body. -/
theorem FnD.of_AW {f : FuncId} {fn : Func} {c : Code} {args : List T} {res : T} {r : Tmp} (hf : P.funcs[f]? = some fn) (hb : fn.body = some c) (hr : fn.results = #[.tmp r]) (hN : fn.ntmps = n) (hk : args.length ≤ n) (hid : ∀ id, res.has id = false)
    (h : ∀ Γ : Cx, (∀ i, i < 1000 → ¬ Γ.A i) → AW P Γ n c (envL args) (objL []) fun e σ' _ => (e = .ret ∨ e = .normal) ∧ TLe (σ' r) res) : FnD P f args res := by
  intro w g vs htab hi hreps
  have hlen : ∀ {l : List T} {xs : List Value}, Reps g l xs → xs.length = l.length := fun {l} => by
    induction l with
    | nil => intro xs h; cases h; rfl
    | cons t l ih => intro xs h; cases h with | cons h1 ht => simp [ih ht]
  have hl := hlen hreps
  refine calls_of_wp hf hb (wp_mono (h ⟨fun _ => False, w, g, fun _ => False, htab, fun _ _ => id⟩ (fun _ _ => id) _ w ⟨rfl, ?_, g, fun t => ?_, ⟨hi, fun id ob h => ?_, fun i j oi oj b h => ?_, Fr.refl _, fun _ _ _ _ => rfl, GLe.refl _ _⟩⟩) ?_)
  · simp [hN, hl]; omega
  · show RepT g (args.getD t .und) _
    by_cases ht : t < args.length
    · obtain ⟨v, hv, hrv⟩ := reps_at hreps (i := t) (t := args[t]) (List.getElem?_eq_getElem ht)
      rw [List.getD_eq_getElem?_getD, List.getElem?_eq_getElem ht, Array.getD_eq_getD_getElem?, Array.getElem?_append_left (by simp [hl]; exact ht)]
      simpa [hv] using hrv
    · rw [List.getD_eq_getElem?_getD, List.getElem?_eq_none (by omega)]
      exact .und
  · cases h
  · cases h
  · rintro e a' w' ⟨σ', objs', ⟨he, hres⟩, hd, hs, g', hr', hw'⟩
    have key : a'.defers = [] ∧ ∃ v, (results fn a'.tmps).run P w' = .ok v w' ∧ ∃ v' S', Ending.returned v = .returned v' ∧ SLe g.S S' ∧ (∀ b o, b < w.heap.size → S' b o = g.S b o) ∧ (∀ b o x, S' b o = some x → w'.cell? ⟨b, o, none⟩ = some x) ∧ RepT ⟨S', g.blk, g.row, g.len⟩ res v' ∧ Below w.heap.size w w' := by
      refine ⟨hd, _, results_tmp hr _ _ _, _, g'.S, rfl, hw'.ext.S, fun b o hb => hw'.old b o hb id, hw'.imm, ?_, hw'.fr.below fun _ => id⟩
      have hrr := hres g' _ (hr' r)
      exact hrr.mono (A := fun _ => False) (g := g') (g' := ⟨g'.S, g.blk, g.row, g.len⟩) ⟨SLe.refl _, fun _ h => h.elim, fun _ h => h.elim, fun _ h => h.elim⟩ fun id h => by rw [hid id] at h; cases h
    rcases he with rfl | rfl
    · exact key
    · exact key
end
end Go.Proofs.YtenlhfmchhljdaaDoor
