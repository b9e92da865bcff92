/-
  Gy, Gz, in one.
-/
import Derived.Test.YtngklbnodknadaaGreatDoorMad
import Derived.IntWalk
import Derived.OwnWalk
section
namespace Go.Proofs.YtngklbnodknadaaGreatDoor
open Go.RowKit

section
variable {P : Program} {Γ : Cx} {o : Oper} {σ : Nat → T} {n : Nat} {objs : Objs} {Q : GPost}
/-! ### Stores -/
def T.cv : T → Option (List T)
  | .d (.agg l) => some (l.map .d)
  | .d x => some [.d x]
  | .tup _ => none
  | .ag l => some l
  | .und => none
  | t => some [t]
theorem one_cells {v : Value} (h : v.oneCell' = true) : v.cells.toList = [v] := by cases v <;> first | rfl | cases h
theorem cv_spec {g : Gh} {t : T} {cv : List T} {y : Value} (hc : t.cv = some cv) (h : RepT g t y) : Reps g cv y.cells.toList ∧ ∀ x ∈ y.cells.toList, x.oneCell' = true := by
  cases h with
  | @d x _ h =>
    have h2 := rep_cells h
    cases x with
    | agg l => cases hc; exact ⟨reps_d h2, h2.one⟩
    | v u => cases hc; exact ⟨by simpa [D.lv] using reps_d h2, h2.one⟩
    | sl k l => cases hc; exact ⟨by simpa [D.lv] using reps_d h2, h2.one⟩
  | pi h hr => cases hc; exact ⟨.cons (.pi h hr) .nil, by intro x hx; simp [Value.cells] at hx; subst hx; rfl⟩
  | ref ha => cases hc; exact ⟨.cons (.ref ha) .nil, by intro x hx; simp [Value.cells] at hx; subst hx; rfl⟩
  | own h hn hl =>
    cases hc
    have h1 : y.oneCell' = true := by cases h; rfl
    rw [one_cells h1]
    exact ⟨.cons (.own h hn hl) .nil, by intro x hx; simp at hx; subst hx; exact h1⟩
  | mrow ha hn hq => cases hc; exact ⟨.cons (.mrow ha hn hq) .nil, by intro x hx; simp [Value.cells] at hx; subst hx; rfl⟩
  | stk h1 hn hl =>
    cases hc
    rw [one_cells h1]
    exact ⟨.cons (.stk h1 hn hl) .nil, by intro x hx; simp at hx; subst hx; exact h1⟩
  | mp ha => cases hc; exact ⟨.cons (.mp ha) .nil, by intro x hx; simp [Value.cells] at hx; subst hx; rfl⟩
  | fn h => cases hc; exact ⟨.cons (.fn h) .nil, by intro x hx; simp [Value.cells] at hx; subst hx; rfl⟩
  | pr h1 h2 => cases hc; rw [one_cells h1]; exact ⟨.cons (.pr h1 h2) .nil, by intro x hx; simp at hx; subst hx; exact h1⟩
  | bf h => cases hc; exact ⟨.cons (.bf h) .nil, by intro x hx; simp [Value.cells] at hx; subst hx; rfl⟩
  | tup h => cases hc
  | ag h h1 => cases hc; exact ⟨by simpa [Value.cells] using h, by simpa [Value.cells] using h1⟩
  | und => cases hc
theorem store_run {b off e : Nat} : ∀ (vs : List Value) (i : Nat) (w : World) (xs : List Value), w.heap[b]? = some (.cells xs.toArray e (0, 0)) → off + i + vs.length ≤ xs.length → (∀ v ∈ vs, v.oneCell' = true) →
    ∃ w', (storeCells ⟨b, off, none⟩ vs i).run P w = .ok () w' ∧ w'.heap[b]? = some (.cells (xs.take (off + i) ++ vs ++ xs.drop (off + i + vs.length)).toArray e (0, 0)) ∧ w.grownBy w' (some b) ∧ w'.heap.size = w.heap.size
  | [], i, w, xs, h, _, _ => ⟨w, by simp [storeCells], by simpa using h, World.grownBy.refl _ _, rfl⟩
  | v :: vs, i, w, xs, h, hl, h1 => by
    rw [List.length_cons] at hl
    have hcell : w.cell? ⟨b, off + i, none⟩ = some (xs[off + i]'(by omega)) := by
      unfold World.cell?
      dsimp only
      rw [h]
      simp
    have hfr : w.frozen? ⟨b, off + i, none⟩ = false := by simp [World.frozen?, h]
    have hh : (w.setCell ⟨b, off + i, none⟩ v).heap[b]? = some (.cells (xs.set (off + i) v).toArray e (0, 0)) := by
      obtain ⟨hlt, hk⟩ := Array.getElem?_eq_some_iff.1 h
      show (w.heap.modify b _)[b]? = _
      rw [Array.getElem?_eq_getElem (by rw [Array.size_modify]; exact hlt), Array.getElem_modify_self, hk]
      simp
    obtain ⟨w', e1, e2, e3, e4⟩ := store_run (b := b) (off := off) (e := e) vs (i + 1) (w.setCell ⟨b, off + i, none⟩ v) (xs.set (off + i) v) hh (by simp; omega) (fun u hu => h1 u (by simp [hu]))
    have hv := h1 v (by simp)
    refine ⟨w', ?_, ?_, grown_trans (grown_set w b (off + i) v) e3, by rw [e4]; show (w.heap.modify b _).size = _; rw [Array.size_modify]⟩
    · have : (store (Addr.add ⟨b, off, none⟩ i) v).run P w = .ok () (w.setCell ⟨b, off + i, none⟩ v) := by
        rw [add_lit']
        unfold store
        cases v <;> first | (cases hv; done) | simp [Sem.run, hcell, hfr]
      simp only [storeCells, Sem.run_bind, this, Result.andThen_ok, e1]
    · rw [e2, List.length_cons, show off + (i + 1) = off + i + 1 from by omega, show off + i + 1 + vs.length = off + i + (vs.length + 1) from by omega]
      rw [List.drop_set_of_lt (by omega), List.take_set, List.take_succ_eq_append_getElem (by omega), List.set_append_right _ _ (by simp; omega)]
      simp [Nat.min_eq_left (show off + i ≤ xs.length by omega)]
theorem WI.store {g : Gh} {w w' : World} {id e : Nat} {ts ts' : List T} {xs' : List Value} (hw : WI Γ g objs w) (ho : objs id = some (.cells e ts)) (h2 : w'.heap[g.blk id]? = some (.cells xs'.toArray e (0, 0))) (hg : w.grownBy w' (some (g.blk id)))
    (hr : Reps g ts' xs') (h1 : ∀ x ∈ xs', x.oneCell' = true) : WI Γ g (ovr objs [(id, .cells e ts')]) w' := by
  obtain ⟨xs, a0, a1, a2, a3, a4, a5⟩ := hw.obj id _ ho
  have hblk : ∀ k, k < w.heap.size → k ≠ g.blk id → w'.heap[k]? = w.heap[k]? := fun k hk hne => hg.block k hk fun e1 => hne (by simpa using e1)
  have back : ∀ (i : Nat) (oi : GObj), ovr objs [(id, .cells e ts')] i = some oi → (i = id ∧ oi = .cells e ts') ∨ (i ≠ id ∧ objs i = some oi) := by
    intro i oi h
    by_cases hid : i = id
    · subst hid; left; simp [ovr] at h; exact ⟨rfl, h.symm⟩
    · have : (i == id) = false := by simpa using hid
      exact .inr ⟨hid, by simpa [ovr, List.lookup, this] using h⟩
  refine ⟨fun b o x h => ?_, fun i oi hi => ?_, fun i j oi oj b h3 h4 h5 h6 => ?_, ?_, hw.old, hw.ext⟩
  · have hb : b ≠ g.blk id := fun e1 => by rw [e1, a5 o] at h; cases h
    have hlt := World.block_lt_of_cell? w ⟨b, o, none⟩ (hw.imm b o x h)
    rw [World.cell?_of_block (w := w) (hblk b hlt hb)]
    exact hw.imm b o x h
  · rcases back i oi hi with ⟨rfl, rfl⟩ | ⟨hne, hi'⟩
    · exact ⟨xs', a0, a1, h2, hr, h1, a5⟩
    · have h3 := hw.obj i oi hi'
      refine h3.same (GLe.refl (fun _ => True) g) rfl rfl rfl (fun _ _ => trivial) fun b hb => ⟨hblk b (h3.blk_lt hb) fun e1 => hne (hw.apart i id _ _ b hi' ho hb e1.symm), fun _ => rfl⟩
  · have key : ∀ (i : Nat) (oi : GObj), ovr objs [(id, .cells e ts')] i = some oi → oi.blk g i b → ∃ oi', objs i = some oi' ∧ oi'.blk g i b := fun i oi hi hb => by
      rcases back i oi hi with ⟨rfl, rfl⟩ | ⟨-, hi'⟩
      · exact ⟨_, ho, hb⟩
      · exact ⟨oi, hi', hb⟩
    obtain ⟨oi', c1, c2⟩ := key i oi h3 h5
    obtain ⟨oj', c3, c4⟩ := key j oj h4 h6
    exact hw.apart i j oi' oj' b c1 c3 c2 c4
  · refine ⟨hg.os.trans hw.fr.os, hg.tape.trans hw.fr.tape, hg.output.trans hw.fr.output, Nat.le_trans hw.fr.size hg.size, fun k hk hx => ?_⟩
    refine (hblk k (Nat.lt_of_lt_of_le hk hw.fr.size) fun e1 => ?_).trans (hw.fr.block k hk hx)
    subst e1
    rcases a1 with h | h
    · omega
    · exact hx h
theorem t_store {t : TypeId} {x v : Operand} {bb : Bool} {id off e : Nat} {ts cv : List T} {tv : T} (ho : o.op = .store t x v) (hx : opT σ x = .ref id off) (hv : TLe (opT σ v) tv) (hc : tv.cv = some cv) (ht : aggOf? P t = some (bb, cv.length)) (hl : off + cv.length ≤ ts.length) :
    Tri P o σ [(id, .cells e ts)] .und [(id, .cells e (ts.take off ++ cv ++ ts.drop (off + cv.length)))] := by
  intro Γ g objs a w Q hr hp hw
  have e1 := rep_op hr (x := x) (by rw [ho]; simp [Op.operands])
  have e2 := hv g _ (rep_op hr (x := v) (by rw [ho]; simp [Op.operands]))
  rw [hx] at e1
  have hid := hp _ (List.mem_singleton.2 rfl)
  obtain ⟨xs, a0, a1, a2, a3, a4, a5⟩ := hw.obj id _ hid
  obtain ⟨c1, c2⟩ := cv_spec hc e2
  have hcl := c1.len
  have hxl := a3.len
  generalize hy : a.eval x = y at e1
  cases e1 with
  | ref ha =>
    obtain ⟨w', r1, r2, r3, -⟩ := store_run (P := P) (off := off) (a.eval v).cells.toList 0 w xs a2 (by rw [hcl, hxl]; omega) c2
    have hrun : (Instr.storeAt t (.pointer (some ⟨g.blk id, off, none⟩)) (a.eval v)).run P w = .ok () w' := by
      have hsz : (a.eval v).cells.size = cv.length := by rw [← Array.length_toList, hcl]
      simp only [Instr.storeAt, Instr.sureAddr, storeVar, Sem.run_bind, Sem.run_pure, Result.andThen_ok, (agg_spec ht w).2, hsz, ne_eq, not_true_eq_false, if_false, r1]
    unfold Oper.wp execOp
    simp only [ho, hy, Sem.run_bind, hrun, Result.andThen_ok, Sem.run_pure]
    rw [Nat.add_zero, hcl] at r2
    have hnew := ((a3.take off).app c1).app (a3.drop (off + cv.length))
    exact ⟨g, undef, rfl, GLe.refl _ _, .und, hw.store hid r2 r3 hnew (fun u hu => by
      rcases List.mem_append.1 hu with hu | hu
      · rcases List.mem_append.1 hu with hu | hu
        · exact a4 u (List.mem_of_mem_take hu)
        · exact c2 u hu
      · exact a4 u (List.mem_of_mem_drop hu))⟩

/-! ### Lent objects -/
inductive Lend : List T → List T → List (Nat × GObj) → Prop
  | nil : Lend [] [] []
  | le {t t' : T} {ts ts' : List T} {pre : List (Nat × GObj)} (h : TLe t t') (ht : Lend ts ts' pre) : Lend (t :: ts) (t' :: ts') pre
  | ref {id off e : Nat} {ds : List D} {ts ts' : List T} {pre : List (Nat × GObj)} (ht : Lend ts ts' pre) : Lend (.ref id off :: ts) (.pi (ds.drop off) :: ts') ((id, .cells e (ds.map .d)) :: pre)
theorem Lend.ref0 {id e : Nat} {ds : List D} {ts ts' : List T} {pre : List (Nat × GObj)} (ht : Lend ts ts' pre) : Lend (.ref id 0 :: ts) (.pi ds :: ts') ((id, .cells e (ds.map .d)) :: pre) := Lend.ref (off := 0) ht
def Flat (t : T) : Prop := ∀ (g g' : Gh) (y : Value), RepT g t y → RepT g' t y
theorem flat_v {x : Value} : Flat (.d (.v x)) := fun _ _ _ h => by cases h with | d h => cases h with | v h => exact .d (.v h)
theorem flat_und : Flat .und := fun _ _ _ _ => .und
/-- What is known for as long as nothing of w turns. -/
def allS (w : World) : Sm := fun b o => w.cell? ⟨b, o, none⟩
theorem lend_reps {g : Gh} {w : World} (hw : WI Γ g objs w) : ∀ {ts ts' : List T} {pre : List (Nat × GObj)} {vs : List Value}, Lend ts ts' pre → Reps g ts vs → (∀ p ∈ pre, objs p.1 = some p.2) → Reps ⟨allS w, g.blk, g.row, g.len⟩ ts' vs
  | _, _, _, _, .nil, .nil, _ => .nil
  | _, _, _, _, .le h ht, .cons h1 h2, hp => .cons ((h g _ h1).mono (A := fun _ => True) (g := g) (g' := ⟨allS w, g.blk, g.row, g.len⟩) ⟨fun b o x hx => hw.imm b o x hx, fun _ _ _ => rfl, fun _ _ => Nat.le_refl _, fun _ _ _ => rfl⟩ fun _ _ => trivial) (lend_reps hw ht h2 hp)
  | _, _, _, _, .ref (id := id) (off := off) (e := e) (ds := ds) ht, .cons h1 h2, hp => by
    cases h1 with
    | ref ha =>
      obtain ⟨xs, a0, a1, a2, a3, a4, a5⟩ := hw.obj id _ (hp (id, .cells e (ds.map .d)) (by simp))
      have h3 := reps_dd a3 a4
      refine .cons (.pi (g := ⟨allS w, g.blk, g.row, g.len⟩) (xs := xs.drop off) ((h3.drop off).mono (S' := allS w) fun b o x hx => hw.imm b o x hx) fun i hi => ?_) (lend_reps hw ht h2 fun p hp' => hp p (by simp [hp']))
      show w.cell? ⟨g.blk id, off + i, none⟩ = _
      unfold World.cell?
      dsimp only
      rw [a2, List.getElem?_drop]
      simp
theorem t_calll {c : Operand} {f : FuncId} {xs : List Operand} {ts : Array TypeId} {caps args : List T} {res : T} {pre : List (Nat × GObj)} (ho : o.op = .call { callee := .value c, args := xs.toArray, argTypes := ts }) (hc : opT σ c = .fn f caps)
    (hE : ∀ args w, (callFunc f args).run P w = .ok (.enter f args) w) (hx : Lend (opTs σ xs ++ caps) args pre) (hF : FnD P f args res) (hfl : Flat res) : Tri P o σ pre res [] := by
  intro Γ g objs a w Q hr hp hw
  have e1 := rep_op hr (x := c) (by rw [ho]; simp [Op.operands, Call.operands])
  rw [hc] at e1
  have e2 := reps_ops (g := g) (a := a) (σ := σ) (xs := xs) fun x hx => rep_op hr (by rw [ho]; simp [Op.operands, Call.operands, hx])
  generalize hy : a.eval c = y at e1
  cases e1 with
  | @fn _ _ vs h =>
    have h3 := lend_reps hw hx (e2.app h) hp
    unfold Oper.wp
    have hrun : (execOp a.eval o).run P w = .ok (.enter f (xs.map a.eval ++ vs).toArray) w := by
      unfold execOp; rw [ho]
      simp [resolve, Deferred.ofValue, hy, invoke, hE]
    rw [hrun]
    refine (hF w _ _ hw.fr.tabs (fun b o x h => h) h3).mono ?_
    rintro e w' ⟨v, S', rfl, h1, h2, h3', h4, h5⟩
    refine ⟨g, v, rfl, GLe.refl _ _, hfl _ _ _ h4, hw.call (SLe.refl _) (fun _ _ _ _ => rfl) (fun b o x h => ?_) h5⟩
    have h6 := hw.imm b o x h
    rw [h5.cell (p := ⟨b, o, none⟩) (World.block_lt_of_cell? w ⟨b, o, none⟩ h6)]
    exact h6
theorem t_callv {c : Operand} {f : FuncId} {xs : List Operand} {ts : Array TypeId} {caps : List T} {args : List T} {res : T} (ho : o.op = .call { callee := .value c, args := xs.toArray, argTypes := ts }) (hc : opT σ c = .fn f caps)
    (hE : ∀ args w, (callFunc f args).run P w = .ok (.enter f args) w) (hx : Lend (opTs σ xs ++ caps) args []) (hF : FnD P f args res) : Tri P o σ [] res [] := by
  intro Γ g objs a w Q hr hp hw
  have e1 := rep_op hr (x := c) (by rw [ho]; simp [Op.operands, Call.operands])
  rw [hc] at e1
  have e2 := reps_ops (g := g) (a := a) (σ := σ) (xs := xs) fun x hx => rep_op hr (by rw [ho]; simp [Op.operands, Call.operands, hx])
  generalize hy : a.eval c = y at e1
  cases e1 with
  | @fn _ _ vs h =>
    have key : ∀ {ts ts' : List T} {vs : List Value} {pre : List (Nat × GObj)}, Lend ts ts' pre → pre = [] → Reps g ts vs → Reps g ts' vs := by
      intro ts ts' vs pre hl
      induction hl generalizing vs with
      | nil => intro _ h; exact h
      | le h _ ih => intro hp h; cases h with | cons h1 h2 => exact .cons (h g _ h1) (ih hp h2)
      | ref _ _ => intro hp; cases hp
    have h3 := key hx rfl (e2.app h)
    unfold Oper.wp
    have hrun : (execOp a.eval o).run P w = .ok (.enter f (xs.map a.eval ++ vs).toArray) w := by
      unfold execOp; rw [ho]
      simp [resolve, Deferred.ofValue, hy, invoke, hE]
    rw [hrun]
    refine (hF w g _ hw.fr.tabs hw.imm h3).mono ?_
    rintro e w' ⟨v, S', rfl, h1, h2, h3, h4, h5⟩
    exact ⟨⟨S', g.blk, g.row, g.len⟩, v, rfl, ⟨h1, fun _ _ _ => rfl, fun _ _ => Nat.le_refl _, fun _ _ _ => rfl⟩, h4, hw.call h1 h2 h3 h5⟩

/-! ### Parts of slices -/
theorem t_slice_hi {t e : TypeId} {x hi : Operand} {k m : Nat} {l : List D} {kd : IntKind} (ho : o.op = .slice t x none (some hi) none) (ht : elemOf? P t = some (e, k)) (hx : TLe (opT σ x) (.d (.sl k l))) (hh : opT σ hi = .d (.v (.int kd m))) (hm : m ≤ l.length) : Tri P o σ [] (.d (.sl k (l.take m))) [] :=
  .val fun _ g _ ac w hrp _ _ => by
    have e1 := hx g _ (hrp x (by rw [ho]; simp [Op.operands]))
    have e2 := hrp hi (by rw [ho]; simp [Op.operands])
    rw [hh] at e2
    obtain ⟨hu, inf, hinf, hsz⟩ := elem_spec ht
    generalize he : ac.eval x = y at e1
    cases e1 with
    | d h =>
      cases h with
      | @sl _ _ p cap xs h1 hr hc hb hn =>
        have hlen := h1.len
        refine ⟨.slice p m cap, ?_, ?_⟩
        · unfold execOp; rw [ho]
          have h2 : m ≤ cap := by omega
          have hp : (if cap = 0 then p else p.map (fun a => a.add 0)) = p := by
            split
            · rfl
            · cases p <;> simp [Addr.add]
          simp [Instr.sliceAt, run_underlying hu, Instr.slice, Instr.sliceBounds, Instr.sliceBound, asIntOf, inv_v e2, he, h2, sizeOf, typeInfo, hinf]
          simpa using hp
        · have hrow : RowS g.S p (xs.take (m * k)) := by
            obtain ⟨b, off, q1, q2⟩ := hr
            refine ⟨b, off, fun h => q1 (by simp at h; omega), fun i hi => ?_⟩
            have : i < m * k ∧ i < xs.length := by simp at hi; omega
            rw [q2 i this.2, List.getElem?_take, if_pos this.1]
          have hlt : (l.take m).length = m := by simp; omega
          have := RepD.sl (h1.take m) hrow (cap := cap) (by rw [hlt]; omega) hb hn
          rw [hlt] at this
          exact .d this

theorem t_min_nat {x y : Operand} {k : IntKind} {a : Nat} {b : Int} {ts : Array TypeId} (N : Nat) (hb : b = (N : Int)) (ho : o.op = .call { callee := .builtin .min, args := #[x, y], argTypes := ts }) (hx : opT σ x = .d (.v (.int k a))) (hy : opT σ y = .d (.v (.int k b))) : Tri P o σ [] (.d (.v (.int k ((min a N : Nat) : Int)))) [] := by
  have := t_min (P := P) (σ := σ) ho hx hy
  rwa [show (if b < (a : Int) then b else (a : Int)) = ((min a N : Nat) : Int) from by subst hb; split <;> omega] at this
/-! ### Numbers within bounds -/
theorem wrap_in {a : Int} (h0 : -9223372036854775808 ≤ a) (h1 : a ≤ 9223372036854775807) : IntKind.i64.wrap a = a := IntWalk.i64_in _ ⟨h0, h1⟩
theorem b_addn {t : TypeId} {a b : Int} (h0 : -9223372036854775808 ≤ a + b) (h1 : a + b ≤ 9223372036854775807) : BinR P .add t (.int .i64 a) (.int .i64 b) (.int .i64 (a + b)) := by have := b_add (P := P) .i64 t a b; rwa [wrap_in h0 h1] at this
theorem b_subn {t : TypeId} {a b : Int} (h0 : -9223372036854775808 ≤ a - b) (h1 : a - b ≤ 9223372036854775807) : BinR P .sub t (.int .i64 a) (.int .i64 b) (.int .i64 (a - b)) := by have := b_sub (P := P) .i64 t a b; rwa [wrap_in h0 h1] at this
theorem b_dec {t : TypeId} {i : Nat} (h0 : 1 ≤ i) (h1 : i ≤ 9223372036854775807) : BinR P .sub t (.int .i64 i) (.int .i64 1) (.int .i64 ((i - 1 : Nat) : Int)) := by
  have := b_subn (P := P) (t := t) (a := i) (b := 1) (by omega) (by omega)
  rwa [show ((i : Int) - 1) = ((i - 1 : Nat) : Int) from by omega] at this
theorem b_inc {t : TypeId} {i : Nat} (h1 : i + 1 ≤ 9223372036854775807) : BinR P .add t (.int .i64 i) (.int .i64 1) (.int .i64 ((i + 1 : Nat) : Int)) := by
  have := b_addn (P := P) (t := t) (a := i) (b := 1) (by omega) (by omega)
  rwa [show ((i : Int) + 1) = ((i + 1 : Nat) : Int) from by omega] at this
theorem b_lss_t {k : IntKind} {t : TypeId} {a b : Int} (h : a < b) : BinR P .lss t (.int k a) (.int k b) (.bool true) := by have := b_lss (P := P) k t a b; rwa [decide_eq_true h] at this
theorem b_lss_f {k : IntKind} {t : TypeId} {a b : Int} (h : ¬ a < b) : BinR P .lss t (.int k a) (.int k b) (.bool false) := by have := b_lss (P := P) k t a b; rwa [decide_eq_false h] at this
theorem b_leq_t {k : IntKind} {t : TypeId} {a b : Int} (h : a ≤ b) : BinR P .leq t (.int k a) (.int k b) (.bool true) := by have := b_leq (P := P) k t a b; rwa [decide_eq_true h] at this
theorem b_leq_f {k : IntKind} {t : TypeId} {a b : Int} (h : ¬ a ≤ b) : BinR P .leq t (.int k a) (.int k b) (.bool false) := by have := b_leq (P := P) k t a b; rwa [decide_eq_false h] at this
theorem b_gtr_t {k : IntKind} {t : TypeId} {a b : Int} (h : b < a) : BinR P .gtr t (.int k a) (.int k b) (.bool true) := by have := b_gtr (P := P) k t a b; rwa [decide_eq_true h] at this
theorem b_gtr_f {k : IntKind} {t : TypeId} {a b : Int} (h : ¬ b < a) : BinR P .gtr t (.int k a) (.int k b) (.bool false) := by have := b_gtr (P := P) k t a b; rwa [decide_eq_false h] at this
theorem b_geq_t {k : IntKind} {t : TypeId} {a b : Int} (h : b ≤ a) : BinR P .geq t (.int k a) (.int k b) (.bool true) := by have := b_geq (P := P) k t a b; rwa [decide_eq_true h] at this
theorem b_geq_f {k : IntKind} {t : TypeId} {a b : Int} (h : ¬ b ≤ a) : BinR P .geq t (.int k a) (.int k b) (.bool false) := by have := b_geq (P := P) k t a b; rwa [decide_eq_false h] at this
theorem b_eql_t {k : IntKind} {t : TypeId} {a b : Int} (h : a = b) : BinR P .eql t (.int k a) (.int k b) (.bool true) := by have := b_eql (P := P) k t a b; rwa [show (a == b) = true from by simpa using h] at this
theorem b_eql_f {k : IntKind} {t : TypeId} {a b : Int} (h : ¬ a = b) : BinR P .eql t (.int k a) (.int k b) (.bool false) := by have := b_eql (P := P) k t a b; rwa [show (a == b) = false from by simpa using h] at this
theorem b_neq_t {k : IntKind} {t : TypeId} {a b : Int} (h : ¬ a = b) : BinR P .neq t (.int k a) (.int k b) (.bool true) := by have := b_neq (P := P) k t a b; rwa [show (a != b) = true from by simpa using h] at this
theorem b_neq_f {k : IntKind} {t : TypeId} {a b : Int} (h : a = b) : BinR P .neq t (.int k a) (.int k b) (.bool false) := by have := b_neq (P := P) k t a b; rwa [show (a != b) = false from by simpa using h] at this
/-- '&' with a small number. -/
def andI (a : Int) (m : Nat) : Int := IntKind.i64.wrap (BitVec.ofInt IntKind.i64.bits a &&& BitVec.ofInt IntKind.i64.bits (m : Int)).toNat
theorem andI_bd (a : Int) (m : Nat) (hm : m ≤ 9223372036854775807) : 0 ≤ andI a m ∧ andI a m ≤ m := by
  have h1 : (BitVec.ofInt IntKind.i64.bits a &&& BitVec.ofInt IntKind.i64.bits (m : Int)).toNat ≤ m := by
    rw [BitVec.toNat_and]
    refine Nat.le_trans Nat.and_le_right ?_
    show (BitVec.ofInt 64 (m : Int)).toNat ≤ m
    rw [BitVec.toNat_ofInt]
    omega
  unfold andI
  rw [wrap_in (by omega) (by omega)]
  omega
theorem b_andm {t : TypeId} {a b : Int} (m : Nat) (hb : b = (m : Int)) : BinR P .and t (.int .i64 a) (.int .i64 b) (.int .i64 (andI a m)) := by subst hb; exact b_and .i64 t a m
end
end Go.Proofs.YtngklbnodknadaaGreatDoor
end

section
namespace Go.Proofs.YtngklbnodknadaaGreatDoor
open Go.RowKit

section
variable {P : Program} {Γ : Cx} {o : Oper} {σ : Nat → T} {n c : Nat} {objs : Objs} {Q : GPost}
theorem fresh_env {l : List T} (h : T.hass c l = false) : ∀ t, (envL l t).has c = false := by
  intro t
  unfold envL
  induction l generalizing t with
  | nil => rfl
  | cons x l ih =>
    simp only [T.hass, Bool.or_eq_false_iff] at h
    cases t with
    | zero => exact h.1
    | succ t => exact ih h.2 t
theorem fresh_upd {d : Option Tmp} {v : T} (hv : v.has c = false) (h : ∀ t, (σ t).has c = false) : ∀ t, (updT σ d v t).has c = false := by
  intro t
  cases d with
  | none => exact h t
  | some d =>
    simp only [updT]
    cases Nat.beq t d with
    | true => exact hv
    | false => exact h t
theorem freshO_nil : ∀ i ob, objL [] i = some ob → ob.has c = false := fun i ob h => by cases h
theorem freshO_cons {p : Nat × GObj} {L : List (Nat × GObj)} (hp : p.2.has c = false) (h : ∀ i ob, objL L i = some ob → ob.has c = false) : ∀ i ob, objL (p :: L) i = some ob → ob.has c = false := by
  intro i ob hl
  unfold objL at hl
  rw [List.lookup_cons] at hl
  split at hl
  · cases hl; exact hp
  · exact h i ob hl
theorem freshO_ovr {post : List (Nat × GObj)} (hp : ∀ i ob, objL post i = some ob → ob.has c = false) (h : ∀ i ob, objs i = some ob → ob.has c = false) : ∀ i ob, ovr objs post i = some ob → ob.has c = false := by
  intro i ob hl
  unfold ovr at hl
  cases h1 : post.lookup i with
  | none => rw [h1] at hl; exact h i ob hl
  | some x => rw [h1] at hl; cases hl; exact hp i ob h1

/-! ### Contracts -/
theorem FnD.flat {f : FuncId} {args : List T} {v : Value} (h1 : v.oneCell' = true) (h : ∀ (w : World) (g : Gh) (vs : List Value), (∀ b o x, g.S b o = some x → w.cell? ⟨b, o, none⟩ = some x) → Reps g args vs → Calls P f vs.toArray w fun e w' => e = .returned v ∧ Below w.heap.size w w') : FnD P f args (.d (.v v)) := by
  intro w g vs _ hi hr
  refine (h w g vs hi hr).mono ?_
  rintro e w' ⟨rfl, hb⟩
  refine ⟨v, g.S, rfl, SLe.refl _, fun _ _ _ _ => rfl, fun b o x hx => ?_, .d (.v h1), hb⟩
  rw [hb.cell (p := ⟨b, o, none⟩) (World.block_lt_of_cell? w ⟨b, o, none⟩ (hi b o x hx))]
  exact hi b o x hx
theorem FnD.flatT {f : FuncId} {args : List T} {v : Value} (h1 : v.oneCell' = true) (h : ∀ (w : World) (g : Gh) (vs : List Value), TabsIn w → (∀ b o x, g.S b o = some x → w.cell? ⟨b, o, none⟩ = some x) → Reps g args vs → Calls P f vs.toArray w fun e w' => e = .returned v ∧ Below w.heap.size w w') : FnD P f args (.d (.v v)) := by
  intro w g vs ht hi hr
  refine (h w g vs ht hi hr).mono ?_
  rintro e w' ⟨rfl, hb⟩
  refine ⟨v, g.S, rfl, SLe.refl _, fun _ _ _ _ => rfl, fun b o x hx => ?_, .d (.v h1), hb⟩
  rw [hb.cell (p := ⟨b, o, none⟩) (World.block_lt_of_cell? w ⟨b, o, none⟩ (hi b o x hx))]
  exact hi b o x hx
theorem FnD.top {f : FuncId} {args : List T} {v : Value} (h : FnD P f args (.d (.v v))) {w : World} {vs : List Value} (ht : TabsIn w) (hr : Reps ⟨allS w, fun _ => 0, fun _ => undef, fun _ => 0⟩ args vs) : Calls P f vs.toArray w fun e w' => e = .returned v ∧ Below w.heap.size w w' := by
  refine (h w _ vs ht (fun b o x hx => hx) hr).mono ?_
  rintro e w' ⟨u, S', rfl, -, -, -, h1, hb⟩
  exact ⟨by rw [inv_v h1], hb⟩
/-- What is known behind a call that has made cells of its own. -/
def behS (S : Sm) (w w' : World) : Sm := fun b o => if b < w.heap.size then S b o else w'.cell? ⟨b, o, none⟩
theorem behS_le {S : Sm} {w : World} (w' : World) (hi : ∀ b o x, S b o = some x → w.cell? ⟨b, o, none⟩ = some x) : SLe S (behS S w w') := fun b o x h => by
  unfold behS
  rw [if_pos (World.block_lt_of_cell? w ⟨b, o, none⟩ (hi b o x h))]
  exact h
theorem behS_imm {S : Sm} {w w' : World} (hi : ∀ b o x, S b o = some x → w.cell? ⟨b, o, none⟩ = some x) (hb : Below w.heap.size w w') : ∀ b o x, behS S w w' b o = some x → w'.cell? ⟨b, o, none⟩ = some x := fun b o x h => by
  unfold behS at h
  split at h
  · next hlt => rw [hb.cell (p := ⟨b, o, none⟩) hlt]; exact hi b o x h
  · exact h
theorem behS_old {S : Sm} {w w' : World} : ∀ b o, b < w.heap.size → behS S w w' b o = S b o := fun b o h => by unfold behS; rw [if_pos h]
/-- A row of the call's own, as data. -/
theorem rep_own {S : Sm} {w w' : World} {e k n cap : Nat} {p : Option Addr} {l : List D} {xs : List Value} (h : w'.ownsRow w.heap.size e k (.slice p n cap) n xs) (hn : n = l.length) (hl : ∀ S, RepLv S k l xs) : RepD (behS S w w') (.sl k l) (.slice p n cap) := by
  subst hn
  obtain ⟨p', c', e1, h1, h2⟩ := own_slice h
  simp only [Value.slice.injEq, true_and] at e1
  obtain ⟨rfl, rfl⟩ := e1
  refine .sl (hl _) ?_ h1 h2 fun hp => ?_
  · rcases h.2 with ⟨e1, e2⟩ | ⟨g, cap', cur, e1, hb, -⟩
    · have : xs = [] := List.eq_nil_of_length_eq_zero (by rw [h.1, e2]; simp)
      subst this
      exact RowS.nil _ _
    · simp only [Value.slice.injEq, true_and] at e1
      obtain ⟨rfl, rfl⟩ := e1
      refine ⟨g, 0, fun _ => rfl, fun i hi => ?_⟩
      unfold behS
      rw [if_neg (by omega), Nat.zero_add]
      exact h.cellAt i (by rw [← h.1]; exact hi)
  · rcases h.2 with ⟨e1, -⟩ | ⟨g, cap', cur, e1, -⟩
    · simp only [Value.slice.injEq] at e1; exact e1.2.2
    · simp only [Value.slice.injEq] at e1; rw [e1.1] at hp; cases hp
/-- A slice that came in. -/
theorem rep_sl {w : World} {k n cap : Nat} {p : Option Addr} {l : List D} {xs : List Value} (h : Sl w k p n cap xs) (hn : n = l.length) (hl : ∀ S, RepLv S k l xs) : RepD (allS w) (.sl k l) (.slice p n cap) := by
  subst hn
  refine .sl (hl _) ?_ h.le h.big h.isNil
  obtain ⟨b, off, h1, h2⟩ := h.row
  exact ⟨b, off, fun hx => (h1 hx).1, fun i hi => h2 i hi⟩
theorem sl_rep {g : Gh} {w : World} {k : Nat} {l : List D} {v : Value} (hi : ∀ b o x, g.S b o = some x → w.cell? ⟨b, o, none⟩ = some x) (h : RepT g (.d (.sl k l)) v) : ∃ p cap xs, v = .slice p l.length cap ∧ Sl w k p l.length cap xs ∧ RepLv g.S k l xs := by
  cases h with
  | d h =>
    cases h with
    | @sl _ _ p cap xs h hr hc hb hn =>
      refine ⟨p, cap, xs, rfl, ⟨?_, h.len, hc, hb, hn⟩, h⟩
      obtain ⟨b, off, h1, h2⟩ := hr
      refine ⟨b, off, fun hx => ⟨h1 hx, ?_⟩, fun i hi' => ?_⟩
      · have := h2 0 hx
        rw [List.getElem?_eq_getElem hx] at this
        exact World.block_lt_of_cell? w ⟨b, off + 0, none⟩ (hi _ _ _ this)
      · have := h2 i hi'
        rw [List.getElem?_eq_getElem hi'] at this ⊢
        exact hi _ _ _ this
/-- A slice that a call has made. -/
theorem rep_new {S : Sm} {w w' : World} {k n cap : Nat} {p : Option Addr} {l : List D} {xs : List Value} (h : Sl w' k p n cap xs) (hp : ∀ a, p = some a → w.heap.size ≤ a.block) (hn : n = l.length) (hl : ∀ S, RepLv S k l xs) : RepD (behS S w w') (.sl k l) (.slice p n cap) := by
  subst hn
  refine .sl (hl _) ?_ h.le h.big h.isNil
  obtain ⟨b, off, h1, h2⟩ := h.row
  refine ⟨b, off, fun hx => (h1 hx).1, fun i hi => ?_⟩
  have hb := hp _ (h1 (by omega)).1
  unfold behS
  rw [if_neg (by simpa using hb)]
  exact h2 i hi
end
end Go.Proofs.YtngklbnodknadaaGreatDoor
end
