/-
  Operations over ghost values: those that only read.
-/
import Derived.Test.YtenlhfmchhljdaaDoorGw
namespace Go.Proofs.YtenlhfmchhljdaaDoor
open Go.RowKit

/-- A constant. -/
def constT : Value → T
  | .agg cs => if cs.all (·.oneCell') then .d (.agg (cs.toList.map .v)) else .und
  | .tuple _ => .und
  | v => .d (.v v)
def opT (σ : Nat → T) : Operand → T
  | .tmp t => σ t
  | .const v => constT v
  | .func f => .fn f []
  | .global _ => .und
/-- What reads as t reads as t', too. -/
def TLe (t t' : T) : Prop := ∀ (g : Gh) (y : Value), RepT g t y → RepT g t' y
theorem TLe.refl (t : T) : TLe t t := fun _ _ h => h
theorem TLe.of_eq {t t' : T} (h : t = t') : TLe t t' := h ▸ TLe.refl t
theorem TLe.und (t : T) : TLe t .und := fun _ _ _ => .und
theorem TLe.own {k : Nat} {l : List D} {id : Nat} : TLe (.own k l id) (.d (.sl k l)) := fun _ _ h => by cases h with | own h _ _ => exact .d h
theorem TLe.nil {k : Nat} : TLe (.d (.v (.slice none 0 0))) (.d (.sl k [])) := fun g y h => by
  cases h with
  | d h => cases h with | v _ => exact .d (RepD.sl .nil (RowS.nil _ _) (Nat.le_refl _) (Nat.zero_le _) fun _ => rfl)
theorem TLe.trans {a b c : T} (h : TLe a b) (h' : TLe b c) : TLe a c := fun g y e => h' g y (h g y e)

section
variable {P : Program} {o : Oper} {σ : Nat → T}
theorem reps_one {S : Sm} : ∀ {l : List Value}, (∀ x ∈ l, x.oneCell' = true) → RepDs S (l.map .v) l
  | [], _ => .nil
  | x :: l, h => .cons (.v (h x (by simp))) (h x (by simp)) (reps_one fun y hy => h y (by simp [hy]))
theorem rep_const (g : Gh) (v : Value) : RepT g (constT v) v := by
  cases v with
  | agg cs =>
    show RepT g (if cs.all (·.oneCell') = true then T.d (.agg (cs.toList.map .v)) else T.und) _
    split
    · next h =>
      refine .d ?_
      have := RepD.agg (S := g.S) (reps_one (l := cs.toList) fun x hx => by
        have := Array.all_eq_true_iff_forall_mem.1 h x (Array.mem_toList_iff.1 hx)
        exact this)
      simpa using this
    · exact .und
  | tuple _ => exact .und
  | _ => exact .d (.v rfl)
theorem rep_op {g : Gh} {a : Act} {x : Operand} (hr : ∀ t, .tmp t ∈ o.op.operands → RepT g (σ t) (a.tmps.getD t undef)) (hx : x ∈ o.op.operands) : RepT g (opT σ x) (a.eval x) := by
  cases x with
  | tmp t => exact hr t hx
  | const v => exact rep_const g v
  | global n => exact .und
  | func f =>
    have := RepT.fn (g := g) (f := f) (caps := []) .nil
    exact this
/-- One that yields a value, and leaves the world alone. -/
theorem Tri.val {pre : List (Nat × GObj)} {v : T} (h : ∀ (Γ : Cx) (g : Gh) (objs : Objs) (a : Act) (w : World), (∀ x ∈ o.op.operands, RepT g (opT σ x) (a.eval x)) → (∀ p ∈ pre, objs p.1 = some p.2) → WI Γ g objs w →
    ∃ x, (execOp a.eval o).run P w = .ok (.value x) w ∧ RepT g v x) : Tri P o σ pre v [] := by
  intro Γ g objs a w Q hr hp hw
  obtain ⟨x, hx, hv⟩ := h Γ g objs a w (fun x hx => rep_op hr hx) hp hw
  unfold Oper.wp
  rw [hx]
  exact ⟨g, x, rfl, GLe.refl _ _, hv, hw⟩

theorem t_move {x : Operand} {v : T} (ho : o.op = .move x) (hx : TLe (opT σ x) v) : Tri P o σ [] v [] :=
  .val fun _ g _ a w hr _ _ => ⟨a.eval x, by unfold execOp; rw [ho]; rfl, hx g _ (hr x (by rw [ho]; simp [Op.operands]))⟩
theorem t_assign {x : Operand} {v : T} (ho : o.op = .assign x) (hx : TLe (opT σ x) v) : Tri P o σ [] v [] :=
  .val fun _ g _ a w hr _ _ => ⟨a.eval x, by unfold execOp; rw [ho]; rfl, hx g _ (hr x (by rw [ho]; simp [Op.operands]))⟩
theorem inv_v {g : Gh} {x y : Value} (h : RepT g (.d (.v x)) y) : y = x := by cases h with | d h => cases h; rfl
theorem one_v {g : Gh} {x y : Value} (h : RepT g (.d (.v x)) y) : x.oneCell' = true := by cases h with | d h => cases h; assumption
theorem rep_v {g : Gh} {x : Value} (h : x.oneCell' = true) : RepT g (.d (.v x)) x := .d (.v h)
theorem t_pick_t {c x y : Operand} {v : T} (ho : o.op = .pick c x y) (hc : opT σ c = .d (.v (.bool true))) (hx : TLe (opT σ x) v) : Tri P o σ [] v [] :=
  .val fun _ g _ a w hr _ _ => ⟨a.eval x, by
    have h1 := hr c (by rw [ho]; simp [Op.operands])
    rw [hc] at h1
    unfold execOp; rw [ho]; simp [inv_v h1, asBool], hx g _ (hr x (by rw [ho]; simp [Op.operands]))⟩
theorem t_pick_f {c x y : Operand} {v : T} (ho : o.op = .pick c x y) (hc : opT σ c = .d (.v (.bool false))) (hy : TLe (opT σ y) v) : Tri P o σ [] v [] :=
  .val fun _ g _ a w hr _ _ => ⟨a.eval y, by
    have h1 := hr c (by rw [ho]; simp [Op.operands])
    rw [hc] at h1
    unfold execOp; rw [ho]; simp [inv_v h1, asBool], hy g _ (hr y (by rw [ho]; simp [Op.operands]))⟩
/-- What an operator yields at two values. -/
def BinR (P : Program) (op : BinOp) (t : TypeId) (a b r : Value) : Prop := ∀ (x y : Operand) (w : World), (do eqGuard op t x y a b; binOp op t a b : Sem Value).run P w = .ok r w
theorem t_bin {op : BinOp} {t u : TypeId} {x y : Operand} {a b r : Value} (ho : o.op = .binOp op t x y u) (hx : opT σ x = .d (.v a)) (hy : opT σ y = .d (.v b)) (hr : BinR P op t a b r) (h1 : r.oneCell' = true) : Tri P o σ [] (.d (.v r)) [] :=
  .val fun _ g _ ac w hrp _ _ => ⟨r, by
    have e1 := hrp x (by rw [ho]; simp [Op.operands])
    have e2 := hrp y (by rw [ho]; simp [Op.operands])
    rw [hx] at e1
    rw [hy] at e2
    unfold execOp; rw [ho]
    simp only [inv_v e1, inv_v e2]
    have := hr x y w
    simp only [Sem.run_bind] at this ⊢
    rw [this]; rfl, rep_v h1⟩
theorem b_add (k : IntKind) (t : TypeId) (a b : Int) : BinR P .add t (.int k a) (.int k b) (.int k (k.wrap (a + b))) := fun x y w => by simp [eqGuard, binOp, Op.intArith]
theorem b_sub (k : IntKind) (t : TypeId) (a b : Int) : BinR P .sub t (.int k a) (.int k b) (.int k (k.wrap (a - b))) := fun x y w => by simp [eqGuard, binOp, Op.intArith]
theorem b_mul (k : IntKind) (t : TypeId) (a b : Int) : BinR P .mul t (.int k a) (.int k b) (.int k (k.wrap (a * b))) := fun x y w => by simp [eqGuard, binOp, Op.intArith]
theorem b_rem (k : IntKind) (t : TypeId) (a b : Int) (h : b ≠ 0) : BinR P .rem t (.int k a) (.int k b) (.int k (a.tmod b)) := fun x y w => by simp [eqGuard, binOp, Op.intDiv, h]
theorem b_quo (k : IntKind) (t : TypeId) (a b : Int) (h : b ≠ 0) : BinR P .quo t (.int k a) (.int k b) (.int k (k.wrap (a.tdiv b))) := fun x y w => by simp [eqGuard, binOp, Op.intDiv, h]
theorem b_and (k : IntKind) (t : TypeId) (a b : Int) : BinR P .and t (.int k a) (.int k b) (.int k (k.wrap (BitVec.ofInt k.bits a &&& BitVec.ofInt k.bits b).toNat)) := fun x y w => by simp [eqGuard, binOp, Op.intBits]
theorem b_eql (k : IntKind) (t : TypeId) (a b : Int) : BinR P .eql t (.int k a) (.int k b) (.bool (a == b)) := fun x y w => by simp [eqGuard, binOp, Op.intCmp]
theorem b_neq (k : IntKind) (t : TypeId) (a b : Int) : BinR P .neq t (.int k a) (.int k b) (.bool (a != b)) := fun x y w => by simp [eqGuard, binOp, Op.intCmp]
theorem b_lss (k : IntKind) (t : TypeId) (a b : Int) : BinR P .lss t (.int k a) (.int k b) (.bool (decide (a < b))) := fun x y w => by simp [eqGuard, binOp, Op.intCmp]
theorem b_leq (k : IntKind) (t : TypeId) (a b : Int) : BinR P .leq t (.int k a) (.int k b) (.bool (decide (a ≤ b))) := fun x y w => by simp [eqGuard, binOp, Op.intCmp]
theorem b_gtr (k : IntKind) (t : TypeId) (a b : Int) : BinR P .gtr t (.int k a) (.int k b) (.bool (decide (b < a))) := fun x y w => by simp [eqGuard, binOp, Op.intCmp]
theorem b_geq (k : IntKind) (t : TypeId) (a b : Int) : BinR P .geq t (.int k a) (.int k b) (.bool (decide (b ≤ a))) := fun x y w => by simp [eqGuard, binOp, Op.intCmp]
theorem eq_bool (t : TypeId) (a b : Bool) (ht : P.underlying t = some .bool) (w : World) : (Op.equal t (.bool a) (.bool b)).run P w = .ok (a == b) w := run_equal_bool w t a b ht
theorem b_beql (t : TypeId) (a b : Bool) (ht : P.underlying t = some .bool) : BinR P .eql t (.bool a) (.bool b) (.bool (a == b)) := fun x y w => by
  have : (binOp .eql t (.bool a) (.bool b)).run P w = .ok (.bool (a == b)) w := by
    show (do pure (.bool (← Op.equal t (.bool a) (.bool b))) : Sem Value).run P w = _
    simp only [Sem.run_bind, eq_bool t a b ht, Result.andThen_ok, Sem.run_pure]
  simp only [eqGuard, Sem.run_bind]
  exact this
theorem b_bneq (t : TypeId) (a b : Bool) (ht : P.underlying t = some .bool) : BinR P .neq t (.bool a) (.bool b) (.bool (a != b)) := fun x y w => by
  have : (binOp .neq t (.bool a) (.bool b)).run P w = .ok (.bool (a != b)) w := by
    show (do pure (.bool (!(← Op.equal t (.bool a) (.bool b)))) : Sem Value).run P w = _
    simp only [Sem.run_bind, eq_bool t a b ht, Result.andThen_ok, Sem.run_pure]
    rfl
  simp only [eqGuard, Sem.run_bind]
  exact this
theorem b_seql (t : TypeId) (a b : ByteArray) : BinR P .eql t (.string a) (.string b) (.bool (a.toList == b.toList)) := fun x y w => by simp [eqGuard, binOp, Op.stringOp]
theorem b_sneq (t : TypeId) (a b : ByteArray) : BinR P .neq t (.string a) (.string b) (.bool (!(a.toList == b.toList))) := fun x y w => by simp [eqGuard, binOp, Op.stringOp]
theorem t_not {t : TypeId} {x : Operand} {b : Bool} (ho : o.op = .unOp .not t x) (hx : opT σ x = .d (.v (.bool b))) : Tri P o σ [] (.d (.v (.bool (!b)))) [] :=
  .val fun _ g _ ac w hrp _ _ => ⟨.bool (!b), by
    have e1 := hrp x (by rw [ho]; simp [Op.operands])
    rw [hx] at e1
    unfold execOp; rw [ho]; simp [inv_v e1, Op.unary], rep_v rfl⟩
theorem t_neg {t : TypeId} {x : Operand} {k : IntKind} {n : Int} (ho : o.op = .unOp .neg t x) (hx : opT σ x = .d (.v (.int k n))) : Tri P o σ [] (.d (.v (.int k (k.wrap (0 - n))))) [] :=
  .val fun _ g _ ac w hrp _ _ => ⟨.int k (k.wrap (0 - n)), by
    have e1 := hrp x (by rw [ho]; simp [Op.operands])
    rw [hx] at e1
    unfold execOp; rw [ho]; simp [inv_v e1, Op.unary, Op.intArith], rep_v rfl⟩
theorem reps_at {g : Gh} : ∀ {l : List T} {vs : List Value} {i : Nat} {t : T}, Reps g l vs → l[i]? = some t → ∃ v, vs[i]? = some v ∧ RepT g t v
  | _, _, _, _, .nil, h => by simp at h
  | _, _, 0, _, .cons h1 _, h => by simp at h; subst h; exact ⟨_, rfl, h1⟩
  | _, _, i + 1, _, .cons _ ht, h => by simpa using reps_at ht (by simpa using h)
theorem t_extract {x : Operand} {i : Nat} {l : List T} {v : T} (ho : o.op = .extract x i) (hx : opT σ x = .tup l) (hi : l[i]? = some v) : Tri P o σ [] v [] :=
  .val fun _ g _ ac w hrp _ _ => by
    have e1 := hrp x (by rw [ho]; simp [Op.operands])
    rw [hx] at e1
    generalize he : ac.eval x = y at e1
    cases e1 with
    | tup h =>
      obtain ⟨u, hu, hru⟩ := reps_at h hi
      refine ⟨u, ?_, hru⟩
      unfold execOp; rw [ho]; simp [he, Instr.extract, hu]

/-! ### Slices, structs -/
def elemOf? (P : Program) (t : TypeId) : Option (TypeId × Nat) := match P.underlying t with
  | some (.slice e) => (P.info? e).map fun i => (e, i.size)
  | _ => none
theorem elem_spec {t e : TypeId} {k : Nat} (h : elemOf? P t = some (e, k)) : P.underlying t = some (.slice e) ∧ ∃ i, P.info? e = some i ∧ i.size = k := by
  unfold elemOf? at h
  split at h
  · next e' he =>
    cases hi : P.info? e' with
    | none => rw [hi] at h; cases h
    | some i => rw [hi] at h; cases h; exact ⟨he, i, hi, rfl⟩
  · cases h
def aggOf? (P : Program) (t : TypeId) : Option (Bool × Nat) := match P.underlying t, P.info? t with
  | some (.struct _), some i => some (true, i.size)
  | some (.array _ _), some i => some (true, i.size)
  | some _, some i => some (false, i.size)
  | _, _ => none
theorem agg_spec {t : TypeId} {b : Bool} {k : Nat} (h : aggOf? P t = some (b, k)) (w : World) : (isAgg t).run P w = .ok b w ∧ (sizeOf t).run P w = .ok k w := by
  unfold aggOf? at h
  split at h
  · next hu hi => cases h; simp [isAgg, run_underlying hu, sizeOf, typeInfo, hi]
  · next hu hi => cases h; simp [isAgg, run_underlying hu, sizeOf, typeInfo, hi]
  · next d i h1 h2 hu hi =>
    cases h
    refine ⟨?_, by simp [sizeOf, typeInfo, hi]⟩
    simp only [isAgg, Sem.run_bind, run_underlying hu, Result.andThen_ok]
    rfl
  · cases h
def fieldOff? (P : Program) (s : TypeId) (f : Nat) : Option Nat := match P.underlying s with
  | some (.struct fs) => match fs[f]? with
    | some x => match P.info? x.type with
      | some i => if i.size = 0 then none else some x.offset
      | none => none
    | none => none
  | _ => none
theorem t_len_sl {t : TypeId} {x : Operand} {k : Nat} {l : List D} {e : TypeId} (ho : o.op = .call { callee := .builtin .len, args := #[x], argTypes := #[t] }) (ht : P.underlying t = some (.slice e)) (hx : TLe (opT σ x) (.d (.sl k l))) : Tri P o σ [] (.d (.v (.int .i64 l.length))) [] :=
  .val fun _ g _ ac w hrp _ _ => ⟨.int .i64 l.length, by
    have e1 := hx g _ (hrp x (by rw [ho]; simp [Op.operands, Call.operands]))
    generalize he : ac.eval x = y at e1
    cases e1 with
    | d h =>
      cases h with
      | sl h1 hr hc hb hn =>
        unfold execOp; rw [ho]
        simp [resolve, invoke, builtin, Builtin.len_, he, run_underlying ht, goInt], rep_v rfl⟩
theorem t_len {t e : TypeId} {x : Operand} {k : Nat} {l : List D} (ho : o.op = .call { callee := .builtin .len, args := #[x], argTypes := #[t] }) (ht : elemOf? P t = some (e, k)) (hx : TLe (opT σ x) (.d (.sl k l))) : Tri P o σ [] (.d (.v (.int .i64 l.length))) [] := t_len_sl ho (elem_spec ht).1 hx
theorem t_len_str {t : TypeId} {x : Operand} {s : ByteArray} (ho : o.op = .call { callee := .builtin .len, args := #[x], argTypes := #[t] }) (ht : P.underlying t = some .string) (hx : opT σ x = .d (.v (.string s))) : Tri P o σ [] (.d (.v (.int .i64 s.size))) [] :=
  .val fun _ g _ ac w hrp _ _ => ⟨.int .i64 s.size, by
    have e1 := hrp x (by rw [ho]; simp [Op.operands, Call.operands])
    rw [hx] at e1
    unfold execOp; rw [ho]
    simp [resolve, invoke, builtin, Builtin.len_, inv_v e1, run_underlying ht, goInt], rep_v rfl⟩
theorem t_min {x y : Operand} {k : IntKind} {a b : Int} {ts : Array TypeId} (ho : o.op = .call { callee := .builtin .min, args := #[x, y], argTypes := ts }) (hx : opT σ x = .d (.v (.int k a))) (hy : opT σ y = .d (.v (.int k b))) : Tri P o σ [] (.d (.v (.int k (if b < a then b else a)))) [] :=
  .val fun _ g _ ac w hrp _ _ => ⟨.int k (if b < a then b else a), by
    have e1 := hrp x (by rw [ho]; simp [Op.operands, Call.operands])
    have e2 := hrp y (by rw [ho]; simp [Op.operands, Call.operands])
    rw [hx] at e1
    rw [hy] at e2
    unfold execOp; rw [ho]
    simp [resolve, invoke, builtin, Builtin.min_, Builtin.min2, inv_v e1, inv_v e2], rep_v rfl⟩
/-- The address of an element. -/
theorem t_index {t e : TypeId} {x i : Operand} {k : Nat} {l : List D} {n : Nat} {d : D} {kd : IntKind} (ho : o.op = .indexAddr t x i) (ht : elemOf? P t = some (e, k)) (hx : TLe (opT σ x) (.d (.sl k l))) (hi : opT σ i = .d (.v (.int kd n))) (hd : l[n]? = some d) (hk : 0 < k) : Tri P o σ [] (.pi d.lv) [] :=
  .val fun _ g _ ac w hrp _ _ => by
    have e1 := hx g _ (hrp x (by rw [ho]; simp [Op.operands]))
    have e2 := hrp i (by rw [ho]; simp [Op.operands])
    rw [hi] at e2
    obtain ⟨hu, inf, hinf, hsz⟩ := elem_spec ht
    have hnl : n < l.length := (List.getElem?_eq_some_iff.1 hd).1
    generalize he : ac.eval x = y at e1
    cases e1 with
    | d h =>
      cases h with
      | @sl _ _ p cap xs h1 hr hc hb hn =>
        obtain ⟨b, off, hp, hcell⟩ := hr
        have hlen := h1.len
        have hpos : 0 < xs.length := by rw [hlen]; exact Nat.mul_pos (by omega) hk
        have hp' := hp hpos
        subst hp'
        have hle : n * k + k ≤ xs.length := by rw [hlen, ← Nat.succ_mul]; exact Nat.mul_le_mul_right _ hnl
        refine ⟨.pointer (some ⟨b, off + n * k, none⟩), ?_, ?_⟩
        · unfold execOp; rw [ho]
          simp [Instr.indexAt, he, inv_v e2, asIntOf, run_underlying hu, hnl, sizeOf, typeInfo, hinf, hsz, add_lit']
        · refine RepT.pi (h1.at_ hd) fun j hj => ?_
          have hj' : j < k := by simp at hj; omega
          rw [Nat.add_assoc, hcell _ (by omega), List.getElem?_take, if_pos hj', List.getElem?_drop]
theorem t_field {s : TypeId} {x : Operand} {f fo : Nat} {ds : List D} (ho : o.op = .fieldAddr s x f) (hf : fieldOff? P s f = some fo) (hx : opT σ x = .pi ds) : Tri P o σ [] (.pi (ds.drop fo)) [] :=
  .val fun _ g _ ac w hrp _ _ => by
    have e1 := hrp x (by rw [ho]; simp [Op.operands])
    rw [hx] at e1
    generalize he : ac.eval x = y at e1
    cases e1 with
    | @pi _ xs b off h1 hr =>
      refine ⟨.pointer (some ⟨b, off + fo, none⟩), ?_, RepT.pi (h1.drop fo) fun j hj => ?_⟩
      · unfold fieldOff? at hf
        split at hf
        · next fs hu =>
          split at hf
          · next fl hfl =>
            split at hf
            · next inf hinf =>
              split at hf
              · cases hf
              · next hz =>
                cases hf
                unfold execOp; rw [ho]
                simp [Instr.fieldAt, he, run_underlying hu, hfl, Instr.sureAddr, fieldPlace, sizeOf, typeInfo, hinf, hz, add_lit']
            · cases hf
          · cases hf
        · cases hf
      · simp at hj
        rw [Nat.add_assoc, hr _ (by omega), List.getElem?_drop]
theorem t_field_ref {s : TypeId} {x : Operand} {f fo id off : Nat} (ho : o.op = .fieldAddr s x f) (hf : fieldOff? P s f = some fo) (hx : opT σ x = .ref id off) : Tri P o σ [] (.ref id (off + fo)) [] :=
  .val fun _ g _ ac w hrp _ _ => by
    have e1 := hrp x (by rw [ho]; simp [Op.operands])
    rw [hx] at e1
    generalize he : ac.eval x = y at e1
    cases e1 with
    | ref ha =>
      refine ⟨.pointer (some ⟨g.blk id, off + fo, none⟩), ?_, RepT.ref ha⟩
      · unfold fieldOff? at hf
        split at hf
        · next fs hu =>
          split at hf
          · next fl hfl =>
            split at hf
            · next inf hinf =>
              split at hf
              · cases hf
              · next hz =>
                cases hf
                unfold execOp; rw [ho]
                simp [Instr.fieldAt, he, run_underlying hu, hfl, Instr.sureAddr, fieldPlace, sizeOf, typeInfo, hinf, hz, add_lit']
            · cases hf
          · cases hf
        · cases hf
/-- Loads of what never turns. -/
theorem load_run {t : TypeId} {p : Addr} {w : World} {v : Value} {k : Nat} (ht : aggOf? P t = some (false, k)) (hc : w.cell? p = some v) : (Instr.loadAt t (.pointer (some p))).run P w = .ok v w := by
  simp [Instr.loadAt, Instr.sureAddr, loadVar, (agg_spec ht w).1, load, Sem.run, hc]
theorem loadCells_run {w : World} : ∀ (n i : Nat) (acc : Array Value) (p : Addr) (xs : List Value), xs.length = n → (∀ j, j < n → w.cell? (p.add (i + j)) = xs[j]?) → (loadCellsFrom p i n acc).run P w = .ok (acc ++ xs.toArray) w
  | 0, i, acc, p, xs, h, _ => by
    obtain rfl := List.length_eq_zero_iff.1 h
    simp [loadCellsFrom]
  | n + 1, i, acc, p, x :: xs, h, hc => by
    have h0 := hc 0 (by omega)
    rw [Nat.add_zero] at h0
    have ih := loadCells_run n (i + 1) (acc.push x) p xs (by simpa using h) (fun j hj => by
      have := hc (j + 1) (by omega)
      rw [show i + (j + 1) = i + 1 + j from by omega] at this
      simpa using this)
    simp only [loadCellsFrom, Sem.run_bind, load, Sem.run]
    rw [h0]
    simp only [List.getElem?_cons_zero, Result.andThen_ok]
    rw [ih]
    simp
theorem load_agg_run {t : TypeId} {b off : Nat} {w : World} {k : Nat} {xs : List Value} (ht : aggOf? P t = some (true, k)) (hl : xs.length = k) (hc : ∀ j, j < k → w.cell? ⟨b, off + j, none⟩ = xs[j]?) : (Instr.loadAt t (.pointer (some ⟨b, off, none⟩))).run P w = .ok (.agg xs.toArray) w := by
  have h := loadCells_run (P := P) (w := w) k 0 #[] ⟨b, off, none⟩ xs hl (fun j hj => by rw [add_lit', Nat.zero_add]; exact hc j hj)
  simp only [Instr.loadAt, Instr.sureAddr, loadVar, Sem.run_bind, Sem.run_pure, Result.andThen_ok, (agg_spec ht w).1, if_true, (agg_spec ht w).2, loadCells, h]
  simp
theorem t_load {t : TypeId} {x : Operand} {k : Nat} {d : D} {ds : List D} (ho : o.op = .load t x) (ht : aggOf? P t = some (false, k)) (hx : opT σ x = .pi ds) (hd : ds[0]? = some d) : Tri P o σ [] (.d d) [] :=
  .val fun _ g _ ac w hrp _ hw => by
    have e1 := hrp x (by rw [ho]; simp [Op.operands])
    rw [hx] at e1
    generalize he : ac.eval x = y at e1
    cases e1 with
    | @pi _ xs b off h1 hr =>
      obtain ⟨u, hu, hru, hone⟩ := h1.at_ hd
      have hc := hr 0 (List.getElem?_eq_some_iff.1 hu).1
      rw [Nat.add_zero, hu] at hc
      exact ⟨u, by unfold execOp; rw [ho]; simp [he, load_run ht (hw.imm _ _ _ hc)], .d hru⟩
theorem t_load_agg {t : TypeId} {x : Operand} {k : Nat} {ds : List D} (ho : o.op = .load t x) (ht : aggOf? P t = some (true, k)) (hx : opT σ x = .pi ds) (hk : k ≤ ds.length) : Tri P o σ [] (.d (.agg (ds.take k))) [] :=
  .val fun _ g _ ac w hrp _ hw => by
    have e1 := hrp x (by rw [ho]; simp [Op.operands])
    rw [hx] at e1
    generalize he : ac.eval x = y at e1
    cases e1 with
    | @pi _ xs b off h1 hr =>
      have hlen := h1.len
      have := load_agg_run (b := b) (off := off) (w := w) (xs := xs.take k) ht (by simp; omega) (fun j hj => by
        have hj2 : j < xs.length := by omega
        have hc := hr j hj2
        rw [List.getElem?_eq_getElem hj2] at hc
        rw [hw.imm _ _ _ hc, List.getElem?_take, if_pos hj, List.getElem?_eq_getElem hj2])
      exact ⟨_, by unfold execOp; rw [ho]; simp [he, this], .d (.agg (h1.take k))⟩
end
end Go.Proofs.YtenlhfmchhljdaaDoor
