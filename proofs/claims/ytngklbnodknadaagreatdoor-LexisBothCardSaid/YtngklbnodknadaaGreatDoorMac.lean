/-
  Go, Gc, Gf, Sep, Keep, in one.
-/
import Derived.Test.YtngklbnodknadaaGreatDoorMab
import Derived.Deep.LoopGhost
import Derived.Test.YtngklbnodknadaaGreatDoorMaa
import Derived.Deep.DeepAppendWide
section
namespace Go.Proofs.YtngklbnodknadaaGreatDoor
open Go.RowKit

/-- A constant. -/
def constT : Value → T
  | .agg cs => if cs.all (·.oneCell') then .d (.agg (cs.toList.map .v)) else .und
  | .tuple _ => .und
  | v => .d (.v v)
/-- Where a variable of the package lies. -/
def isGl (n : Nat) : Value → Bool
  | .pointer (some ⟨b, 0, none⟩) => Nat.beq b n
  | _ => false
theorem isGl_spec {n : Nat} {v : Value} (h : isGl n v = true) : v = .pointer (some ⟨n, 0, none⟩) := by
  unfold isGl at h
  split at h
  · rw [Nat.eq_of_beq_eq_true h]
  · cases h
def opT (σ : Nat → T) : Operand → T
  | .tmp t => σ t
  | .const v => constT v
  | .func f => .fn f []
  | .global n => .pr (isGl n)
/-- What reads as t reads as t', too. -/
def TLe (t t' : T) : Prop := ∀ (g : Gh) (y : Value), RepT g t y → RepT g t' y
theorem TLe.refl (t : T) : TLe t t := fun _ _ h => h
theorem TLe.of_eq {t t' : T} (h : t = t') : TLe t t' := h ▸ TLe.refl t
theorem TLe.und (t : T) : TLe t .und := fun _ _ _ => .und
theorem TLe.own {k : Nat} {l : List D} {id : Nat} : TLe (.own k l id) (.d (.sl k l)) := fun _ _ h => by cases h with | own h _ _ => exact .d h
theorem TLe.nil {k : Nat} : TLe (.d (.v (.slice none 0 0))) (.d (.sl k [])) := fun g y h => by
  cases h with
  | d h => cases h with | v _ => exact .d (RepD.sl .nil (RowS.nil _ _) (Nat.le_refl _) (Nat.zero_le _) fun _ => rfl)
theorem TLe.trans {a b c : T} (h : TLe a b) (h' : TLe b c) : TLe a c := fun g y e => h' g y (h g y e)

section
variable {P : Program} {o : Oper} {σ : Nat → T}
theorem reps_one {S : Sm} : ∀ {l : List Value}, (∀ x ∈ l, x.oneCell' = true) → RepDs S (l.map .v) l
  | [], _ => .nil
  | x :: l, h => .cons (.v (h x (by simp))) (h x (by simp)) (reps_one fun y hy => h y (by simp [hy]))
theorem rep_const (g : Gh) (v : Value) : RepT g (constT v) v := by
  cases v with
  | agg cs =>
    show RepT g (if cs.all (·.oneCell') = true then T.d (.agg (cs.toList.map .v)) else T.und) _
    split
    · next h =>
      refine .d ?_
      have := RepD.agg (S := g.S) (reps_one (l := cs.toList) fun x hx => by
        have := Array.all_eq_true_iff_forall_mem.1 h x (Array.mem_toList_iff.1 hx)
        exact this)
      simpa using this
    · exact .und
  | tuple _ => exact .und
  | _ => exact .d (.v rfl)
theorem rep_op {g : Gh} {a : Act} {x : Operand} (hr : ∀ t, .tmp t ∈ o.op.operands → RepT g (σ t) (a.tmps.getD t undef)) (hx : x ∈ o.op.operands) : RepT g (opT σ x) (a.eval x) := by
  cases x with
  | tmp t => exact hr t hx
  | const v => exact rep_const g v
  | global n => exact .pr rfl (Nat.beq_refl n)
  | func f =>
    have := RepT.fn (g := g) (f := f) (caps := []) .nil
    exact this
/-- One that yields a value, and leaves the world alone. -/
theorem Tri.val {pre : List (Nat × GObj)} {v : T} (h : ∀ (Γ : Cx) (g : Gh) (objs : Objs) (a : Act) (w : World), (∀ x ∈ o.op.operands, RepT g (opT σ x) (a.eval x)) → (∀ p ∈ pre, objs p.1 = some p.2) → WI Γ g objs w →
    ∃ x, (execOp a.eval o).run P w = .ok (.value x) w ∧ RepT g v x) : Tri P o σ pre v [] := by
  intro Γ g objs a w Q hr hp hw
  obtain ⟨x, hx, hv⟩ := h Γ g objs a w (fun x hx => rep_op hr hx) hp hw
  unfold Oper.wp
  rw [hx]
  exact ⟨g, x, rfl, GLe.refl _ _, hv, hw⟩

theorem t_move {x : Operand} {v : T} (ho : o.op = .move x) (hx : TLe (opT σ x) v) : Tri P o σ [] v [] :=
  .val fun _ g _ a w hr _ _ => ⟨a.eval x, by unfold execOp; rw [ho]; rfl, hx g _ (hr x (by rw [ho]; simp [Op.operands]))⟩
theorem t_assign {x : Operand} {v : T} (ho : o.op = .assign x) (hx : TLe (opT σ x) v) : Tri P o σ [] v [] :=
  .val fun _ g _ a w hr _ _ => ⟨a.eval x, by unfold execOp; rw [ho]; rfl, hx g _ (hr x (by rw [ho]; simp [Op.operands]))⟩
theorem inv_v {g : Gh} {x y : Value} (h : RepT g (.d (.v x)) y) : y = x := by cases h with | d h => cases h; rfl
theorem one_v {g : Gh} {x y : Value} (h : RepT g (.d (.v x)) y) : x.oneCell' = true := by cases h with | d h => cases h; assumption
theorem rep_v {g : Gh} {x : Value} (h : x.oneCell' = true) : RepT g (.d (.v x)) x := .d (.v h)
theorem t_pick_t {c x y : Operand} {v : T} (ho : o.op = .pick c x y) (hc : opT σ c = .d (.v (.bool true))) (hx : TLe (opT σ x) v) : Tri P o σ [] v [] :=
  .val fun _ g _ a w hr _ _ => ⟨a.eval x, by
    have h1 := hr c (by rw [ho]; simp [Op.operands])
    rw [hc] at h1
    unfold execOp; rw [ho]; simp [inv_v h1, asBool], hx g _ (hr x (by rw [ho]; simp [Op.operands]))⟩
theorem t_pick_f {c x y : Operand} {v : T} (ho : o.op = .pick c x y) (hc : opT σ c = .d (.v (.bool false))) (hy : TLe (opT σ y) v) : Tri P o σ [] v [] :=
  .val fun _ g _ a w hr _ _ => ⟨a.eval y, by
    have h1 := hr c (by rw [ho]; simp [Op.operands])
    rw [hc] at h1
    unfold execOp; rw [ho]; simp [inv_v h1, asBool], hy g _ (hr y (by rw [ho]; simp [Op.operands]))⟩
/-- What an operator yields at two values. -/
def BinR (P : Program) (op : BinOp) (t : TypeId) (a b r : Value) : Prop := ∀ (x y : Operand) (w : World), (do eqGuard op t x y a b; binOp op t a b : Sem Value).run P w = .ok r w
theorem t_bin {op : BinOp} {t u : TypeId} {x y : Operand} {a b r : Value} (ho : o.op = .binOp op t x y u) (hx : opT σ x = .d (.v a)) (hy : opT σ y = .d (.v b)) (hr : BinR P op t a b r) (h1 : r.oneCell' = true) : Tri P o σ [] (.d (.v r)) [] :=
  .val fun _ g _ ac w hrp _ _ => ⟨r, by
    have e1 := hrp x (by rw [ho]; simp [Op.operands])
    have e2 := hrp y (by rw [ho]; simp [Op.operands])
    rw [hx] at e1
    rw [hy] at e2
    unfold execOp; rw [ho]
    simp only [inv_v e1, inv_v e2]
    have := hr x y w
    simp only [Sem.run_bind] at this ⊢
    rw [this]; rfl, rep_v h1⟩
theorem b_add (k : IntKind) (t : TypeId) (a b : Int) : BinR P .add t (.int k a) (.int k b) (.int k (k.wrap (a + b))) := fun x y w => by simp [eqGuard, binOp, Op.intArith]
theorem b_sub (k : IntKind) (t : TypeId) (a b : Int) : BinR P .sub t (.int k a) (.int k b) (.int k (k.wrap (a - b))) := fun x y w => by simp [eqGuard, binOp, Op.intArith]
theorem b_mul (k : IntKind) (t : TypeId) (a b : Int) : BinR P .mul t (.int k a) (.int k b) (.int k (k.wrap (a * b))) := fun x y w => by simp [eqGuard, binOp, Op.intArith]
theorem b_rem (k : IntKind) (t : TypeId) (a b : Int) (h : b ≠ 0) : BinR P .rem t (.int k a) (.int k b) (.int k (a.tmod b)) := fun x y w => by simp [eqGuard, binOp, Op.intDiv, h]
theorem b_quo (k : IntKind) (t : TypeId) (a b : Int) (h : b ≠ 0) : BinR P .quo t (.int k a) (.int k b) (.int k (k.wrap (a.tdiv b))) := fun x y w => by simp [eqGuard, binOp, Op.intDiv, h]
theorem b_and (k : IntKind) (t : TypeId) (a b : Int) : BinR P .and t (.int k a) (.int k b) (.int k (k.wrap (BitVec.ofInt k.bits a &&& BitVec.ofInt k.bits b).toNat)) := fun x y w => by simp [eqGuard, binOp, Op.intBits]
theorem b_eql (k : IntKind) (t : TypeId) (a b : Int) : BinR P .eql t (.int k a) (.int k b) (.bool (a == b)) := fun x y w => by simp [eqGuard, binOp, Op.intCmp]
theorem b_neq (k : IntKind) (t : TypeId) (a b : Int) : BinR P .neq t (.int k a) (.int k b) (.bool (a != b)) := fun x y w => by simp [eqGuard, binOp, Op.intCmp]
theorem b_lss (k : IntKind) (t : TypeId) (a b : Int) : BinR P .lss t (.int k a) (.int k b) (.bool (decide (a < b))) := fun x y w => by simp [eqGuard, binOp, Op.intCmp]
theorem b_leq (k : IntKind) (t : TypeId) (a b : Int) : BinR P .leq t (.int k a) (.int k b) (.bool (decide (a ≤ b))) := fun x y w => by simp [eqGuard, binOp, Op.intCmp]
theorem b_gtr (k : IntKind) (t : TypeId) (a b : Int) : BinR P .gtr t (.int k a) (.int k b) (.bool (decide (b < a))) := fun x y w => by simp [eqGuard, binOp, Op.intCmp]
theorem b_geq (k : IntKind) (t : TypeId) (a b : Int) : BinR P .geq t (.int k a) (.int k b) (.bool (decide (b ≤ a))) := fun x y w => by simp [eqGuard, binOp, Op.intCmp]
theorem eq_bool (t : TypeId) (a b : Bool) (ht : P.underlying t = some .bool) (w : World) : (Op.equal t (.bool a) (.bool b)).run P w = .ok (a == b) w := run_equal_bool w t a b ht
theorem b_beql (t : TypeId) (a b : Bool) (ht : P.underlying t = some .bool) : BinR P .eql t (.bool a) (.bool b) (.bool (a == b)) := fun x y w => by
  have : (binOp .eql t (.bool a) (.bool b)).run P w = .ok (.bool (a == b)) w := by
    show (do pure (.bool (← Op.equal t (.bool a) (.bool b))) : Sem Value).run P w = _
    simp only [Sem.run_bind, eq_bool t a b ht, Result.andThen_ok, Sem.run_pure]
  simp only [eqGuard, Sem.run_bind]
  exact this
theorem b_bneq (t : TypeId) (a b : Bool) (ht : P.underlying t = some .bool) : BinR P .neq t (.bool a) (.bool b) (.bool (a != b)) := fun x y w => by
  have : (binOp .neq t (.bool a) (.bool b)).run P w = .ok (.bool (a != b)) w := by
    show (do pure (.bool (!(← Op.equal t (.bool a) (.bool b)))) : Sem Value).run P w = _
    simp only [Sem.run_bind, eq_bool t a b ht, Result.andThen_ok, Sem.run_pure]
    rfl
  simp only [eqGuard, Sem.run_bind]
  exact this
theorem b_seql (t : TypeId) (a b : ByteArray) : BinR P .eql t (.string a) (.string b) (.bool (a.toList == b.toList)) := fun x y w => by simp [eqGuard, binOp, Op.stringOp]
theorem b_sneq (t : TypeId) (a b : ByteArray) : BinR P .neq t (.string a) (.string b) (.bool (!(a.toList == b.toList))) := fun x y w => by simp [eqGuard, binOp, Op.stringOp]
theorem t_not {t : TypeId} {x : Operand} {b : Bool} (ho : o.op = .unOp .not t x) (hx : opT σ x = .d (.v (.bool b))) : Tri P o σ [] (.d (.v (.bool (!b)))) [] :=
  .val fun _ g _ ac w hrp _ _ => ⟨.bool (!b), by
    have e1 := hrp x (by rw [ho]; simp [Op.operands])
    rw [hx] at e1
    unfold execOp; rw [ho]; simp [inv_v e1, Op.unary], rep_v rfl⟩
theorem t_neg {t : TypeId} {x : Operand} {k : IntKind} {n : Int} (ho : o.op = .unOp .neg t x) (hx : opT σ x = .d (.v (.int k n))) : Tri P o σ [] (.d (.v (.int k (k.wrap (0 - n))))) [] :=
  .val fun _ g _ ac w hrp _ _ => ⟨.int k (k.wrap (0 - n)), by
    have e1 := hrp x (by rw [ho]; simp [Op.operands])
    rw [hx] at e1
    unfold execOp; rw [ho]; simp [inv_v e1, Op.unary, Op.intArith], rep_v rfl⟩
theorem reps_at {g : Gh} : ∀ {l : List T} {vs : List Value} {i : Nat} {t : T}, Reps g l vs → l[i]? = some t → ∃ v, vs[i]? = some v ∧ RepT g t v
  | _, _, _, _, .nil, h => by simp at h
  | _, _, 0, _, .cons h1 _, h => by simp at h; subst h; exact ⟨_, rfl, h1⟩
  | _, _, i + 1, _, .cons _ ht, h => by simpa using reps_at ht (by simpa using h)
theorem t_extract {x : Operand} {i : Nat} {l : List T} {v : T} (ho : o.op = .extract x i) (hx : opT σ x = .tup l) (hi : l[i]? = some v) : Tri P o σ [] v [] :=
  .val fun _ g _ ac w hrp _ _ => by
    have e1 := hrp x (by rw [ho]; simp [Op.operands])
    rw [hx] at e1
    generalize he : ac.eval x = y at e1
    cases e1 with
    | tup h =>
      obtain ⟨u, hu, hru⟩ := reps_at h hi
      refine ⟨u, ?_, hru⟩
      unfold execOp; rw [ho]; simp [he, Instr.extract, hu]

/-! ### Slices, structs -/
def elemOf? (P : Program) (t : TypeId) : Option (TypeId × Nat) := match P.underlying t with
  | some (.slice e) => (P.info? e).map fun i => (e, i.size)
  | _ => none
theorem elem_spec {t e : TypeId} {k : Nat} (h : elemOf? P t = some (e, k)) : P.underlying t = some (.slice e) ∧ ∃ i, P.info? e = some i ∧ i.size = k := by
  unfold elemOf? at h
  split at h
  · next e' he =>
    cases hi : P.info? e' with
    | none => rw [hi] at h; cases h
    | some i => rw [hi] at h; cases h; exact ⟨he, i, hi, rfl⟩
  · cases h
def aggOf? (P : Program) (t : TypeId) : Option (Bool × Nat) := match P.underlying t, P.info? t with
  | some (.struct _), some i => some (true, i.size)
  | some (.array _ _), some i => some (true, i.size)
  | some _, some i => some (false, i.size)
  | _, _ => none
theorem agg_spec {t : TypeId} {b : Bool} {k : Nat} (h : aggOf? P t = some (b, k)) (w : World) : (isAgg t).run P w = .ok b w ∧ (sizeOf t).run P w = .ok k w := by
  unfold aggOf? at h
  split at h
  · next hu hi => cases h; simp [isAgg, run_underlying hu, sizeOf, typeInfo, hi]
  · next hu hi => cases h; simp [isAgg, run_underlying hu, sizeOf, typeInfo, hi]
  · next d i h1 h2 hu hi =>
    cases h
    refine ⟨?_, by simp [sizeOf, typeInfo, hi]⟩
    simp only [isAgg, Sem.run_bind, run_underlying hu, Result.andThen_ok]
    rfl
  · cases h
def fieldOff? (P : Program) (s : TypeId) (f : Nat) : Option Nat := match P.underlying s with
  | some (.struct fs) => match fs[f]? with
    | some x => match P.info? x.type with
      | some i => if i.size = 0 then none else some x.offset
      | none => none
    | none => none
  | _ => none
theorem t_len_sl {t : TypeId} {x : Operand} {k : Nat} {l : List D} {e : TypeId} (ho : o.op = .call { callee := .builtin .len, args := #[x], argTypes := #[t] }) (ht : P.underlying t = some (.slice e)) (hx : TLe (opT σ x) (.d (.sl k l))) : Tri P o σ [] (.d (.v (.int .i64 l.length))) [] :=
  .val fun _ g _ ac w hrp _ _ => ⟨.int .i64 l.length, by
    have e1 := hx g _ (hrp x (by rw [ho]; simp [Op.operands, Call.operands]))
    generalize he : ac.eval x = y at e1
    cases e1 with
    | d h =>
      cases h with
      | sl h1 hr hc hb hn =>
        unfold execOp; rw [ho]
        simp [resolve, invoke, builtin, Builtin.len_, he, run_underlying ht, goInt], rep_v rfl⟩
theorem t_len {t e : TypeId} {x : Operand} {k : Nat} {l : List D} (ho : o.op = .call { callee := .builtin .len, args := #[x], argTypes := #[t] }) (ht : elemOf? P t = some (e, k)) (hx : TLe (opT σ x) (.d (.sl k l))) : Tri P o σ [] (.d (.v (.int .i64 l.length))) [] := t_len_sl ho (elem_spec ht).1 hx
theorem t_len_str {t : TypeId} {x : Operand} {s : ByteArray} (ho : o.op = .call { callee := .builtin .len, args := #[x], argTypes := #[t] }) (ht : P.underlying t = some .string) (hx : opT σ x = .d (.v (.string s))) : Tri P o σ [] (.d (.v (.int .i64 s.size))) [] :=
  .val fun _ g _ ac w hrp _ _ => ⟨.int .i64 s.size, by
    have e1 := hrp x (by rw [ho]; simp [Op.operands, Call.operands])
    rw [hx] at e1
    unfold execOp; rw [ho]
    simp [resolve, invoke, builtin, Builtin.len_, inv_v e1, run_underlying ht, goInt], rep_v rfl⟩
theorem t_min {x y : Operand} {k : IntKind} {a b : Int} {ts : Array TypeId} (ho : o.op = .call { callee := .builtin .min, args := #[x, y], argTypes := ts }) (hx : opT σ x = .d (.v (.int k a))) (hy : opT σ y = .d (.v (.int k b))) : Tri P o σ [] (.d (.v (.int k (if b < a then b else a)))) [] :=
  .val fun _ g _ ac w hrp _ _ => ⟨.int k (if b < a then b else a), by
    have e1 := hrp x (by rw [ho]; simp [Op.operands, Call.operands])
    have e2 := hrp y (by rw [ho]; simp [Op.operands, Call.operands])
    rw [hx] at e1
    rw [hy] at e2
    unfold execOp; rw [ho]
    simp [resolve, invoke, builtin, Builtin.min_, Builtin.min2, inv_v e1, inv_v e2], rep_v rfl⟩
/-- The address of an element. -/
theorem t_index {t e : TypeId} {x i : Operand} {k : Nat} {l : List D} {n : Nat} {d : D} {kd : IntKind} (ho : o.op = .indexAddr t x i) (ht : elemOf? P t = some (e, k)) (hx : TLe (opT σ x) (.d (.sl k l))) (hi : opT σ i = .d (.v (.int kd n))) (hd : l[n]? = some d) (hk : 0 < k) : Tri P o σ [] (.pi d.lv) [] :=
  .val fun _ g _ ac w hrp _ _ => by
    have e1 := hx g _ (hrp x (by rw [ho]; simp [Op.operands]))
    have e2 := hrp i (by rw [ho]; simp [Op.operands])
    rw [hi] at e2
    obtain ⟨hu, inf, hinf, hsz⟩ := elem_spec ht
    have hnl : n < l.length := (List.getElem?_eq_some_iff.1 hd).1
    generalize he : ac.eval x = y at e1
    cases e1 with
    | d h =>
      cases h with
      | @sl _ _ p cap xs h1 hr hc hb hn =>
        obtain ⟨b, off, hp, hcell⟩ := hr
        have hlen := h1.len
        have hpos : 0 < xs.length := by rw [hlen]; exact Nat.mul_pos (by omega) hk
        have hp' := hp hpos
        subst hp'
        have hle : n * k + k ≤ xs.length := by rw [hlen, ← Nat.succ_mul]; exact Nat.mul_le_mul_right _ hnl
        refine ⟨.pointer (some ⟨b, off + n * k, none⟩), ?_, ?_⟩
        · unfold execOp; rw [ho]
          simp [Instr.indexAt, he, inv_v e2, asIntOf, run_underlying hu, hnl, sizeOf, typeInfo, hinf, hsz, add_lit']
        · refine RepT.pi (h1.at_ hd) fun j hj => ?_
          have hj' : j < k := by simp at hj; omega
          rw [Nat.add_assoc, hcell _ (by omega), List.getElem?_take, if_pos hj', List.getElem?_drop]
theorem t_field {s : TypeId} {x : Operand} {f fo : Nat} {ds : List D} (ho : o.op = .fieldAddr s x f) (hf : fieldOff? P s f = some fo) (hx : opT σ x = .pi ds) : Tri P o σ [] (.pi (ds.drop fo)) [] :=
  .val fun _ g _ ac w hrp _ _ => by
    have e1 := hrp x (by rw [ho]; simp [Op.operands])
    rw [hx] at e1
    generalize he : ac.eval x = y at e1
    cases e1 with
    | @pi _ xs b off h1 hr =>
      refine ⟨.pointer (some ⟨b, off + fo, none⟩), ?_, RepT.pi (h1.drop fo) fun j hj => ?_⟩
      · unfold fieldOff? at hf
        split at hf
        · next fs hu =>
          split at hf
          · next fl hfl =>
            split at hf
            · next inf hinf =>
              split at hf
              · cases hf
              · next hz =>
                cases hf
                unfold execOp; rw [ho]
                simp [Instr.fieldAt, he, run_underlying hu, hfl, Instr.sureAddr, fieldPlace, sizeOf, typeInfo, hinf, hz, add_lit']
            · cases hf
          · cases hf
        · cases hf
      · simp at hj
        rw [Nat.add_assoc, hr _ (by omega), List.getElem?_drop]
theorem t_field_ref {s : TypeId} {x : Operand} {f fo id off : Nat} (ho : o.op = .fieldAddr s x f) (hf : fieldOff? P s f = some fo) (hx : opT σ x = .ref id off) : Tri P o σ [] (.ref id (off + fo)) [] :=
  .val fun _ g _ ac w hrp _ _ => by
    have e1 := hrp x (by rw [ho]; simp [Op.operands])
    rw [hx] at e1
    generalize he : ac.eval x = y at e1
    cases e1 with
    | ref ha =>
      refine ⟨.pointer (some ⟨g.blk id, off + fo, none⟩), ?_, RepT.ref ha⟩
      · unfold fieldOff? at hf
        split at hf
        · next fs hu =>
          split at hf
          · next fl hfl =>
            split at hf
            · next inf hinf =>
              split at hf
              · cases hf
              · next hz =>
                cases hf
                unfold execOp; rw [ho]
                simp [Instr.fieldAt, he, run_underlying hu, hfl, Instr.sureAddr, fieldPlace, sizeOf, typeInfo, hinf, hz, add_lit']
            · cases hf
          · cases hf
        · cases hf
/-- Loads of what never turns. -/
theorem load_run {t : TypeId} {p : Addr} {w : World} {v : Value} {k : Nat} (ht : aggOf? P t = some (false, k)) (hc : w.cell? p = some v) : (Instr.loadAt t (.pointer (some p))).run P w = .ok v w := by
  simp [Instr.loadAt, Instr.sureAddr, loadVar, (agg_spec ht w).1, load, Sem.run, hc]
theorem loadCells_run {w : World} : ∀ (n i : Nat) (acc : Array Value) (p : Addr) (xs : List Value), xs.length = n → (∀ j, j < n → w.cell? (p.add (i + j)) = xs[j]?) → (loadCellsFrom p i n acc).run P w = .ok (acc ++ xs.toArray) w
  | 0, i, acc, p, xs, h, _ => by
    obtain rfl := List.length_eq_zero_iff.1 h
    simp [loadCellsFrom]
  | n + 1, i, acc, p, x :: xs, h, hc => by
    have h0 := hc 0 (by omega)
    rw [Nat.add_zero] at h0
    have ih := loadCells_run n (i + 1) (acc.push x) p xs (by simpa using h) (fun j hj => by
      have := hc (j + 1) (by omega)
      rw [show i + (j + 1) = i + 1 + j from by omega] at this
      simpa using this)
    simp only [loadCellsFrom, Sem.run_bind, load, Sem.run]
    rw [h0]
    simp only [List.getElem?_cons_zero, Result.andThen_ok]
    rw [ih]
    simp
theorem load_agg_run {t : TypeId} {b off : Nat} {w : World} {k : Nat} {xs : List Value} (ht : aggOf? P t = some (true, k)) (hl : xs.length = k) (hc : ∀ j, j < k → w.cell? ⟨b, off + j, none⟩ = xs[j]?) : (Instr.loadAt t (.pointer (some ⟨b, off, none⟩))).run P w = .ok (.agg xs.toArray) w := by
  have h := loadCells_run (P := P) (w := w) k 0 #[] ⟨b, off, none⟩ xs hl (fun j hj => by rw [add_lit', Nat.zero_add]; exact hc j hj)
  simp only [Instr.loadAt, Instr.sureAddr, loadVar, Sem.run_bind, Sem.run_pure, Result.andThen_ok, (agg_spec ht w).1, if_true, (agg_spec ht w).2, loadCells, h]
  simp
theorem t_load {t : TypeId} {x : Operand} {k : Nat} {d : D} {ds : List D} (ho : o.op = .load t x) (ht : aggOf? P t = some (false, k)) (hx : opT σ x = .pi ds) (hd : ds[0]? = some d) : Tri P o σ [] (.d d) [] :=
  .val fun _ g _ ac w hrp _ hw => by
    have e1 := hrp x (by rw [ho]; simp [Op.operands])
    rw [hx] at e1
    generalize he : ac.eval x = y at e1
    cases e1 with
    | @pi _ xs b off h1 hr =>
      obtain ⟨u, hu, hru, hone⟩ := h1.at_ hd
      have hc := hr 0 (List.getElem?_eq_some_iff.1 hu).1
      rw [Nat.add_zero, hu] at hc
      exact ⟨u, by unfold execOp; rw [ho]; simp [he, load_run ht (hw.imm _ _ _ hc)], .d hru⟩
theorem t_load_agg {t : TypeId} {x : Operand} {k : Nat} {ds : List D} (ho : o.op = .load t x) (ht : aggOf? P t = some (true, k)) (hx : opT σ x = .pi ds) (hk : k ≤ ds.length) : Tri P o σ [] (.d (.agg (ds.take k))) [] :=
  .val fun _ g _ ac w hrp _ hw => by
    have e1 := hrp x (by rw [ho]; simp [Op.operands])
    rw [hx] at e1
    generalize he : ac.eval x = y at e1
    cases e1 with
    | @pi _ xs b off h1 hr =>
      have hlen := h1.len
      have := load_agg_run (b := b) (off := off) (w := w) (xs := xs.take k) ht (by simp; omega) (fun j hj => by
        have hj2 : j < xs.length := by omega
        have hc := hr j hj2
        rw [List.getElem?_eq_getElem hj2] at hc
        rw [hw.imm _ _ _ hc, List.getElem?_take, if_pos hj, List.getElem?_eq_getElem hj2])
      exact ⟨_, by unfold execOp; rw [ho]; simp [he, this], .d (.agg (h1.take k))⟩
end
end Go.Proofs.YtngklbnodknadaaGreatDoor
end

section
namespace Go.Proofs.YtngklbnodknadaaGreatDoor
open Go.RowKit

abbrev GPost := Exit → (Nat → T) → Objs → Prop
def lift (Γ : Cx) (n : Nat) (Q : GPost) : Exit → Act → World → Prop := fun e a w => ∃ σ objs, Q e σ objs ∧ Conc Γ n σ objs a w
/-- From slots and objects such, c comes to Q. -/
def AW (P : Program) (Γ : Cx) (n : Nat) (c : Code) (σ : Nat → T) (objs : Objs) (Q : GPost) : Prop := ∀ a w, Conc Γ n σ objs a w → c.wp P (lift Γ n Q) a w
section
variable {P : Program} {Γ : Cx} {n : Nat} {σ σ' : Nat → T} {objs objs' : Objs} {Q : GPost}
theorem AW.seq {x y : Code} (h : AW P Γ n x σ objs fun e σ' objs' => match e with | .normal => AW P Γ n y σ' objs' Q | e => Q e σ' objs') : AW P Γ n (.seq x y) σ objs Q := fun a w hc =>
  wp_seq (wp_mono (h a w hc) fun e a' w' ⟨σ', objs', hq, hc'⟩ => by
    cases e with
    | normal => exact hq a' w' hc'
    | _ => exact ⟨σ', objs', hq, hc'⟩)
/-- What is behind kept under a name. -/
theorem AW.seq_k {x y : Code} (h : ∀ K : (Nat → T) → Objs → Prop, (∀ σ objs, AW P Γ n y σ objs Q → K σ objs) → AW P Γ n x σ objs fun e σ' objs' => match e with | .normal => K σ' objs' | e => Q e σ' objs') : AW P Γ n (.seq x y) σ objs Q :=
  AW.seq (h _ fun _ _ h => h)
theorem AW.skip (h : Q .normal σ objs) : AW P Γ n .skip σ objs Q := fun _ _ hc => wp_skip ⟨σ, objs, h, hc⟩
theorem AW.ret (h : Q .ret σ objs) : AW P Γ n .ret σ objs Q := fun _ _ hc => wp_ret ⟨σ, objs, h, hc⟩
theorem AW.exit {id : Nat} (h : Q (.exit id) σ objs) : AW P Γ n (.exit id) σ objs Q := fun _ _ hc => wp_exit ⟨σ, objs, h, hc⟩
theorem AW.block {id : Nat} {c : Code} (h : AW P Γ n c σ objs fun e σ' objs' => match e with | .exit i => if i = id then Q .normal σ' objs' else Q (.exit i) σ' objs' | e => Q e σ' objs') : AW P Γ n (.block id c) σ objs Q := fun a w hc =>
  wp_block (wp_mono (h a w hc) fun e a' w' ⟨σ', objs', hq, hc'⟩ => by
    cases e with
    | exit i =>
      show (if i = id then _ else _)
      replace hq : if i = id then Q Exit.normal σ' objs' else Q (Exit.exit i) σ' objs' := hq
      by_cases hi : i = id
      · rw [if_pos hi] at hq ⊢; exact ⟨σ', objs', hq, hc'⟩
      · rw [if_neg hi] at hq ⊢; exact ⟨σ', objs', hq, hc'⟩
    | _ => exact ⟨σ', objs', hq, hc'⟩)
theorem AW.cond {t : Tmp} {x y : Code} {b : Bool} (hb : σ t = .d (.v (.bool b))) (ht : b = true → AW P Γ n x σ objs Q) (hf : b = false → AW P Γ n y σ objs Q) : AW P Γ n (.cond (.tmp t) x y) σ objs Q := fun a w hc => by
  obtain ⟨hd, hs, g, hr, hw⟩ := hc
  have h1 := hr t
  rw [hb] at h1
  exact wp_cond_split (t := b) (inv_v h1) (fun e => ht e a w ⟨hd, hs, g, hr, hw⟩) (fun e => hf e a w ⟨hd, hs, g, hr, hw⟩)
/-- Less is known. -/
theorem Conc.weak {a : Act} {w : World} (h : Conc Γ n σ objs a w) (hσ : ∀ t, TLe (σ t) (σ' t)) (ho : ∀ id ob, objs' id = some ob → objs id = some ob) : Conc Γ n σ' objs' a w := by
  obtain ⟨hd, hs, g, hr, hw⟩ := h
  exact ⟨hd, hs, g, fun t => hσ t g _ (hr t), ⟨hw.imm, fun id ob h => hw.obj id ob (ho id ob h), fun i j oi oj b h1 h2 => hw.apart i j oi oj b (ho _ _ h1) (ho _ _ h2), hw.fr, hw.old, hw.ext⟩⟩
theorem AW.weak {c : Code} (h : AW P Γ n c σ' objs' Q) (hσ : ∀ t, TLe (σ t) (σ' t)) (ho : ∀ id ob, objs' id = some ob → objs id = some ob) : AW P Γ n c σ objs Q := fun a w hc => h a w (hc.weak hσ ho)
theorem AW.mono {c : Code} {Q' : GPost} (h : AW P Γ n c σ objs Q') (hq : ∀ e σ objs, Q' e σ objs → Q e σ objs) : AW P Γ n c σ objs Q := fun a w hc => wp_mono (h a w hc) fun _ _ _ ⟨σ', objs', h1, h2⟩ => ⟨σ', objs', hq _ _ _ h1, h2⟩
/-- A loop: at each round's head it is in one of the states st, of a number that goes down. -/
theorem AW.loop {c : Code} {ι : Type} (I : ι → Prop) (st : ι → Nat → T) (ob : ι → Objs) (μ : ι → Nat) (i0 : ι) (hi0 : I i0) (h0 : ∀ t, TLe (σ t) (st i0 t)) (ho0 : ∀ id x, ob i0 id = some x → objs id = some x)
    (round : ∀ i, I i → AW P Γ n c (st i) (ob i) fun e σ' objs' => match e with | .normal => ∃ j, I j ∧ μ j < μ i ∧ (∀ t, TLe (σ' t) (st j t)) ∧ (∀ id x, ob j id = some x → objs' id = some x) | e => Q e σ' objs') : AW P Γ n (.loop c) σ objs Q := by
  intro a w hc
  refine wp_loop_ghost (fun m a w => ∃ i, I i ∧ μ i = m ∧ Conc Γ n (st i) (ob i) a w) (μ i0) ⟨i0, hi0, rfl, hc.weak h0 ho0⟩ ?_
  rintro m a w ⟨i, hi, rfl, hci⟩
  refine wp_mono (round i hi a w hci) fun e a' w' ⟨σ', objs', hq, hc'⟩ => ?_
  cases e with
  | normal =>
    obtain ⟨j, hI, hj, h1, h2⟩ := hq
    exact ⟨μ j, hj, j, hI, rfl, hc'.weak h1 h2⟩
  | _ => exact ⟨σ', objs', hq, hc'⟩
theorem AW.condT {t : Tmp} {x y : Code} (hb : σ t = .d (.v (.bool true))) (h : AW P Γ n x σ objs Q) : AW P Γ n (.cond (.tmp t) x y) σ objs Q := AW.cond hb (fun _ => h) fun e => by cases e
theorem AW.condF {t : Tmp} {x y : Code} (hb : σ t = .d (.v (.bool false))) (h : AW P Γ n y σ objs Q) : AW P Γ n (.cond (.tmp t) x y) σ objs Q := AW.cond hb (fun e => by cases e) fun _ => h
theorem ifT {c : Prop} [Decidable c] {p q : Prop} (hc : c) (h : p) : if c then p else q := by rw [if_pos hc]; exact h
theorem ifF {c : Prop} [Decidable c] {p q : Prop} (hc : ¬ c) (h : q) : if c then p else q := by rw [if_neg hc]; exact h
/-- How long a slice may be. -/
theorem AW.len {c : Code} (t k : Nat) (l : List D) (ht : TLe (σ t) (.d (.sl k l))) (h : l.length ≤ 9223372036854775807 → AW P Γ n c σ objs Q) : AW P Γ n c σ objs Q := by
  intro a w hc
  obtain ⟨hd, hs, g, hr, hw⟩ := hc
  have h1 := ht g _ (hr t)
  generalize a.tmps.getD t undef = y at h1
  refine h ?_ a w ⟨hd, hs, g, hr, hw⟩
  cases h1 with
  | d h1 => cases h1 with | sl _ _ hc hb _ => omega
theorem AW.lenp {c : Code} (t k : Nat) (l : List D) {ds : List D} (ht : σ t = .pi ds) (i : Nat) (hi : ds[i]? = some (.sl k l)) (h : l.length ≤ 9223372036854775807 → AW P Γ n c σ objs Q) : AW P Γ n c σ objs Q := by
  intro a w hc
  obtain ⟨hd, hs, g, hr, hw⟩ := hc
  have h1 := hr t
  rw [ht] at h1
  generalize a.tmps.getD t undef = y at h1
  refine h ?_ a w ⟨hd, hs, g, hr, hw⟩
  cases h1 with
  | pi h1 _ =>
    obtain ⟨x, -, h2, -⟩ := h1.at_ hi
    cases h2 with | sl _ _ hc hb _ => omega
end
end Go.Proofs.YtngklbnodknadaaGreatDoor
end

section
namespace Go.Proofs.YtngklbnodknadaaGreatDoor
open Go.RowKit

/-! ### Slots as a list -/
def envL (l : List T) : Nat → T := fun t => l.getD t .und
def objL (l : List (Nat × GObj)) : Objs := fun i => l.lookup i
theorem objL_nil : objL [] = fun _ => none := rfl
theorem objL_sub {L : List (Nat × GObj)} {objs : Objs} (h : ∀ p ∈ L, objs p.1 = some p.2) : ∀ id ob, objL L id = some ob → objs id = some ob := by
  intro id ob hl
  unfold objL at hl
  induction L with
  | nil => cases hl
  | cons p L ih =>
    rw [List.lookup_cons] at hl
    split at hl
    · next e => cases hl; rw [show id = p.1 from by simpa using e]; exact h p (by simp)
    · exact ih (fun q hq => h q (by simp [hq])) hl
def Trim (σ : Nat → T) : Nat → List T → Prop
  | _, [] => True
  | i, v :: vs => TLe (σ i) v ∧ Trim σ (i + 1) vs
theorem Trim.get {σ : Nat → T} : ∀ {vs : List T} {i : Nat}, Trim σ i vs → ∀ t, TLe (σ (i + t)) (vs.getD t .und)
  | [], _, _, t => by simpa using TLe.und _
  | v :: vs, i, h, 0 => by simpa using h.1
  | v :: vs, i, h, t + 1 => by
    have := Trim.get h.2 t
    rw [show i + 1 + t = i + (t + 1) from by omega] at this
    simpa using this
theorem Trim.all {σ : Nat → T} {vs : List T} (h : Trim σ 0 vs) : ∀ t, TLe (σ t) (envL vs t) := fun t => by have := h.get t; rwa [Nat.zero_add] at this
theorem Trim.nil {σ : Nat → T} {i : Nat} : Trim σ i [] := trivial
theorem Trim.to {σ : Nat → T} {i : Nat} {v : T} {vs : List T} (h : σ i = v) (ht : Trim σ (i + 1) vs) : Trim σ i (v :: vs) := ⟨TLe.of_eq h, ht⟩
theorem Trim.le {σ : Nat → T} {i : Nat} {v : T} {vs : List T} (h : TLe (σ i) v) (ht : Trim σ (i + 1) vs) : Trim σ i (v :: vs) := ⟨h, ht⟩
/-- k slots, as they are. -/
inductive TrimN (σ : Nat → T) : Nat → Nat → List T → Prop
  | nil {i : Nat} : TrimN σ i 0 []
  | cons {i k : Nat} {v : T} {vs : List T} (h : σ i = v) (ht : TrimN σ (i + 1) k vs) : TrimN σ i (k + 1) (v :: vs)
theorem TrimN.trim {σ : Nat → T} {i k : Nat} {vs : List T} (h : TrimN σ i k vs) : Trim σ i vs := by
  induction h with
  | nil => exact trivial
  | cons h _ ih => exact ⟨TLe.of_eq h, ih⟩

/-! ### A region -/
inductive RunL (P : Program) (ops : Array Oper) (n : Nat) : Nat → List Oper → List FP → (Nat → T) → Objs → (Nat → T) → Objs → Prop
  | nil {i : Nat} {σ : Nat → T} {objs : Objs} : RunL P ops n i [] [] σ objs σ objs
  | cons {i : Nat} {o : Oper} {os : List Oper} {fps : List FP} {σ σ' : Nat → T} {objs objs' : Objs} {pre post : List (Nat × GObj)} {v : T} (hn : DstLt n o) (hg : GuardT ops σ o true) (h : Tri P o σ pre v post)
      (hp : ∀ p ∈ pre, objs p.1 = some p.2) (ht : RunL P ops n (i + 1) os fps (updT σ o.dst v) (ovr objs post) σ' objs') : RunL P ops n i (o :: os) (⟨pre.map (·.1), post.map (·.1), false⟩ :: fps) σ objs σ' objs'
  | skip {i : Nat} {o : Oper} {os : List Oper} {fps : List FP} {σ σ' : Nat → T} {objs objs' : Objs} (hn : DstLt n o) (hg : GuardT ops σ o false)
      (ht : RunL P ops n (i + 1) os fps (updT σ o.dst (.tup [])) objs σ' objs') : RunL P ops n i (o :: os) (⟨[], [], false⟩ :: fps) σ objs σ' objs'
section
variable {P : Program} {ops : Array Oper} {n : Nat} {Γ : Cx} {σ σ' : Nat → T} {objs objs' : Objs} {Q : GPost}
def zipFrom : Nat → List FP → List (Nat × FP)
  | _, [] => []
  | i, f :: fs => (i, f) :: zipFrom (i + 1) fs
theorem RunL.run {i : Nat} {os : List Oper} {fps : List FP} (h : RunL P ops n i os fps σ objs σ' objs') (ho : ops.toList.drop i = os) : Run P ops n (zipFrom i fps) σ objs σ' objs' := by
  have key : ∀ (i : Nat) (o : Oper) (os : List Oper), ops.toList.drop i = o :: os → ops[i]? = some o ∧ ops.toList.drop (i + 1) = os := fun i o os h => by
    refine ⟨?_, ?_⟩
    · have := congrArg (·[0]?) h
      simpa using this
    · rw [← List.drop_drop, h]; rfl
  induction h with
  | nil => exact .nil
  | cons hn hg h hp ht ih => exact .cons (key _ _ _ ho).1 hn hg h hp (ih (key _ _ _ ho).2)
  | skip hn hg ht ih => exact .skip (key _ _ _ ho).1 hn hg (ih (key _ _ _ ho).2)
theorem RunL.len {i : Nat} {os : List Oper} {fps : List FP} (h : RunL P ops n i os fps σ objs σ' objs') : fps.length = os.length := by
  induction h with
  | nil => rfl
  | cons _ _ _ _ _ ih => simp [ih]
  | skip _ _ _ ih => simp [ih]
theorem zip_fst : ∀ (fps : List FP) (i : Nat), (zipFrom i fps).map (·.1) = List.range' i fps.length
  | [], _ => rfl
  | f :: fs, i => by rw [zipFrom, List.map_cons, zip_fst fs (i + 1), List.length_cons, List.range'_succ]
theorem AW.reg0 {rid : Nat} {l : List Oper} {fps : List FP} (h : RunL P l.toArray n 0 l fps σ objs σ' objs') (hq : Q .normal σ' objs') : AW P Γ n (.region rid l.toArray false) σ objs Q := fun a w hc =>
  wp_seq_region (h.run (by simp)) (by rw [zip_fst, h.len, List.range_eq_range']; simp) hc fun a' w' hc' => ⟨σ', objs', hq, hc'⟩
theorem AW.reg1 {rid : Nat} {l : List Oper} {fps : List FP} (hm : P.follows .mixedOrders = true) (h : RunL P l.toArray n 0 l fps σ objs σ' objs') (hB : orderB l.toArray (zipFrom 0 fps) = true) (hq : Q .normal σ' objs') : AW P Γ n (.region rid l.toArray true) σ objs Q := fun a w hc =>
  wp_any_region hm (h.run (by simp)) (by rw [zip_fst, h.len, List.range_eq_range']; simp) hB hc fun a' w' hc' => ⟨σ', objs', hq, hc'⟩
/-- The same, what follows handed on. -/
def RunK (P : Program) (ops : Array Oper) (n i : Nat) (os : List Oper) (σ : Nat → T) (objs : Objs) (K : List FP → (Nat → T) → Objs → Prop) : Prop := ∃ fps σ' objs', RunL P ops n i os fps σ objs σ' objs' ∧ K fps σ' objs'
theorem RunK.nil {i : Nat} {K : List FP → (Nat → T) → Objs → Prop} (h : K [] σ objs) : RunK P ops n i [] σ objs K := ⟨_, _, _, .nil, h⟩
theorem RunK.cons {i : Nat} {o : Oper} {os : List Oper} {pre post : List (Nat × GObj)} {v : T} {K : List FP → (Nat → T) → Objs → Prop} (h : Tri P o σ pre v post) (hn : DstLt n o) (hg : GuardT ops σ o true)
    (hp : ∀ p ∈ pre, objs p.1 = some p.2) (ht : RunK P ops n (i + 1) os (updT σ o.dst v) (ovr objs post) fun fps => K (⟨pre.map (·.1), post.map (·.1), false⟩ :: fps)) : RunK P ops n i (o :: os) σ objs K := by
  obtain ⟨fps, σ', objs', h1, h2⟩ := ht
  exact ⟨_, _, _, .cons hn hg h hp h1, h2⟩
theorem RunK.skip {i : Nat} {o : Oper} {os : List Oper} {K : List FP → (Nat → T) → Objs → Prop} (hg : GuardT ops σ o false) (hn : DstLt n o)
    (ht : RunK P ops n (i + 1) os (updT σ o.dst (.tup [])) objs fun fps => K (⟨[], [], false⟩ :: fps)) : RunK P ops n i (o :: os) σ objs K := by
  obtain ⟨fps, σ', objs', h1, h2⟩ := ht
  exact ⟨_, _, _, .skip hn hg h1, h2⟩
theorem AW.reg0k {rid : Nat} {l : List Oper} (h : RunK P l.toArray n 0 l σ objs fun _ σ' objs' => Q .normal σ' objs') : AW P Γ n (.region rid l.toArray false) σ objs Q := by
  obtain ⟨fps, σ', objs', h1, h2⟩ := h
  exact AW.reg0 h1 h2
theorem AW.reg1k {rid : Nat} {l : List Oper} (hm : P.follows .mixedOrders = true) (h : RunK P l.toArray n 0 l σ objs fun fps σ' objs' => orderB l.toArray (zipFrom 0 fps) = true ∧ Q .normal σ' objs') : AW P Γ n (.region rid l.toArray true) σ objs Q := by
  obtain ⟨fps, σ', objs', h1, h2, h3⟩ := h
  exact AW.reg1 hm h1 h2 h3
def TrimK (σ : Nat → T) (i k : Nat) (K : List T → Prop) : Prop := ∃ vs, TrimN σ i k vs ∧ K vs
theorem TrimK.nil {i : Nat} {K : List T → Prop} (h : K []) : TrimK σ i 0 K := ⟨_, .nil, h⟩
theorem TrimK.cons {i k : Nat} {v : T} {K : List T → Prop} (h : σ i = v) (ht : TrimK σ (i + 1) k fun vs => K (v :: vs)) : TrimK σ i (k + 1) K := by
  obtain ⟨vs, h1, h2⟩ := ht
  exact ⟨_, .cons h h1, h2⟩
theorem AW.trimk {c : Code} (k : Nat) (h : TrimK σ 0 k fun vs => AW P Γ n c (envL vs) objs Q) : AW P Γ n c σ objs Q := by
  obtain ⟨vs, h1, h2⟩ := h
  exact h2.weak h1.trim.all fun _ _ h => h
/-- The slots that are variables, as a list. -/
theorem AW.trim {c : Code} {vs : List T} (k : Nat) (h : TrimN σ 0 k vs) (hq : AW P Γ n c (envL vs) objs Q) : AW P Γ n c σ objs Q := hq.weak h.trim.all fun _ _ h => h
theorem AW.to {c : Code} (vs : List T) (h : Trim σ 0 vs) (hq : AW P Γ n c (envL vs) objs Q) : AW P Γ n c σ objs Q := hq.weak h.all fun _ _ h => h
theorem AW.tos {c : Code} (vs : List T) (L : List (Nat × GObj)) (h : Trim σ 0 vs) (ho : ∀ p ∈ L, objs p.1 = some p.2) (hq : AW P Γ n c (envL vs) (objL L) Q) : AW P Γ n c σ objs Q := hq.weak h.all (objL_sub ho)
theorem dlt {o : Oper} {d : Nat} (h : o.dst = some d) (hb : Nat.blt d n = true) : DstLt n o := fun e he => by rw [h] at he; cases he; exact Nat.le_of_ble_eq_true hb
theorem dno {o : Oper} (h : o.dst = none) : DstLt n o := fun e he => by rw [h] at he; cases he
theorem gno {o : Oper} (h : o.guard = none) : GuardT ops σ o true := by unfold GuardT; rw [h]
theorem gyes {o : Oper} {j t : Nat} {b : Bool} (h : o.guard = some (j, b)) (hj : (ops[j]?).bind (·.dst) = some t) (ht : σ t = .d (.v (.bool b))) : GuardT ops σ o true := by
  unfold GuardT; rw [h]; exact ⟨t, hj, .inl ⟨b, ht, by simp⟩⟩
theorem gskip {o : Oper} {j t : Nat} {b : Bool} (h : o.guard = some (j, b)) (hj : (ops[j]?).bind (·.dst) = some t) (ht : σ t = .d (.v (.bool (!b)))) : GuardT ops σ o false := by
  unfold GuardT; rw [h]; exact ⟨t, hj, .inl ⟨!b, ht, by cases b <;> rfl⟩⟩
theorem gnone {o : Oper} {j t : Nat} {b : Bool} (h : o.guard = some (j, b)) (hj : (ops[j]?).bind (·.dst) = some t) (ht : σ t = .tup []) : GuardT ops σ o false := by
  unfold GuardT; rw [h]; exact ⟨t, hj, .inr ⟨ht, rfl⟩⟩
theorem pnil {objs : Objs} : ∀ p ∈ ([] : List (Nat × GObj)), objs p.1 = some p.2 := fun p h => by cases h
theorem pone {objs : Objs} {id : Nat} {ob : GObj} (h : objs id = some ob) : ∀ p ∈ [(id, ob)], objs p.1 = some p.2 := fun p hp => by
  obtain rfl := List.mem_singleton.1 hp; exact h

theorem ptwo {objs : Objs} {i j : Nat} {a b : GObj} (h : objs i = some a) (h' : objs j = some b) : ∀ p ∈ [(i, a), (j, b)], objs p.1 = some p.2 := fun p hp => by
  rcases List.mem_cons.1 hp with rfl | hp
  · exact h
  · obtain rfl := List.mem_singleton.1 hp; exact h'

/-! ### Contracts -/
/-- f, of arguments that read so, answers what reads as res; of what was there nothing turns. -/
def FnD (P : Program) (f : FuncId) (args : List T) (res : T) : Prop := ∀ (w : World) (g : Gh) (vs : List Value), TabsIn w → (∀ b o x, g.S b o = some x → w.cell? ⟨b, o, none⟩ = some x) → Reps g args vs →
  Calls P f vs.toArray w fun e w' => ∃ v S', e = .returned v ∧ SLe g.S S' ∧ (∀ b o, b < w.heap.size → ¬ TabB w b → S' b o = g.S b o) ∧ (∀ b o x, S' b o = some x → w'.cell? ⟨b, o, none⟩ = some x) ∧ RepT ⟨S', g.blk, g.row, g.len⟩ res v ∧ Below w.heap.size w w'
theorem WI.ntab {g : Gh} {w : World} {i b : Nat} {ob : GObj} (hw : WI Γ g objs w) (ho : objs i = some ob) (hb : ob.blk g i b) : ¬ TabB w b := fun ht => by
  obtain ⟨h1, h2⟩ := hw.fr.tabB ht
  rcases (hw.obj i ob ho).mine hb with h | h
  · omega
  · exact Γ.tabX b h1 h
theorem below_obj {g : Gh} {S' : Sm} {w w' : World} {id : Nat} {ob : GObj} (h : ObjAt Γ g w id ob) (hS : SLe g.S S') (ho : ∀ b o, b < w.heap.size → ¬ TabB w b → S' b o = g.S b o) (hn : ∀ b, ob.blk g id b → ¬ TabB w b) (hb : Below w.heap.size w w') : ObjAt Γ ⟨S', g.blk, g.row, g.len⟩ w' id ob := by
  have hle : GLe (fun _ => True) g ⟨S', g.blk, g.row, g.len⟩ := ⟨hS, fun _ _ _ => rfl, fun _ _ => Nat.le_refl _, fun _ _ _ => rfl⟩
  exact h.same hle rfl rfl rfl (fun _ _ => trivial) fun b hbk => ⟨hb.block _ (h.blk_lt hbk), fun o => ho b o (h.blk_lt hbk) (hn b hbk)⟩
theorem WI.call {g : Gh} {S' : Sm} {w w' : World} (h : WI Γ g objs w) (hS : SLe g.S S') (ho : ∀ b o, b < w.heap.size → ¬ TabB w b → S' b o = g.S b o) (hi : ∀ b o x, S' b o = some x → w'.cell? ⟨b, o, none⟩ = some x) (hb : Below w.heap.size w w') : WI Γ ⟨S', g.blk, g.row, g.len⟩ objs w' := by
  refine ⟨hi, fun id ob h1 => below_obj (h.obj id ob h1) hS ho (fun b q => h.ntab h1 q) hb, fun i j oi oj b h1 h2 h3 h4 => h.apart i j oi oj b h1 h2 ?_ ?_, h.fr.trans hb, fun b o hb' hx hnt => (ho b o (Nat.lt_of_lt_of_le hb' h.fr.size) fun q => hnt (h.fr.tabB q).1).trans (h.old b o hb' hx hnt), h.ext.trans ⟨hS, fun _ _ _ => rfl, fun _ _ => Nat.le_refl _, fun _ _ _ => rfl⟩⟩
  · rw [← blk_same (g := g) (g' := ⟨S', g.blk, g.row, g.len⟩) rfl rfl oi]; exact h3
  · rw [← blk_same (g := g) (g' := ⟨S', g.blk, g.row, g.len⟩) rfl rfl oj]; exact h4
inductive TLes (σ : Nat → T) : List Operand → List T → Prop
  | nil : TLes σ [] []
  | cons {x : Operand} {t : T} {xs : List Operand} {ts : List T} (h : TLe (opT σ x) t) (ht : TLes σ xs ts) : TLes σ (x :: xs) (t :: ts)
theorem reps_of {g : Gh} {a : Act} : ∀ {xs : List Operand} {args : List T}, (∀ x ∈ xs, RepT g (opT σ x) (a.eval x)) → TLes σ xs args → Reps g args (xs.map a.eval)
  | [], _, _, .nil => .nil
  | x :: xs, _, h, .cons h1 ht => .cons (h1 g _ (h x (by simp))) (reps_of (fun y hy => h y (by simp [hy])) ht)
theorem t_call {o : Oper} {f : FuncId} {xs : List Operand} {ts : Array TypeId} {args : List T} {res : T} (ho : o.op = .call { callee := .value (.func f), args := xs.toArray, argTypes := ts })
    (hE : ∀ args w, (callFunc f args).run P w = .ok (.enter f args) w) (hx : TLes σ xs args) (hF : FnD P f args res) : Tri P o σ [] res [] := by
  intro Γ g objs a w Q hr _ hw
  have hreps := reps_of (a := a) (g := g) (fun x hx => rep_op hr (by rw [ho]; simp [Op.operands, Call.operands, hx])) hx
  unfold Oper.wp
  have hrun : (execOp a.eval o).run P w = .ok (.enter f (xs.map a.eval).toArray) w := by
    unfold execOp; rw [ho]
    simp [resolve, Deferred.ofValue, Act.eval, invoke, hE]
  rw [hrun]
  refine (hF w g _ hw.fr.tabs hw.imm hreps).mono ?_
  rintro e w' ⟨v, S', rfl, h1, h2, h3, h4, h5⟩
  exact ⟨⟨S', g.blk, g.row, g.len⟩, v, rfl, ⟨h1, fun _ _ _ => rfl, fun _ _ => Nat.le_refl _, fun _ _ _ => rfl⟩, h4, hw.call h1 h2 h3 h5⟩
theorem t_callf {o : Oper} {f : FuncId} {xs : List Operand} {ts : Array TypeId} {args : List T} {res : T} (ho : o.op = .call { callee := .value (.func f), args := xs.toArray, argTypes := ts })
    (hE : ∀ args w, (callFunc f args).run P w = .ok (.enter f args) w) (hF : FnD P f args res) (hx : TLes σ xs args) : Tri P o σ [] res [] := t_call ho hE hx hF
/-- A function by its body. -/
theorem FnD.of_AW {f : FuncId} {fn : Func} {c : Code} {args : List T} {res : T} {r : Tmp} (hf : P.funcs[f]? = some fn) (hb : fn.body = some c) (hr : fn.results = #[.tmp r]) (hN : fn.ntmps = n) (hk : args.length ≤ n) (hid : ∀ id, res.has id = false)
    (h : ∀ Γ : Cx, (∀ i, i < 1000 → ¬ Γ.A i) → AW P Γ n c (envL args) (objL []) fun e σ' _ => (e = .ret ∨ e = .normal) ∧ TLe (σ' r) res) : FnD P f args res := by
  intro w g vs htab hi hreps
  have hlen : ∀ {l : List T} {xs : List Value}, Reps g l xs → xs.length = l.length := fun {l} => by
    induction l with
    | nil => intro xs h; cases h; rfl
    | cons t l ih => intro xs h; cases h with | cons h1 ht => simp [ih ht]
  have hl := hlen hreps
  refine calls_of_wp hf hb (wp_mono (h ⟨fun _ => False, w, g, fun _ => False, htab, fun _ _ => id, []⟩ (fun _ _ => id) _ w ⟨rfl, ?_, g, fun t => ?_, ⟨hi, fun id ob h => ?_, fun i j oi oj b h => ?_, Fr.refl _, fun _ _ _ _ _ => rfl, GLe.refl _ _⟩⟩) ?_)
  · simp [hN, hl]; omega
  · show RepT g (args.getD t .und) _
    by_cases ht : t < args.length
    · obtain ⟨v, hv, hrv⟩ := reps_at hreps (i := t) (t := args[t]) (List.getElem?_eq_getElem ht)
      rw [List.getD_eq_getElem?_getD, List.getElem?_eq_getElem ht, Array.getD_eq_getD_getElem?, Array.getElem?_append_left (by simp [hl]; exact ht)]
      simpa [hv] using hrv
    · rw [List.getD_eq_getElem?_getD, List.getElem?_eq_none (by omega)]
      exact .und
  · cases h
  · cases h
  · rintro e a' w' ⟨σ', objs', ⟨he, hres⟩, hd, hs, g', hr', hw'⟩
    have key : a'.defers = [] ∧ ∃ v, (results fn a'.tmps).run P w' = .ok v w' ∧ ∃ v' S', Ending.returned v = .returned v' ∧ SLe g.S S' ∧ (∀ b o, b < w.heap.size → ¬ TabB w b → S' b o = g.S b o) ∧ (∀ b o x, S' b o = some x → w'.cell? ⟨b, o, none⟩ = some x) ∧ RepT ⟨S', g.blk, g.row, g.len⟩ res v' ∧ Below w.heap.size w w' := by
      refine ⟨hd, _, results_tmp hr _ _ _, _, g'.S, rfl, hw'.ext.S, fun b o hb => hw'.old b o hb id, hw'.imm, ?_, hw'.fr.below fun _ => id⟩
      have hrr := hres g' _ (hr' r)
      exact hrr.mono (A := fun _ => False) (g := g') (g' := ⟨g'.S, g.blk, g.row, g.len⟩) ⟨SLe.refl _, fun _ h => h.elim, fun _ h => h.elim, fun _ h => h.elim⟩ fun id h => by rw [hid id] at h; cases h
    rcases he with rfl | rfl
    · exact key
    · exact key
end
end Go.Proofs.YtngklbnodknadaaGreatDoor
end

section
namespace Go.Proofs.YtngklbnodknadaaGreatDoor
open Go.RowKit

section
variable {P : Program} (w : World)
theorem run_append_sep (base : Nat) (t ty e : TypeId) (i : TypeInfo) (z : Value) (size bytes : Nat) (ht : P.underlying t = some (.slice e)) (hi : P.info? e = some i) (hz : i.zero = some z)
    (hsize : i.size = size) (hby : i.bytes = bytes) (hzs : z.cells.size = size) (hsz : 0 < size)
    (v : Value) (n : Nat) (xs : List Value) (hown : w.ownsRow base e size v n xs)
    (a : Addr) (m c : Nat) (news : List Value) (hl : news.length = m * size) (hnews : ∀ j u, news[j]? = some u → w.cell? (a.add j) = some u) (h1 : ∀ u ∈ news, u.oneCell' = true)
    (hn : n + m ≤ 10000000) (hb : bytes ≤ 1000) (hbase : base ≤ w.heap.size) :
    ∃ v' w', (Builtin.append_ #[t, t] ty #[v, .slice (some a) m c]).run P w = .ok v' w' ∧ w'.ownsRow base e size v' (n + m) (xs ++ news) ∧ w.grownBy w' v.ownBlock ∧ (v'.ownBlock = v.ownBlock ∨ v'.ownBlock = some w.heap.size) := by
  have hbytes : (n + m) * bytes ≤ 140737488355328 := Nat.le_trans (Nat.mul_le_mul hn hb) (by decide)
  obtain ⟨v', w', hr, h2, h3, h4⟩ := run_append_own (P := P) w base t ty e i z size bytes ht hi hz hsize hby hzs hsz v n xs hown a m c news hl hnews h1 (by unfold maxLen; omega) hbytes hbase
  refine ⟨v', w', hr, h2, h3, ?_⟩
  subst hsize hby
  rcases hown.2 with ⟨rfl, rfl⟩ | ⟨g, cap, cur, rfl, hbg, hg, hnc, hcm, hcs, htake⟩
  · by_cases hm : m = 0
    · rw [h4.2 ⟨rfl, hm⟩]; exact .inl rfl
    · have hr2 := run_append_nil (P := P) w t ty e i z ht hi hz a m c news hl hnews (by omega) (by omega) (by rw [Nat.zero_add] at hbytes; omega)
      rw [hr] at hr2
      simp only [Result.ok.injEq] at hr2
      exact .inr (by rw [hr2.1]; rfl)
  · by_cases hroom : n + m ≤ cap
    · have hfit : n * i.size + news.length ≤ cur.size := by rw [hl, hcs, ← Nat.add_mul]; exact Nat.mul_le_mul_right _ hroom
      have hr2 := run_append_room (P := P) w t ty e i ht hi g n cap cur hg a m c news hl hnews h1 hroom hfit
      rw [hr] at hr2
      simp only [Result.ok.injEq] at hr2
      exact .inl (by rw [hr2.1]; rfl)
    · have hr2 := run_append_grow (P := P) w t ty e i z ht hi hz ⟨g, 0, none⟩ n cap xs hown.1 (hown.cells (g := g) rfl) a m c news hl hnews (by omega) (by omega) (growslice_fits_wide (by omega) (Nat.le_trans (Nat.mul_le_mul (show n + m + (n + m) / 4 + 192 ≤ 12500192 by omega) hb) (by decide)))
      rw [hr] at hr2
      simp only [Result.ok.injEq] at hr2
      exact .inr (by rw [hr2.1]; rfl)
theorem wp_append_sep {o : Oper} {a : Act} {K : Act → World → Prop} {Q : Exit → Act → World → Prop} (s x : Operand) (t : TypeId)
    (ho : o.op = .call { callee := .builtin .append, args := #[s, x], argTypes := #[t, t] })
    (base : Nat) (e : TypeId) (i : TypeInfo) (z : Value) (size bytes : Nat) (ht : P.underlying t = some (.slice e)) (hi : P.info? e = some i) (hz : i.zero = some z)
    (hsize : i.size = size) (hby : i.bytes = bytes) (hzs : z.cells.size = size) (hsz : 0 < size)
    (v : Value) (n : Nat) (xs : List Value) (hs : a.eval s = v) (hown : w.ownsRow base e size v n xs)
    (ad : Addr) (m c : Nat) (news : List Value) (hx : a.eval x = .slice (some ad) m c) (hl : news.length = m * size) (hnews : ∀ j u, news[j]? = some u → w.cell? (ad.add j) = some u) (h1 : ∀ u ∈ news, u.oneCell' = true)
    (hn : n + m ≤ 10000000) (hb : bytes ≤ 1000) (hbase : base ≤ w.heap.size)
    (h : ∀ p' c' w', w'.ownsRow base e size (.slice p' (n + m) c') (n + m) (xs ++ news) → w.grownBy w' v.ownBlock → ((Value.slice p' (n + m) c').ownBlock = v.ownBlock ∨ (Value.slice p' (n + m) c').ownBlock = some w.heap.size) → K (a.put o.dst (.slice p' (n + m) c')) w') : o.wp P a w K Q := by
  obtain ⟨v', w', hr, h2, h3, h4⟩ := run_append_sep (P := P) w base t o.type e i z size bytes ht hi hz hsize hby hzs hsz v n xs hown ad m c news hl hnews h1 hn hb hbase
  obtain ⟨p', c', rfl, -, -⟩ := own_slice h2
  unfold Oper.wp execOp
  simp only [ho, resolve, invoke, builtin, Sem.run_bind, Sem.run_pure, Result.andThen_ok, List.map_toArray, List.map_cons, List.map_nil, hs, hx, hr]
  exact h p' c' w' h2 h3 h4
theorem wpList_append_sep {ops : Array Oper} {rest : List Oper} {o : Oper} {a : Act} {Q : Exit → Act → World → Prop} (hgd : o.guard = none) (s x : Operand) (t : TypeId)
    (ho : o.op = .call { callee := .builtin .append, args := #[s, x], argTypes := #[t, t] })
    (base : Nat) (e : TypeId) (i : TypeInfo) (z : Value) (size bytes : Nat) (ht : P.underlying t = some (.slice e)) (hi : P.info? e = some i) (hz : i.zero = some z)
    (hsize : i.size = size) (hby : i.bytes = bytes) (hzs : z.cells.size = size) (hsz : 0 < size)
    (v : Value) (n : Nat) (xs : List Value) (hs : a.eval s = v) (hown : w.ownsRow base e size v n xs)
    (ad : Addr) (m c : Nat) (news : List Value) (hx : a.eval x = .slice (some ad) m c) (hl : news.length = m * size) (hnews : ∀ j u, news[j]? = some u → w.cell? (ad.add j) = some u) (h1 : ∀ u ∈ news, u.oneCell' = true)
    (hn : n + m ≤ 10000000) (hb : bytes ≤ 1000) (hbase : base ≤ w.heap.size)
    (h : ∀ p' c' w', w'.ownsRow base e size (.slice p' (n + m) c') (n + m) (xs ++ news) → w.grownBy w' v.ownBlock → ((Value.slice p' (n + m) c').ownBlock = v.ownBlock ∨ (Value.slice p' (n + m) c').ownBlock = some w.heap.size) → wpList P ops Q rest (a.put o.dst (.slice p' (n + m) c')) w') : wpList P ops Q (o :: rest) a w :=
  wpList_plain hgd fun _ hK => wp_append_sep w s x t ho base e i z size bytes ht hi hz hsize hby hzs hsz v n xs hs hown ad m c news hx hl hnews h1 hn hb hbase fun p' c' w' h2 h3 h4 => hK _ _ (h p' c' w' h2 h3 h4)
end
end Go.Proofs.YtngklbnodknadaaGreatDoor
end

section
namespace Go.Proofs.YtngklbnodknadaaGreatDoor
open Go.RowKit

section
variable {P : Program} (w : World)
theorem run_append_keep (base : Nat) (t ty e : TypeId) (i : TypeInfo) (z : Value) (size bytes : Nat) (ht : P.underlying t = some (.slice e)) (hi : P.info? e = some i) (hz : i.zero = some z)
    (hsize : i.size = size) (hby : i.bytes = bytes) (hzs : z.cells.size = size) (hsz : 0 < size)
    (v : Value) (n : Nat) (xs : List Value) (hown : w.ownsRow base e size v n xs)
    (a : Addr) (m c : Nat) (news : List Value) (hl : news.length = m * size) (hnews : ∀ j u, news[j]? = some u → w.cell? (a.add j) = some u) (h1 : ∀ u ∈ news, u.oneCell' = true)
    (hn : n + m ≤ 10000000) (hb : bytes ≤ 1000) (hbase : base ≤ w.heap.size) :
    ∃ v' w', (Builtin.append_ #[t, t] ty #[v, .slice (some a) m c]).run P w = .ok v' w' ∧ w'.ownsRow base e size v' (n + m) (xs ++ news) ∧ w.grownBy w' v.ownBlock ∧ w'.ownsRow base e size v n xs := by
  have hbytes : (n + m) * bytes ≤ 140737488355328 := Nat.le_trans (Nat.mul_le_mul hn hb) (by decide)
  obtain ⟨v', w', hr, h2, h3, h4⟩ := run_append_own (P := P) w base t ty e i z size bytes ht hi hz hsize hby hzs hsz v n xs hown a m c news hl hnews h1 (by unfold maxLen; omega) hbytes hbase
  refine ⟨v', w', hr, h2, h3, ?_⟩
  subst hsize hby
  rcases hown.2 with ⟨rfl, rfl⟩ | ⟨g, cap, cur, rfl, hbg, hg, hnc, hcm, hcs, htake⟩
  · have hx : xs = [] := List.eq_nil_of_length_eq_zero (by rw [hown.1]; simp)
    subst hx
    exact World.ownsRow_nil _ _ _ _
  · by_cases hroom : n + m ≤ cap
    · have hfit : n * i.size + news.length ≤ cur.size := by rw [hl, hcs, ← Nat.add_mul]; exact Nat.mul_le_mul_right _ hroom
      have hr2 := run_append_room (P := P) w t ty e i ht hi g n cap cur hg a m c news hl hnews h1 hroom hfit
      rw [hr] at hr2
      simp only [Result.ok.injEq] at hr2
      have h5 := h2
      rw [hr2.1] at h5
      refine ⟨hown.1, ?_⟩
      rcases h5.2 with ⟨hv, e0⟩ | ⟨g', cap', cur', hv, hb', hg', hnc', hm', hs', ht'⟩
      · cases hv
      · cases hv
        refine .inr ⟨g, cap, cur', rfl, hb', hg', hnc, hm', hs', ?_⟩
        have h6 : (cur'.toList.take ((n + m) * i.size)).take (n * i.size) = xs := by
          rw [ht', List.take_append_of_le_length (by rw [hown.1]; exact Nat.le_refl _), List.take_of_length_le (by rw [hown.1]; exact Nat.le_refl _)]
        rw [← h6, List.take_take, Nat.min_eq_left (Nat.mul_le_mul_right _ (Nat.le_add_right _ _))]
    · have hr2 := run_append_grow (P := P) w t ty e i z ht hi hz ⟨g, 0, none⟩ n cap xs hown.1 (hown.cells (g := g) rfl) a m c news hl hnews (by omega) (by omega) (growslice_fits_wide (by omega) (Nat.le_trans (Nat.mul_le_mul (show n + m + (n + m) / 4 + 192 ≤ 12500192 by omega) hb) (by decide)))
      rw [hr] at hr2
      simp only [Result.ok.injEq] at hr2
      rw [hr2.2]
      exact own_below (own_below hown (Below.refl _ _).drew) ((Below.refl _ _).alloc (Nat.le_refl _) _)
theorem wp_append_keep {o : Oper} {a : Act} {K : Act → World → Prop} {Q : Exit → Act → World → Prop} (s x : Operand) (t : TypeId)
    (ho : o.op = .call { callee := .builtin .append, args := #[s, x], argTypes := #[t, t] })
    (base : Nat) (e : TypeId) (i : TypeInfo) (z : Value) (size bytes : Nat) (ht : P.underlying t = some (.slice e)) (hi : P.info? e = some i) (hz : i.zero = some z)
    (hsize : i.size = size) (hby : i.bytes = bytes) (hzs : z.cells.size = size) (hsz : 0 < size)
    (v : Value) (n : Nat) (xs : List Value) (hs : a.eval s = v) (hown : w.ownsRow base e size v n xs)
    (ad : Addr) (m c : Nat) (news : List Value) (hx : a.eval x = .slice (some ad) m c) (hl : news.length = m * size) (hnews : ∀ j u, news[j]? = some u → w.cell? (ad.add j) = some u) (h1 : ∀ u ∈ news, u.oneCell' = true)
    (hn : n + m ≤ 10000000) (hb : bytes ≤ 1000) (hbase : base ≤ w.heap.size)
    (h : ∀ p' c' w', w'.ownsRow base e size (.slice p' (n + m) c') (n + m) (xs ++ news) → w.grownBy w' v.ownBlock → w'.ownsRow base e size v n xs → K (a.put o.dst (.slice p' (n + m) c')) w') : o.wp P a w K Q := by
  obtain ⟨v', w', hr, h2, h3, h4⟩ := run_append_keep (P := P) w base t o.type e i z size bytes ht hi hz hsize hby hzs hsz v n xs hown ad m c news hl hnews h1 hn hb hbase
  obtain ⟨p', c', rfl, -, -⟩ := own_slice h2
  unfold Oper.wp execOp
  simp only [ho, resolve, invoke, builtin, Sem.run_bind, Sem.run_pure, Result.andThen_ok, List.map_toArray, List.map_cons, List.map_nil, hs, hx, hr]
  exact h p' c' w' h2 h3 h4
theorem wpList_append_keep {ops : Array Oper} {rest : List Oper} {o : Oper} {a : Act} {Q : Exit → Act → World → Prop} (hgd : o.guard = none) (s x : Operand) (t : TypeId)
    (ho : o.op = .call { callee := .builtin .append, args := #[s, x], argTypes := #[t, t] })
    (base : Nat) (e : TypeId) (i : TypeInfo) (z : Value) (size bytes : Nat) (ht : P.underlying t = some (.slice e)) (hi : P.info? e = some i) (hz : i.zero = some z)
    (hsize : i.size = size) (hby : i.bytes = bytes) (hzs : z.cells.size = size) (hsz : 0 < size)
    (v : Value) (n : Nat) (xs : List Value) (hs : a.eval s = v) (hown : w.ownsRow base e size v n xs)
    (ad : Addr) (m c : Nat) (news : List Value) (hx : a.eval x = .slice (some ad) m c) (hl : news.length = m * size) (hnews : ∀ j u, news[j]? = some u → w.cell? (ad.add j) = some u) (h1 : ∀ u ∈ news, u.oneCell' = true)
    (hn : n + m ≤ 10000000) (hb : bytes ≤ 1000) (hbase : base ≤ w.heap.size)
    (h : ∀ p' c' w', w'.ownsRow base e size (.slice p' (n + m) c') (n + m) (xs ++ news) → w.grownBy w' v.ownBlock → w'.ownsRow base e size v n xs → wpList P ops Q rest (a.put o.dst (.slice p' (n + m) c')) w') : wpList P ops Q (o :: rest) a w :=
  wpList_plain hgd fun _ hK => wp_append_keep w s x t ho base e i z size bytes ht hi hz hsize hby hzs hsz v n xs hs hown ad m c news hx hl hnews h1 hn hb hbase fun p' c' w' h2 h3 h4 => hK _ _ (h p' c' w' h2 h3 h4)
end
end Go.Proofs.YtngklbnodknadaaGreatDoor
end
