/-
  Ghost values: code reckoned: what a row of operations, and what code, ask for.
-/
import Derived.Test.YtenlhfmchhljdaaDoorGq
import Derived.Test.YtenlhfmchhljdaaDoorGu
namespace Go.Proofs.YtenlhfmchhljdaaDoor
open Go.RowKit

/-! ### Slots and objects as lists -/
noncomputable def lk {α : Type} (l : List (Nat × α)) (i : Nat) : Option α := List.rec (motive := fun _ => Option α) none (fun p _ ih => bif Nat.beq i p.1 then some p.2 else ih) l
theorem lk_cons {α : Type} (p : Nat × α) (l : List (Nat × α)) (i : Nat) : lk (p :: l) i = bif Nat.beq i p.1 then some p.2 else lk l i := rfl
abbrev En := List (Nat × T)
abbrev Ob := List (Nat × GObj)
noncomputable def sl (E : En) (t : Nat) : T := match lk E t with | some v => v | none => .und
noncomputable def obE (L : Ob) : Objs := fun i => lk L i
def up (E : En) (d : Option Tmp) (v : T) : En := match d with | some d => (d, v) :: E | none => E
theorem sl_up (E : En) (d : Option Tmp) (v : T) : sl (up E d v) = updT (sl E) d v := by
  cases d with
  | none => rfl
  | some d =>
    funext t
    show (match lk ((d, v) :: E) t with | some v => v | none => .und) = _
    rw [lk_cons]
    simp only [updT]
    cases Nat.beq t d <;> rfl
theorem lk_app {α : Type} : ∀ (l m : List (Nat × α)) (i : Nat), lk (l ++ m) i = match lk l i with | some x => some x | none => lk m i
  | [], _, _ => rfl
  | p :: l, m, i => by
    rw [List.cons_append, lk_cons, lk_cons]
    cases Nat.beq i p.1 with
    | true => rfl
    | false => exact lk_app l m i
theorem lk_lookup {α : Type} : ∀ (l : List (Nat × α)) (i : Nat), l.lookup i = lk l i
  | [], _ => rfl
  | p :: l, i => by
    rw [List.lookup_cons, lk_cons]
    by_cases h : i = p.1
    · subst h; simp
    · have h1 : (i == p.1) = false := by simpa using h
      have h2 : Nat.beq i p.1 = false := by cases e : Nat.beq i p.1 with | false => rfl | true => exact absurd (Nat.eq_of_beq_eq_true e) h
      rw [h1, h2]; exact lk_lookup l i
theorem obE_app (post L : Ob) : obE (post ++ L) = ovr (obE L) post := by
  funext i
  unfold obE ovr
  rw [lk_app, lk_lookup]
  cases lk post i <;> rfl
theorem obE_obj (L : Ob) : obE L = objL L := by
  funext i
  unfold obE objL
  rw [lk_lookup]
theorem lk_mem {α : Type} : ∀ {l : List (Nat × α)} {i : Nat} {x : α}, lk l i = some x → (i, x) ∈ l
  | p :: l, i, x, h => by
    rw [lk_cons] at h
    cases e : Nat.beq i p.1 with
    | true => rw [e] at h; cases h; rw [Nat.eq_of_beq_eq_true e]; exact List.mem_cons_self
    | false => rw [e] at h; exact List.mem_cons_of_mem _ (lk_mem h)

/-! ### Facts on types -/
inductive UK where
  | i (k : IntKind)
  | s
  | b
  | x
structure Fax where
  el : List (Nat × Nat × Nat)
  ro : List (Nat × Nat × Nat × Nat)
  ag : List (Nat × Bool × Nat)
  fo : List (Nat × List (Nat × Nat))
  un : List (Nat × UK)
  ze : List (Nat × List Value × List D)
  pl : List (Nat × List (Nat × Nat))
  ar : List (Nat × Nat × Nat)
  mks : List (Nat × Nat × Value)
  mt : List (Nat × Nat × TypeDesc × Nat × Value)
def DLe (d d' : D) : Prop := ∀ (S : Sm) (x : Value), RepD S d x → RepD S d' x
theorem DLe.refl (d : D) : DLe d d := fun _ _ h => h
theorem DLe.nil {k : Nat} : DLe (.v (.slice none 0 0)) (.sl k []) := fun S x h => by cases h with | v h => exact .sl .nil (RowS.nil _ _) (Nat.le_refl _) (Nat.zero_le _) fun _ => rfl
theorem DLe.t {d d' : D} (h : DLe d d') : TLe (.d d) (.d d') := fun _ _ e => by cases e with | d e => exact .d (h _ _ e)
inductive DLes : List D → List D → Prop
  | nil : DLes [] []
  | cons {d d' : D} {l l' : List D} (h : DLe d d') (ht : DLes l l') : DLes (d :: l) (d' :: l')
theorem DLes.reps {S : Sm} : ∀ {l l' : List D} {xs : List Value}, DLes l l' → RepDs S l xs → RepDs S l' xs
  | _, _, _, .nil, .nil => .nil
  | _, _, _, .cons h ht, .cons h1 h2 h3 => .cons (h _ _ h1) h2 (ht.reps h3)
theorem DLe.agg {l l' : List D} (h : DLes l l') : DLe (.agg l) (.agg l') := fun _ _ e => by cases e with | agg e => exact .agg (h.reps e)
/-- An array's length, and how many cells an element has. -/
def arrOf? (P : Program) (t : TypeId) : Option (Nat × Nat) := match P.underlying t with
  | some (.array n e) => (P.info? e).map fun i => (n, i.size)
  | _ => none
structure FaxOK (P : Program) (F : Fax) : Prop where
  el : ∀ t e k, lk F.el t = some (e, k) → elemOf? P t = some (e, k)
  ro : ∀ t e k b, lk F.ro t = some (e, k, b) → rowT? P t = some (e, k, b)
  ag : ∀ t b k, lk F.ag t = some (b, k) → aggOf? P t = some (b, k)
  fo : ∀ t l f o, lk F.fo t = some l → lk l f = some o → fieldOff? P t f = some o
  ui : ∀ t k, lk F.un t = some (.i k) → P.underlying t = some (.int k)
  us : ∀ t, lk F.un t = some .s → P.underlying t = some .string
  ub : ∀ t, lk F.un t = some .b → P.underlying t = some .bool
  ze : ∀ t zs ds, lk F.ze t = some (zs, ds) → zeroOf? P t = some zs ∧ DLes (zs.map .v) ds
  pl : ∀ t l, lk F.pl t = some l → PlacesOK P t l
  ar : ∀ t n k, lk F.ar t = some (n, k) → arrOf? P t = some (n, k)
  mks : ∀ t e z, lk F.mks t = some (e, z) → mkT? P t = some (e, z)
  mt : ∀ t x, lk F.mt t = some x → mapZ? P t = some x
  mx : P.follows .mixedOrders = true

def AllL {α : Type} (p : Nat → α → Prop) : List (Nat × α) → Prop
  | [] => True
  | q :: l => p q.1 q.2 ∧ AllL p l
theorem lk_all {α : Type} {p : Nat → α → Prop} : ∀ {l : List (Nat × α)}, AllL p l → ∀ {t : Nat} {x : α}, lk l t = some x → p t x
  | [], _, t, x, h => by cases h
  | q :: l, h, t, x, e => by
    rw [lk_cons] at e
    cases e1 : Nat.beq t q.1 with
    | true => rw [e1] at e; cases e; rw [Nat.eq_of_beq_eq_true e1]; exact h.1
    | false => rw [e1] at e; exact lk_all h.2 e
def unOK (P : Program) (t : Nat) : UK → Prop
  | .i k => P.underlying t = some (.int k)
  | .s => P.underlying t = some .string
  | .b => P.underlying t = some .bool
  | .x => True
theorem FaxOK.mk' {P : Program} {F : Fax} (el : AllL (fun t x => elemOf? P t = some x) F.el) (ro : AllL (fun t x => rowT? P t = some x) F.ro) (ag : AllL (fun t x => aggOf? P t = some x) F.ag) (fo : AllL (fun t l => AllL (fun f o => fieldOff? P t f = some o) l) F.fo) (un : AllL (unOK P) F.un)
    (ze : AllL (fun t (x : List Value × List D) => zeroOf? P t = some x.1 ∧ DLes (x.1.map .v) x.2) F.ze) (pl : AllL (fun t l => PlacesOK P t l) F.pl) (ar : AllL (fun t x => arrOf? P t = some x) F.ar) (mk : AllL (fun t x => mkT? P t = some x) F.mks) (mt : AllL (fun t x => mapZ? P t = some x) F.mt) (mx : P.follows .mixedOrders = true) : FaxOK P F :=
  ⟨fun _ _ _ h => lk_all el h, fun _ _ _ _ h => lk_all ro h, fun _ _ _ h => lk_all ag h, fun _ _ _ _ h h' => lk_all (lk_all fo h) h', fun _ _ h => lk_all un h, fun _ h => lk_all un h, fun _ h => lk_all un h, fun _ _ _ h => lk_all ze h, fun _ _ h => lk_all pl h, fun _ _ _ h => lk_all ar h, fun _ _ _ h => lk_all mk h, fun _ _ h => lk_all mt h, mx⟩

/-! ### More operations -/
section
variable {P : Program} {o : Oper} {σ : Nat → T} {Γ : Cx} {n : Nat} {objs : Objs} {Q : GPost}
theorem Tri.le {pre post : List (Nat × GObj)} {v v' : T} (h : Tri P o σ pre v post) (hv : TLe v v') : Tri P o σ pre v' post := fun Γ g objs a w Q h1 h2 h3 =>
  Oper.wp_mono (fun _ _ ⟨g', x, e, k1, k2, k3⟩ => ⟨g', x, e, k1, hv _ _ k2, k3⟩) (h Γ g objs a w Q h1 h2 h3)
theorem t_nil {x : Operand} {v : T} (ho : o.op = .nilCheck x) (hx : opT σ x = v) (hv : (∃ i off, v = .ref i off) ∨ ∃ ds, v = .pi ds) : Tri P o σ [] v [] :=
  .val fun _ g _ a w hr _ _ => by
    have e := hr x (by rw [ho]; simp [Op.operands])
    rw [hx] at e
    have h2 : ∃ p, a.eval x = .pointer (some p) := by
      rcases hv with ⟨i, off, rfl⟩ | ⟨ds, rfl⟩
      · generalize a.eval x = y at e ⊢
        cases e; exact ⟨_, rfl⟩
      · generalize a.eval x = y at e ⊢
        cases e; exact ⟨_, rfl⟩
    obtain ⟨p, hp⟩ := h2
    exact ⟨a.eval x, by unfold execOp; rw [ho]; simp [hp], e⟩
theorem arr_spec {t : TypeId} {n k : Nat} (h : arrOf? P t = some (n, k)) : ∃ e i, P.underlying t = some (.array n e) ∧ P.info? e = some i ∧ i.size = k := by
  unfold arrOf? at h
  split at h
  · next n' e he =>
    cases hi : P.info? e with
    | none => rw [hi] at h; cases h
    | some i => rw [hi] at h; cases h; exact ⟨e, i, he, hi, rfl⟩
  · cases h
theorem t_index_aref {t : TypeId} {x i : Operand} {m k id off j : Nat} {kd : IntKind} (ho : o.op = .indexAddr t x i) (ht : arrOf? P t = some (m, k)) (hx : opT σ x = .ref id off) (hi : opT σ i = .d (.v (.int kd j))) (hj : j < m) : Tri P o σ [] (.ref id (off + j * k)) [] :=
  .val fun _ g _ ac w hrp _ _ => by
    have e1 := hrp x (by rw [ho]; simp [Op.operands])
    have e2 := hrp i (by rw [ho]; simp [Op.operands])
    rw [hx] at e1
    rw [hi] at e2
    obtain ⟨e, inf, hu, hinf, hsz⟩ := arr_spec ht
    generalize he : ac.eval x = y at e1
    cases e1 with
    | ref ha =>
      refine ⟨.pointer (some ⟨g.blk id, off + j * k, none⟩), ?_, RepT.ref ha⟩
      unfold execOp; rw [ho]
      simp [Instr.indexAt, he, inv_v e2, asIntOf, run_underlying hu, hj, Instr.sureAddr, sizeOf, typeInfo, hinf, hsz, add_lit']
theorem t_index_api {t : TypeId} {x i : Operand} {m k j : Nat} {ds : List D} {kd : IntKind} (ho : o.op = .indexAddr t x i) (ht : arrOf? P t = some (m, k)) (hx : opT σ x = .pi ds) (hi : opT σ i = .d (.v (.int kd j))) (hj : j < m) : Tri P o σ [] (.pi (ds.drop (j * k))) [] :=
  .val fun _ g _ ac w hrp _ _ => by
    have e1 := hrp x (by rw [ho]; simp [Op.operands])
    have e2 := hrp i (by rw [ho]; simp [Op.operands])
    rw [hx] at e1
    rw [hi] at e2
    obtain ⟨e, inf, hu, hinf, hsz⟩ := arr_spec ht
    generalize he : ac.eval x = y at e1
    cases e1 with
    | @pi _ xs b off h1 hr =>
      refine ⟨.pointer (some ⟨b, off + j * k, none⟩), ?_, RepT.pi (h1.drop (j * k)) fun q hq => ?_⟩
      · unfold execOp; rw [ho]
        simp [Instr.indexAt, he, inv_v e2, asIntOf, run_underlying hu, hj, Instr.sureAddr, sizeOf, typeInfo, hinf, hsz, add_lit']
      · simp at hq
        rw [Nat.add_assoc, hr _ (by omega), List.getElem?_drop]
/-- A box whose cells never turn. -/
theorem t_boxpi {e : Nat} {x : Operand} {d : D} (ho : o.op = .box e x) (hx : TLe (opT σ x) (.d d)) : Tri P o σ [] (.pi d.lv) [] := by
  intro Γ g objs a w Q hr hp hw
  have e1 := hx g _ (rep_op hr (x := x) (by rw [ho]; simp [Op.operands]))
  cases e1 with
  | d h1 =>
    have h2 := rep_cells h1
    unfold Oper.wp execOp
    have hrun : (Instr.box e (a.eval x)).run P w = .ok (.pointer (some ⟨w.heap.size, 0, none⟩)) (w.alloc (.cells (a.eval x).cells.toList.toArray e)) := by
      unfold Instr.box
      simp only [newVar, newRow, newObj, Sem.run_bind, Sem.run, Result.andThen_ok, Sem.run_pure, Array.toArray_toList]
      rfl
    simp only [ho, Sem.run_bind, hrun, Result.andThen_ok, Sem.run_pure]
    have hle := new_le (S := g.S) (w := w) (xs := (a.eval x).cells.toList) hw.imm
    refine ⟨⟨newS g.S w.heap.size (a.eval x).cells.toList, g.blk, g.row, g.len⟩, _, rfl, ⟨hle, fun _ _ _ => rfl, fun _ _ => Nat.le_refl _, fun _ _ _ => rfl⟩, .pi (h2.mono hle) fun i hi => ?_, hw.lay⟩
    show (if w.heap.size = w.heap.size then (a.eval x).cells.toList[0 + i]? else g.S w.heap.size (0 + i)) = _
    rw [if_pos rfl, Nat.zero_add]
theorem t_max {x y : Operand} {k : IntKind} {a b : Int} {ts : Array TypeId} (ho : o.op = .call { callee := .builtin .max, args := #[x, y], argTypes := ts }) (hx : opT σ x = .d (.v (.int k a))) (hy : opT σ y = .d (.v (.int k b))) : Tri P o σ [] (.d (.v (.int k (if a < b then b else a)))) [] :=
  .val fun _ g _ ac w hrp _ _ => ⟨.int k (if a < b then b else a), by
    have e1 := hrp x (by rw [ho]; simp [Op.operands, Call.operands])
    have e2 := hrp y (by rw [ho]; simp [Op.operands, Call.operands])
    rw [hx] at e1
    rw [hy] at e2
    unfold execOp; rw [ho]
    simp [resolve, invoke, builtin, Builtin.max_, Builtin.max2, inv_v e1, inv_v e2], rep_v rfl⟩
/-- What reads as data. -/
def dOf : T → Option D
  | .d x => some x
  | .own k l _ => some (.sl k l)
  | _ => none
theorem dOf_le : ∀ {t : T} {d : D}, dOf t = some d → TLe t (.d d)
  | .d _, _, h => by cases h; exact TLe.refl _
  | .own _ _ _, _, h => by cases h; exact TLe.own
noncomputable def dsOf (l : List T) : Option (List D) := List.rec (motive := fun _ => Option (List D)) (some []) (fun t _ ih => match dOf t with | some d => (match ih with | some m => some (d :: m) | none => none) | none => none) l
theorem dsOf_cons (t : T) (l : List T) : dsOf (t :: l) = match dOf t with | some d => (match dsOf l with | some m => some (d :: m) | none => none) | none => none := rfl
theorem dsOf_reps {g : Gh} : ∀ {l : List T} {ds : List D} {xs : List Value}, dsOf l = some ds → Reps g l xs → Reps g (ds.map .d) xs
  | [], ds, xs, h, hr => by cases h; cases hr; exact .nil
  | t :: l, ds, xs, h, hr => by
    rw [dsOf_cons] at h
    cases e : dOf t with
    | none => rw [e] at h; cases h
    | some d =>
      rw [e] at h
      cases e2 : dsOf l with
      | none => rw [e2] at h; cases h
      | some m =>
        rw [e2] at h
        cases h
        cases hr with | cons h1 h2 => exact .cons (dOf_le e g _ h1) (dsOf_reps e2 h2)
theorem dsOf_len : ∀ {l : List T} {ds : List D}, dsOf l = some ds → ds.length = l.length
  | [], ds, h => by cases h; rfl
  | t :: l, ds, h => by
    rw [dsOf_cons] at h
    cases e : dOf t with
    | none => rw [e] at h; cases h
    | some d =>
      rw [e] at h
      cases e2 : dsOf l with
      | none => rw [e2] at h; cases h
      | some m => rw [e2] at h; cases h; simp [dsOf_len e2]
theorem t_load_refd {t : TypeId} {x : Operand} {k id off e : Nat} {ts : List T} {ds : List D} (ho : o.op = .load t x) (ht : aggOf? P t = some (true, k)) (hx : opT σ x = .ref id off) (hv : dsOf ((ts.drop off).take k) = some ds) (hk : ds.length = k) : Tri P o σ [(id, .cells e ts)] (.d (.agg ds)) [] :=
  .val fun _ g objs ac w hrp hp hw => by
    have e1 := hrp x (by rw [ho]; simp [Op.operands])
    rw [hx] at e1
    generalize he : ac.eval x = y at e1
    cases e1 with
    | ref ha =>
      obtain ⟨xs, -, a1, a2, a3, a4, a5⟩ := hw.obj id _ (hp _ (List.mem_singleton.2 rfl))
      have h3 := dsOf_reps hv ((a3.drop off).take k)
      have h4 := reps_dd h3 (fun x hx => a4 x (List.mem_of_mem_drop (List.mem_of_mem_take hx)))
      have hl := h4.len
      have := load_agg_run (P := P) (b := g.blk id) (off := off) (w := w) (xs := (xs.drop off).take k) ht (by rw [hl, hk]) (fun j hj => by
        have hj2 : off + j < xs.length := by
          have : ((xs.drop off).take k).length = k := by rw [hl, hk]
          rw [List.length_take, List.length_drop] at this
          omega
        unfold World.cell?
        dsimp only
        rw [a2, List.getElem?_take, if_pos hj, List.getElem?_drop]
        simp)
      exact ⟨_, by unfold execOp; rw [ho]; simp [he, this], .d (.agg h4)⟩
/-- Of an object less may be told. -/
theorem WI.less {g : Gh} {w : World} {id e : Nat} {ts ts' : List T} (hw : WI Γ g objs w) (ho : objs id = some (.cells e ts)) (h : ∀ xs, Reps g ts xs → (∀ x ∈ xs, x.oneCell' = true) → Reps g ts' xs) : WI Γ g (ovr objs [(id, .cells e ts')]) w := by
  have back : ∀ (i : Nat) (oi : GObj), ovr objs [(id, .cells e ts')] i = some oi → (i = id ∧ oi = .cells e ts') ∨ (i ≠ id ∧ objs i = some oi) := fun i oi hi => by
    by_cases hid : i = id
    · subst hid
      exact .inl ⟨rfl, by simpa [ovr, List.lookup] using hi.symm⟩
    · have hne : (i == id) = false := by simpa using hid
      exact .inr ⟨hid, by simpa [ovr, List.lookup, hne] using hi⟩
  have key : ∀ (i : Nat) (oi : GObj) (b : Nat), ovr objs [(id, .cells e ts')] i = some oi → oi.blk g i b → ∃ oi', objs i = some oi' ∧ oi'.blk g i b := fun i oi b hi hb => by
    rcases back i oi hi with ⟨rfl, rfl⟩ | ⟨-, hi'⟩
    · exact ⟨_, ho, hb⟩
    · exact ⟨oi, hi', hb⟩
  refine ⟨hw.imm, fun i ob hi => ?_, fun i j oi oj b q1 q2 q3 q4 => ?_, hw.fr, hw.old, hw.ext⟩
  · rcases back i ob hi with ⟨rfl, rfl⟩ | ⟨-, hi'⟩
    · obtain ⟨xs, b0, b1, b2, b3, b4, b5⟩ := hw.obj i _ ho
      exact ⟨xs, b0, b1, b2, h xs b3 b4, b4, b5⟩
    · exact hw.obj i ob hi'
  · obtain ⟨a1, c1, c2⟩ := key i oi b q1 q3
    obtain ⟨a2, c3, c4⟩ := key j oj b q2 q4
    exact hw.apart i j _ _ b c1 c3 c2 c4
theorem ovr_two (objs : Objs) (id : Nat) (x y : GObj) : ovr (ovr objs [(id, x)]) [(id, y)] = ovr objs [(id, y)] := by
  funext i
  by_cases hid : i = id
  · subst hid; simp [ovr, List.lookup]
  · have hne : (i == id) = false := by simpa using hid
    simp [ovr, List.lookup, hne]
theorem t_alloc_d {e c : Nat} {zs : List Value} {ds : List D} (ho : o.op = .alloc e) (hz : zeroOf? P e = some zs) (hd : DLes (zs.map .v) ds) : Tri P o σ [(c, .vac)] (.ref c 0) [(c, .cells e (ds.map .d))] := fun Γ g objs a w Q h1 h2 h3 =>
  Oper.wp_mono (fun _ _ ⟨g', x, e1, k1, k2, k3⟩ => ⟨g', x, e1, k1, k2, by
    have := k3.less (id := c) (e := e) (ts := zs.map fun x => .d (.v x)) (ts' := ds.map .d) (by simp [ovr, List.lookup]) fun xs b3 b4 => by
      have b5 : Reps g' ((zs.map D.v).map .d) xs := by rw [List.map_map]; exact b3
      exact reps_d (hd.reps (reps_dd b5 b4))
    rwa [ovr_two] at this⟩) (t_alloc ho hz Γ g objs a w Q h1 h2 h3)
end
end Go.Proofs.YtenlhfmchhljdaaDoor
