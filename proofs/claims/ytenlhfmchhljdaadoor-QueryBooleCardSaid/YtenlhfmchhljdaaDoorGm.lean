/-
  Ghost values: maps (of data) as objects: in the order of their entries.
-/
import Derived.Test.YtenlhfmchhljdaaDoorGp
namespace Go.Proofs.YtenlhfmchhljdaaDoor
open Go.RowKit
open Go.MapKept (IsKey Stamped)

/-! ### As lists -/
def keq : Value → Value → Bool
  | .int k a, .int k' b => k == k' && a == b
  | .bool a, .bool b => a == b
  | .string a, .string b => a == b
  | _, _ => false
theorem keq_iff {d : TypeDesc} {a b : Value} (ha : IsKey d a) (hb : IsKey d b) : keq a b = true ↔ a = b := by
  cases d <;> cases a <;> cases b <;> simp_all [IsKey, keq, Go.MapKept.bytes_beq]
theorem keq_refl {d : TypeDesc} {a : Value} (ha : IsKey d a) : keq a a = true := (keq_iff ha ha).2 rfl
section
variable {α : Type}
def mfind : List (Value × α) → Value → Option α
  | [], _ => none
  | (x, y) :: M, k => bif keq k x then some y else mfind M k
def mput : List (Value × α) → Value → α → List (Value × α)
  | [], k, v => [(k, v)]
  | (x, y) :: M, k, v => bif keq k x then (x, v) :: M else (x, y) :: mput M k v
def mdel : List (Value × α) → Value → List (Value × α)
  | [], _ => []
  | (x, y) :: M, k => bif keq k x then M else (x, y) :: mdel M k
end
theorem now_step {d : TypeDesc} {k : Value} {e : MapEntry} (hk : IsKey d k) (he : IsKey d e.key) (es : List MapEntry) (i : Nat) : Instr.findNow d k (e :: es) i = if keq k e.key = true then some (some (i, e.val)) else Instr.findNow d k es (i + 1) := by
  obtain ⟨r, hr, hiff⟩ := Go.MapKept.sameNow_of_keys hk he
  have h2 := keq_iff hk he
  have hr2 : Instr.findNow d k (e :: es) i = match Instr.sameNow d k e.key with
    | some true => some (some (i, e.val))
    | some false => Instr.findNow d k es (i + 1)
    | none => none := rfl
  rw [hr2, hr]
  cases r with
  | true => rw [if_pos (h2.2 (hiff.1 rfl))]
  | false =>
    rw [if_neg]
    intro h
    have := hiff.2 (h2.1 h)
    cases this
theorem modify_zero {e : MapEntry} {es : List MapEntry} (f : MapEntry → MapEntry) : (e :: es).modify 0 f = f e :: es := rfl
theorem repM_find {S : Sm} {d : TypeDesc} {k : Value} (hk : IsKey d k) : ∀ {M : List (Value × D)} {es : List MapEntry}, RepM S d M es → ∀ i,
    (Instr.findNow d k es i = some none ∧ mfind M k = none ∧ (∀ x ∈ es, x.key ≠ k) ∧ (∀ (y : D) (v : Value) (c : Nat), RepD S y v → RepM S d (mput M k y) (es ++ [⟨k, v, c⟩])) ∧ mdel M k = M) ∨
    ∃ j e y, Instr.findNow d k es i = some (some (i + j, e.val)) ∧ es[j]? = some e ∧ e.key = k ∧ mfind M k = some y ∧ RepD S y e.val ∧
      (∀ (y' : D) (v : Value), RepD S y' v → RepM S d (mput M k y') (es.modify j fun e => { e with key := k, val := v })) ∧ RepM S d (mdel M k) (es.eraseIdx j)
  | _, _, .nil, i => .inl ⟨rfl, rfl, fun x hx => (by cases hx), fun y v c h => .cons rfl hk h .nil, rfl⟩
  | _, _, @RepM.cons _ _ x y e M es he hi h ht, i => by
    subst he
    rw [now_step hk hi]
    cases hq : keq k e.key with
    | true =>
      have hke := (keq_iff hk hi).1 hq
      refine .inr ⟨0, e, y, by simp, rfl, hke.symm, by unfold mfind; rw [hq]; rfl, h, fun y' v h' => ?_, ?_⟩
      · unfold mput; rw [hq]; exact .cons hke hi h' ht
      · unfold mdel; rw [hq]; exact ht
    | false =>
      have hne : e.key ≠ k := fun e1 => by rw [← e1, keq_refl hi] at hq; cases hq
      rcases repM_find hk ht (i + 1) with ⟨h1, h2, h3, h4, h5⟩ | ⟨j, e', y', h1, h2, h3, h4, h5, h6, h7⟩
      · refine .inl ⟨by simpa using h1, by unfold mfind; rw [hq]; exact h2, fun x hx => ?_, fun y v c h' => ?_, ?_⟩
        · rcases List.mem_cons.1 hx with rfl | hx
          · exact hne
          · exact h3 x hx
        · unfold mput; rw [hq]; exact .cons rfl hi h (h4 y v c h')
        · unfold mdel; rw [hq]; show (_ :: _) = _; rw [h5]
      · refine .inr ⟨j + 1, e', y', by rw [if_neg (by simp), h1, show i + 1 + j = i + (j + 1) from by omega], by simpa using h2, h3, by unfold mfind; rw [hq]; exact h4, h5, fun y'' v h' => ?_, ?_⟩
        · unfold mput; rw [hq]; exact .cons rfl hi h (h6 y'' v h')
        · unfold mdel; rw [hq]; exact .cons rfl hi h h7

/-! ### In the world -/
section
variable {P : Program} {S : Sm} {d : TypeDesc} {k : Value} {M : List (Value × D)} {es : List MapEntry} {w : World} {b : Nat} {mt kt et : TypeId}
theorem run_look (hm : P.underlying mt = some (.map kt et)) (hd : P.underlying kt = some d) (hk : IsKey d k) (hM : RepM S d M es) (hb : MapAt w b es) {z : Value} (hz : ∀ w, (zeroValue et).run P w = .ok z w) (c : Bool) :
    ∃ v, (Instr.lookup mt (.map (some b)) k c).run P w = .ok (if c then .tuple #[v, .bool (mfind M k).isSome] else v) w ∧ (match mfind M k with | some y => RepD S y v | none => v = z) := by
  obtain ⟨cl, hb, hs⟩ := hb
  rcases repM_find hk hM 0 with ⟨h1, h2, -⟩ | ⟨j, e, y, h1, h2, h3, h4, h5, -⟩
  · refine ⟨z, ?_, by rw [h2]⟩
    simp [Instr.lookup, run_underlying hm, Go.MapKept.run_getObj_map hb, Go.MapKept.run_checkKey hd hk, Go.MapKept.run_findKey hd h1, hz, h2, Result.andThen]
  · refine ⟨e.val, ?_, by rw [h4]; exact h5⟩
    simp [Instr.lookup, run_underlying hm, Go.MapKept.run_getObj_map hb, Go.MapKept.run_checkKey hd hk, Go.MapKept.run_findKey hd h1, h4, Result.andThen]
def setB (w : World) (b : Nat) (o : Obj) : World := { w with heap := w.heap.setIfInBounds b o }
theorem grown_setB {o o' : Obj} (hb : w.heap[b]? = some o) : w.grownBy (setB w b o') (some b) := ⟨rfl, rfl, rfl, by simp [setB], fun k _ hk => (Go.MapKept.heap_set hb).2 k fun e => hk (by rw [e])⟩
theorem run_put (hm : P.underlying mt = some (.map kt et)) (hd : P.underlying kt = some d) (hk : IsKey d k) (hM : RepM S d M es) (hb : MapAt w b es) {y : D} {v : Value} (hv : RepD S y v) :
    ∃ es' o, (Instr.mapUpdate mt (.map (some b)) k v).run P w = .ok () (setB w b o) ∧ MapAt (setB w b o) b es' ∧ RepM S d (mput M k y) es' := by
  obtain ⟨cl, hb, hs⟩ := hb
  rcases repM_find hk hM 0 with ⟨h1, h2, h3, h4, -⟩ | ⟨j, e, y', h1, h2, h3, h4, h5, h6, -⟩
  · refine ⟨es ++ [⟨k, v, cl⟩], .map (es.toArray.push ⟨k, v, cl⟩) (cl + 1), ?_, ⟨cl + 1, by rw [← List.push_toArray]; exact (Go.MapKept.heap_set hb).1, by rw [← List.push_toArray]; exact Go.MapKept.stamped_push hs (by simpa using h3)⟩, h4 y v cl hv⟩
    simp [Instr.mapUpdate, run_underlying hm, Go.MapKept.run_getObj_map hb, Go.MapKept.run_checkKey hd hk, Go.MapKept.run_findKey hd h1, Go.MapKept.run_setObj_map _ hb, Result.andThen, setB]
  · have hj : es.toArray[j]? = some e := by simpa using h2
    have hkey : ∀ e', es.toArray[j]? = some e' → ({ e' with key := k, val := v } : MapEntry).key = e'.key := fun e' he' => by rw [hj] at he'; cases he'; exact h3.symm
    have ha : (es.modify j fun e => { e with key := k, val := v }).toArray = es.toArray.modify j fun e => { e with key := k, val := v } := by simp
    refine ⟨es.modify j fun e => { e with key := k, val := v }, .map (es.toArray.modify j fun e => { e with key := k, val := v }) cl, ?_, ⟨cl, by rw [ha]; exact (Go.MapKept.heap_set hb).1, by rw [ha]; exact Go.MapKept.stamped_modify hs _ _ (fun _ _ => rfl) (fun e' _ he' => hkey e' he')⟩, h6 y v hv⟩
    simp [Instr.mapUpdate, run_underlying hm, Go.MapKept.run_getObj_map hb, Go.MapKept.run_checkKey hd hk, Go.MapKept.run_findKey hd h1, h2, h3, Go.MapKept.run_keyThatStays hk, Go.MapKept.run_setObj_map _ hb, Result.andThen, setB]
theorem run_del {ty : TypeId} (hm : P.underlying mt = some (.map kt et)) (hd : P.underlying kt = some d) (hk : IsKey d k) (hM : RepM S d M es) (hb : MapAt w b es) :
    ∃ es' o, (Builtin.delete_ #[mt, kt] ty #[.map (some b), k]).run P w = .ok (.tuple #[]) (setB w b o) ∧ MapAt (setB w b o) b es' ∧ RepM S d (mdel M k) es' := by
  obtain ⟨cl, hb, hs⟩ := hb
  rcases repM_find hk hM 0 with ⟨h1, h2, h3, -, h5⟩ | ⟨j, e, y', h1, h2, h3, h4, h5, -, h7⟩
  · refine ⟨es, .map es.toArray cl, ?_, ⟨cl, (Go.MapKept.heap_set hb).1, hs⟩, h5.symm ▸ hM⟩
    simp [Builtin.delete_, run_underlying hm, Go.MapKept.run_getObj_map hb, Go.MapKept.run_checkKey hd hk, Go.MapKept.run_findKey hd h1, Go.MapKept.run_setObj_map _ hb, Result.andThen, setB]
  · have hjl : j < es.length := (List.getElem?_eq_some_iff.1 h2).1
    have ha : (es.eraseIdx j).toArray = es.toArray.eraseIdxIfInBounds j := by simp [Array.eraseIdxIfInBounds, hjl]
    refine ⟨es.eraseIdx j, .map (es.toArray.eraseIdxIfInBounds j) cl, ?_, ⟨cl, by rw [ha]; exact (Go.MapKept.heap_set hb).1, by rw [ha]; exact Go.MapKept.stamped_erase hs j⟩, h7⟩
    simp [Builtin.delete_, run_underlying hm, Go.MapKept.run_getObj_map hb, Go.MapKept.run_checkKey hd hk, Go.MapKept.run_findKey hd h1, Go.MapKept.run_setObj_map _ hb, Result.andThen, setB]
end
/-! ### As objects -/
section
variable {P : Program} {Γ : Cx} {o : Oper} {σ : Nat → T} {objs : Objs}
/-- One block of an object turns. -/
theorem WI.touch {g : Gh} {w w' : World} {id b0 : Nat} {ob ob' : GObj} (hw : WI Γ g objs w) (ho : objs id = some ob) (hg : w.grownBy w' (some b0)) (hb0 : ob.blk g id b0) (hS : ∀ o, g.S b0 o = none) (hob : ObjAt Γ g w' id ob') (hsub : ∀ b, ob'.blk g id b → ob.blk g id b) :
    WI Γ g (ovr objs [(id, ob')]) w' := by
  have hblk : ∀ k, k < w.heap.size → k ≠ b0 → w'.heap[k]? = w.heap[k]? := fun k hk hne => hg.block k hk fun e1 => hne (by simpa using e1)
  have back : ∀ (i : Nat) (oi : GObj), ovr objs [(id, ob')] i = some oi → (i = id ∧ oi = ob') ∨ (i ≠ id ∧ objs i = some oi) := by
    intro i oi h
    by_cases hid : i = id
    · subst hid; left; simp [ovr] at h; exact ⟨rfl, h.symm⟩
    · have : (i == id) = false := by simpa using hid
      exact .inr ⟨hid, by simpa [ovr, List.lookup, this] using h⟩
  have key : ∀ (i : Nat) (oi : GObj) (b : Nat), ovr objs [(id, ob')] i = some oi → oi.blk g i b → ∃ oi', objs i = some oi' ∧ oi'.blk g i b := fun i oi b hi hb => by
    rcases back i oi hi with ⟨rfl, rfl⟩ | ⟨-, hi'⟩
    · exact ⟨_, ho, hsub b hb⟩
    · exact ⟨oi, hi', hb⟩
  refine ⟨fun b o x h => ?_, fun i oi hi => ?_, fun i j oi oj b h3 h4 h5 h6 => ?_, ?_, hw.old, hw.ext⟩
  · have hb : b ≠ b0 := fun e1 => by rw [e1, hS o] at h; cases h
    have hlt := World.block_lt_of_cell? w ⟨b, o, none⟩ (hw.imm b o x h)
    rw [World.cell?_of_block (w := w) (hblk b hlt hb)]
    exact hw.imm b o x h
  · rcases back i oi hi with ⟨rfl, rfl⟩ | ⟨hne, hi'⟩
    · exact hob
    · have h3 := hw.obj i oi hi'
      exact h3.same (GLe.refl (fun _ => True) g) rfl rfl rfl (fun _ _ => trivial) fun b hb => ⟨hblk b (h3.blk_lt hb) fun e1 => hne (hw.apart i id _ _ b hi' ho hb (e1 ▸ hb0)), fun _ => rfl⟩
  · obtain ⟨oi', c1, c2⟩ := key i oi b h3 h5
    obtain ⟨oj', c3, c4⟩ := key j oj b h4 h6
    exact hw.apart i j oi' oj' b c1 c3 c2 c4
  · refine ⟨hg.os.trans hw.fr.os, hg.tape.trans hw.fr.tape, hg.output.trans hw.fr.output, Nat.le_trans hw.fr.size hg.size, fun k hk hx => ?_⟩
    refine (hblk k (Nat.lt_of_lt_of_le hk hw.fr.size) fun e1 => ?_).trans (hw.fr.block k hk hx)
    subst e1
    rcases (hw.obj id ob ho).mine hb0 with h | h
    · omega
    · exact hx h
/-- A map's type: the key's kind, the element. -/
def mapT? (P : Program) (t : TypeId) : Option (TypeId × TypeDesc × TypeId) := match P.underlying t with
  | some (.map k e) => (P.underlying k).map fun d => (k, d, e)
  | _ => none
theorem mapT_spec {t kt et : TypeId} {d : TypeDesc} (h : mapT? P t = some (kt, d, et)) : P.underlying t = some (.map kt et) ∧ P.underlying kt = some d := by
  unfold mapT? at h
  split at h
  · next k e hu =>
    cases hk : P.underlying k with
    | none => rw [hk] at h; cases h
    | some d' => rw [hk] at h; cases h; exact ⟨hu, hk⟩
  · cases h
theorem t_makemap {t c : Nat} {d : TypeDesc} (ho : o.op = .makeMap t none) : Tri P o σ [(c, .vac)] (.mp c) [(c, .map d [])] := by
  intro Γ g objs a w Q hr hp hw
  have hc := hp _ (List.mem_singleton.2 rfl)
  have h0 : g.len c = 0 := hw.obj c _ hc
  have hb := (Below.refl w.heap.size w).alloc (Nat.le_refl _) (.map #[] 0)
  have hw2 : WI Γ ⟨g.S, g.blk, g.row, g.len⟩ objs (w.alloc (.map #[] 0)) := hw.call (SLe.refl _) (fun _ _ _ => rfl) (fun b o x h => by
    have h2 := hw.imm b o x h
    rw [hb.cell (p := ⟨b, o, none⟩) (World.block_lt_of_cell? w ⟨b, o, none⟩ h2)]; exact h2) hb
  have hob : ObjAt Γ (setC g c w.heap.size) (w.alloc (.map #[] 0)) c (.map d []) := by
    refine ⟨[], by simp [setC], .inl ?_, ⟨0, ?_, Go.MapKept.stamped_empty 0⟩, .nil, fun o => ?_⟩
    · simp only [setC, if_true]; exact hw.fr.size
    · simp only [setC, if_true]; exact (Go.MapKept.heap_alloc w _).1
    · simp only [setC, if_true]
      cases h3 : g.S w.heap.size o with
      | none => rfl
      | some x => exact absurd (World.block_lt_of_cell? w ⟨_, o, none⟩ (hw.imm _ _ _ h3)) (Nat.lt_irrefl _)
  obtain ⟨k1, k2⟩ := hw2.turn (g' := setC g c w.heap.size) hc (by simp [setC]) rfl (fun i hi => by simp [setC, hi]) (fun _ _ => rfl) (fun i hi => by simp [setC, hi]) hob (fun j oj b _ h2 h3 h4 => by
    have hlt := hw.blk_lt h2 h3
    simp only [GObj.blk, setC, if_true] at h4
    exact absurd h4 (Nat.ne_of_gt hlt))
  unfold Oper.wp execOp
  simp only [ho, Sem.run_bind, Sem.run_pure]
  refine ⟨_, _, rfl, k1, ?_, k2⟩
  have : RepT (setC g c w.heap.size) (.mp c) (.map (some ((setC g c w.heap.size).blk c))) := .mp (by simp [setC])
  simpa [setC] using this
/-- What a look-up yields. -/
def lookD (z : Value) : Option D → T
  | some y => .d y
  | none => constT z
theorem look_rep {g : Gh} {z v : Value} {r : Option D} (h : match r with | some y => RepD g.S y v | none => v = z) : RepT g (lookD z r) v := by
  cases r with
  | some y => exact .d h
  | none => show RepT g (constT z) v; rw [show v = z from h]; exact rep_const g z
theorem t_look {t kt et : TypeId} {d : TypeDesc} {m x : Operand} {id : Nat} {k z : Value} {M : List (Value × D)} (ho : o.op = .lookup t m x false) (hT : mapT? P t = some (kt, d, et)) (hz : ∀ w, (zeroValue et).run P w = .ok z w) (hm : opT σ m = .mp id) (hx : opT σ x = .d (.v k)) (hk : IsKey d k) :
    Tri P o σ [(id, .map d M)] (lookD z (mfind M k)) [] :=
  .val fun _ g _ a w hr hp hw => by
    obtain ⟨hu, hd⟩ := mapT_spec hT
    have e1 := hr m (by rw [ho]; simp [Op.operands])
    have e2 := hr x (by rw [ho]; simp [Op.operands])
    rw [hm] at e1
    rw [hx] at e2
    obtain ⟨es, -, -, hb, hM, -⟩ := hw.obj id _ (hp _ (List.mem_singleton.2 rfl))
    obtain ⟨v, hv, hr⟩ := run_look hu hd hk hM hb hz false
    generalize hy : a.eval m = y at e1
    cases e1 with
    | mp ha => exact ⟨v, by unfold execOp; rw [ho]; simp [hy, inv_v e2, hv], look_rep hr⟩
theorem t_lookok {t kt et : TypeId} {d : TypeDesc} {m x : Operand} {id : Nat} {k z : Value} {M : List (Value × D)} (ho : o.op = .lookup t m x true) (hT : mapT? P t = some (kt, d, et)) (hz : ∀ w, (zeroValue et).run P w = .ok z w) (hm : opT σ m = .mp id) (hx : opT σ x = .d (.v k)) (hk : IsKey d k) :
    Tri P o σ [(id, .map d M)] (.tup [lookD z (mfind M k), .d (.v (.bool (mfind M k).isSome))]) [] :=
  .val fun _ g _ a w hr hp hw => by
    obtain ⟨hu, hd⟩ := mapT_spec hT
    have e1 := hr m (by rw [ho]; simp [Op.operands])
    have e2 := hr x (by rw [ho]; simp [Op.operands])
    rw [hm] at e1
    rw [hx] at e2
    obtain ⟨es, -, -, hb, hM, -⟩ := hw.obj id _ (hp _ (List.mem_singleton.2 rfl))
    obtain ⟨v, hv, hr⟩ := run_look hu hd hk hM hb hz true
    generalize hy : a.eval m = y at e1
    cases e1 with
    | mp ha => exact ⟨.tuple #[v, .bool (mfind M k).isSome], by unfold execOp; rw [ho]; simp [hy, inv_v e2, hv], .tup (.cons (look_rep hr) (.cons (rep_v rfl) .nil))⟩
theorem t_put {t kt et : TypeId} {d : TypeDesc} {m x v : Operand} {id : Nat} {k : Value} {y : D} {M : List (Value × D)} (ho : o.op = .mapUpdate t m x v) (hT : mapT? P t = some (kt, d, et)) (hm : opT σ m = .mp id) (hx : opT σ x = .d (.v k)) (hv : TLe (opT σ v) (.d y)) (hk : IsKey d k) :
    Tri P o σ [(id, .map d M)] .und [(id, .map d (mput M k y))] := by
  intro Γ g objs a w Q hr hp hw
  obtain ⟨hu, hd⟩ := mapT_spec hT
  have e1 := rep_op hr (x := m) (by rw [ho]; simp [Op.operands])
  have e2 := rep_op hr (x := x) (by rw [ho]; simp [Op.operands])
  have e3 := hv g _ (rep_op hr (x := v) (by rw [ho]; simp [Op.operands]))
  rw [hm] at e1
  rw [hx] at e2
  have hid := hp _ (List.mem_singleton.2 rfl)
  obtain ⟨es, a0, a1, hb, hM, a5⟩ := hw.obj id _ hid
  generalize hy : a.eval m = u at e1
  generalize hz : a.eval v = z at e3
  cases e1 with
  | mp ha =>
    cases e3 with
    | d e3 =>
      obtain ⟨es', ob, hrun, h1, h2⟩ := run_put hu hd hk hM hb e3
      unfold Oper.wp execOp
      simp only [ho, hy, hz, inv_v e2, Sem.run_bind, hrun, Result.andThen_ok, Sem.run_pure]
      obtain ⟨c, hb1, -⟩ := hb
      exact ⟨g, undef, rfl, GLe.refl _ _, .und, hw.touch hid (grown_setB hb1) rfl a5 ⟨es', a0, a1, h1, h2, a5⟩ fun b hb => hb⟩
theorem t_del {t kt et : TypeId} {d : TypeDesc} {m x : Operand} {id : Nat} {k : Value} {M : List (Value × D)} (ho : o.op = .call { callee := .builtin .delete, args := #[m, x], argTypes := #[t, kt] }) (hT : mapT? P t = some (kt, d, et)) (hm : opT σ m = .mp id) (hx : opT σ x = .d (.v k)) (hk : IsKey d k) :
    Tri P o σ [(id, .map d M)] .und [(id, .map d (mdel M k))] := by
  intro Γ g objs a w Q hr hp hw
  obtain ⟨hu, hd⟩ := mapT_spec hT
  have e1 := rep_op hr (x := m) (by rw [ho]; simp [Op.operands, Call.operands])
  have e2 := rep_op hr (x := x) (by rw [ho]; simp [Op.operands, Call.operands])
  rw [hm] at e1
  rw [hx] at e2
  have hid := hp _ (List.mem_singleton.2 rfl)
  obtain ⟨es, a0, a1, hb, hM, a5⟩ := hw.obj id _ hid
  generalize hy : a.eval m = u at e1
  cases e1 with
  | mp ha =>
    obtain ⟨es', ob, hrun, h1, h2⟩ := run_del (ty := o.type) hu hd hk hM hb
    unfold Oper.wp execOp
    simp only [ho, resolve, invoke, builtin, Sem.run_bind, Sem.run_pure, Result.andThen_ok, List.map_toArray, List.map_cons, List.map_nil, hy, inv_v e2, hrun]
    obtain ⟨c, hb1, -⟩ := hb
    exact ⟨g, _, rfl, GLe.refl _ _, .und, hw.touch hid (grown_setB hb1) rfl a5 ⟨es', a0, a1, h1, h2, a5⟩ fun b hb => hb⟩
end
end Go.Proofs.YtenlhfmchhljdaaDoor
