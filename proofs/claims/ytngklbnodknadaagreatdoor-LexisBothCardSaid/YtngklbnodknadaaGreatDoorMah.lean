/-
  Gr, in one.
-/
import Derived.Test.YtngklbnodknadaaGreatDoorMag
section
namespace Go.Proofs.YtngklbnodknadaaGreatDoor
open Go.RowKit
open Go.MapKept (IsKey Stamped)

/-- A slice's type whose element has one cell: the element, and its zero. -/
def mkT? (P : Program) (t : TypeId) : Option (TypeId × Value) := match P.underlying t with
  | some (.slice e) => match P.info? e with
    | some i => match i.zero with
      | some z => if i.size = 1 ∧ i.bytes ≤ 1000 ∧ z.oneCell' = true then some (e, z) else none
      | none => none
    | none => none
  | _ => none
section
variable {P : Program} {Γ : Cx} {o : Oper} {σ : Nat → T} {objs : Objs}
theorem mk_spec {t e : TypeId} {z : Value} (h : mkT? P t = some (e, z)) : P.underlying t = some (.slice e) ∧ ∃ i, P.info? e = some i ∧ i.zero = some z ∧ i.size = 1 ∧ i.bytes ≤ 1000 ∧ z.oneCell' = true := by
  unfold mkT? at h
  split at h
  · next e' hu =>
    split at h
    · next i hi =>
      split at h
      · next z' hz =>
        split at h
        · next hc => cases h; exact ⟨hu, i, hi, hz, hc.1, hc.2.1, hc.2.2⟩
        · cases h
      · cases h
    · cases h
  · cases h
theorem one_cells' {v : Value} (h : v.oneCell' = true) : v.cells = #[v] := by
  have := one_cells h
  cases hc : v.cells with
  | mk l => rw [hc] at this; simp at this; rw [this]
theorem made_one {z : Value} (h : z.oneCell' = true) (n : Nat) : (madeCells z.cells (n * 1)).toList = List.replicate n z := by
  rw [one_cells' h]
  have e : (fun x => ([z][x % 1]?).getD default) = fun _ : Nat => z := by funext x; rw [Nat.mod_one]; rfl
  simp [madeCells]
  rw [e, List.map_const']; simp
theorem run_made {t e : TypeId} {z : Value} (h : mkT? P t = some (e, z)) (w : World) (n : Nat) (hn : n ≤ 10000000) (k1 k2 : IntKind) :
    (Instr.makeSlice t (.int k1 n) (.int k2 n)).run P w = .ok (.slice (some ⟨w.heap.size, 0, none⟩) n n) (w.alloc (.cells (List.replicate n z).toArray e)) := by
  obtain ⟨hu, i, hi, hz, hs, hb, h1⟩ := mk_spec h
  have := run_make (P := P) w t e i z hu hi hz k1 k2 n n (by omega) (Int.le_refl _) (by
    have h2 : (i.bytes : Int) ≤ 1000 := by omega
    have h3 : (n : Int) ≤ 10000000 := by omega
    calc (i.bytes : Int) * n ≤ 1000 * 10000000 := Int.mul_le_mul h2 h3 (by omega) (by omega)
      _ ≤ _ := by decide) (by omega)
  rw [this]
  have e2 : madeCells z.cells ((n : Int).toNat * i.size) = (List.replicate n z).toArray := by
    rw [hs, Int.toNat_natCast]
    have := made_one h1 n
    cases hc : madeCells z.cells (n * 1) with
    | mk l => rw [hc] at this; simp at this; rw [this]
  rw [e2, Int.toNat_natCast]
theorem S_new {g : Gh} {w : World} (hw : WI Γ g objs w) (o : Nat) : g.S w.heap.size o = none := by
  cases h3 : g.S w.heap.size o with
  | none => rfl
  | some x => exact absurd (World.block_lt_of_cell? w ⟨_, o, none⟩ (hw.imm _ _ _ h3)) (Nat.lt_irrefl _)
theorem WI.alloc {g : Gh} {w : World} (hw : WI Γ g objs w) (ob : Obj) : WI Γ g objs (w.alloc ob) := by
  have hb := (Below.refl w.heap.size w).alloc (Nat.le_refl _) ob
  exact hw.call (SLe.refl _) (fun _ _ _ _ => rfl) (fun b o x h => by
    have h2 := hw.imm b o x h
    rw [hb.cell (p := ⟨b, o, none⟩) (World.block_lt_of_cell? w ⟨b, o, none⟩ h2)]; exact h2) hb
theorem own_new (w : World) (e : TypeId) (z : Value) (n : Nat) (hn : n ≤ 10000000) : (w.alloc (.cells (List.replicate n z).toArray e)).ownsRow 0 e 1 (.slice (some ⟨w.heap.size, 0, none⟩) n n) n (List.replicate n z) :=
  ⟨by simp, .inr ⟨w.heap.size, n, _, rfl, Nat.zero_le _, (Go.MapKept.heap_alloc w _).1, Nat.le_refl _, by unfold maxLen; omega, by simp, by simp⟩⟩
/-- A zero of a row's element: a nil slice reads as an empty one. -/
def zD (z : Value) (kk : Option Nat) : D := match z, kk with
  | .slice none 0 0, some n => .sl n []
  | z, _ => .v z
theorem zD_rep {S : Sm} {z : Value} (hz : z.oneCell' = true) (kk : Option Nat) : RepDs S (zD z kk).lv [z] := by
  unfold zD
  split
  · exact .cons (.sl (l := []) .nil (RowS.nil _ _) (Nat.le_refl _) (Nat.zero_le _) fun _ => rfl) rfl .nil
  · exact .cons (.v hz) hz .nil
theorem repLv_zero {S : Sm} {z : Value} (hz : z.oneCell' = true) (kk : Option Nat) : ∀ n, RepLv S 1 (List.replicate n (zD z kk)) (List.replicate n z)
  | 0 => .nil
  | n + 1 => by
    rw [List.replicate_succ, List.replicate_succ]
    exact RepLv.cons (xs := [z]) (zD_rep hz kk) rfl (repLv_zero hz kk n)
theorem t_make {t e c n : Nat} {x y : Operand} {z : Value} {k1 k2 : IntKind} (kk : Option Nat) (ho : o.op = .makeSlice t x y) (hT : mkT? P t = some (e, z)) (hx : opT σ x = .d (.v (.int k1 n))) (hy : opT σ y = .d (.v (.int k2 n))) (hn : n ≤ 10000000) :
    Tri P o σ [(c, .vac)] (.stk c 0 .all) [(c, .stk e 1 0 (List.replicate n (zD z kk)))] := by
  intro Γ g objs a w Q hr hp hw
  have e1 := rep_op hr (x := x) (by rw [ho]; simp [Op.operands])
  have e2 := rep_op hr (x := y) (by rw [ho]; simp [Op.operands])
  rw [hx] at e1
  rw [hy] at e2
  have hc := hp _ (List.mem_singleton.2 rfl)
  obtain ⟨-, i, -, -, -, -, hz⟩ := mk_spec hT
  have hob : ObjAt Γ (setR g c (.slice (some ⟨w.heap.size, 0, none⟩) n n) 0) (w.alloc (.cells (List.replicate n z).toArray e)) c (.stk e 1 0 (List.replicate n (zD z kk))) := by
    refine ⟨List.replicate n z, by simp [setR], ?_, repLv_zero hz kk n, fun b hb => ?_⟩
    · simp only [setR, if_true, List.length_replicate]; exact own_new w e z n hn
    · simp only [setR, if_true, Value.ownBlock, Option.some.injEq] at hb
      subst hb
      exact ⟨.inl hw.fr.size, fun o => S_new hw o⟩
  obtain ⟨k1, k2⟩ := (hw.alloc (.cells (List.replicate n z).toArray e)).turn (g' := setR g c (.slice (some ⟨w.heap.size, 0, none⟩) n n) 0) hc (by simp [setR]) rfl (fun _ _ => rfl) (fun i hi => by simp [setR, hi]) (fun i hi => by simp [setR, hi]) hob (fun j oj b _ h2 h3 h4 => by
    have hlt := hw.blk_lt h2 h3
    simp only [GObj.blk, setR, if_true, Value.ownBlock, Option.some.injEq] at h4
    omega)
  unfold Oper.wp execOp
  simp only [ho, inv_v e1, inv_v e2, run_made hT w n hn, Sem.run_bind, Result.andThen_ok, Sem.run_pure]
  exact ⟨_, _, rfl, k1, .stk rfl (by simp [setR]) (fun _ => by simp [setR, stkV]), k2⟩
/-! ### Structs that hold what may turn -/
inductive PartsT (σ : Nat → T) (place : Nat → Option (Nat × Nat)) : List (Nat × Operand) → List (Nat × List T) → Prop
  | nil : PartsT σ place [] []
  | cons {i off m : Nat} {x : Operand} {t : T} {us : List T} {ps : List (Nat × Operand)} {qs : List (Nat × List T)} (h : TLe (opT σ x) t) (hc : t.cv = some us) (hm : us.length = m) (hf : place i = some (off, m)) (ht : PartsT σ place ps qs) : PartsT σ place ((i, x) :: ps) ((off, us) :: qs)
def fillT : List (Nat × List T) → List T → List T
  | [], zs => zs
  | (off, us) :: qs, zs => fillT qs (zs.take off ++ us ++ zs.drop (off + us.length))
def fitsT : List (Nat × List T) → Nat → Bool
  | [], _ => true
  | (off, us) :: qs, n => Nat.ble (off + us.length) n && fitsT qs n
theorem Reps.set {g : Gh} {t : T} {v : Value} (h : RepT g t v) : ∀ {l : List T} {xs : List Value}, Reps g l xs → ∀ i, Reps g (l.set i t) (xs.set i v)
  | _, _, .nil, _ => .nil
  | _, _, .cons _ b, 0 => .cons h b
  | _, _, .cons a b, i + 1 => .cons a (Reps.set h b i)
theorem fill_runT {g : Gh} {a : Act} {place : Nat → Option (Nat × Nat)} : ∀ {ps : List (Nat × Operand)} {qs : List (Nat × List T)} {zs : List T} {cs : List Value}, PartsT σ place ps qs → (∀ p ∈ ps, RepT g (opT σ p.2) (a.eval p.2)) → Reps g zs cs → (∀ x ∈ cs, x.oneCell' = true) → fitsT qs zs.length = true →
    ∃ cs', Instr.fill place cs.toArray (ps.map fun p => (p.1, a.eval p.2)) = some cs'.toArray ∧ Reps g (fillT qs zs) cs' ∧ ∀ x ∈ cs', x.oneCell' = true
  | [], _, _, cs, .nil, _, h, h1, _ => ⟨cs, rfl, h, h1⟩
  | (i, x) :: ps, _, zs, cs, .cons (off := off) (m := m) (us := us) hx hc hm hp ht, hr, h, h1, hf => by
    rw [fitsT, Bool.and_eq_true] at hf
    have hoff : off + us.length ≤ zs.length := Nat.le_of_ble_eq_true hf.1
    have hl := h.len
    obtain ⟨q1, q2⟩ := cv_spec hc (hx g _ (hr (i, x) (by simp)))
    have hq := q1.len
    have hsz : (a.eval x).cells.size = m := by rw [← Array.length_toList, hq]; exact hm
    have h3 : Reps g (zs.take off ++ us ++ zs.drop (off + us.length)) (cs.take off ++ (a.eval x).cells.toList ++ cs.drop (off + us.length)) := ((h.take off).app q1).app (h.drop (off + us.length))
    have hlen : (zs.take off ++ us ++ zs.drop (off + us.length)).length = zs.length := by simp; omega
    obtain ⟨cs', r1, r2, r3⟩ := fill_runT (g := g) (a := a) ht (fun p hp => hr p (by simp [hp])) h3 (fun y hy => by
      rcases List.mem_append.1 hy with hy | hy
      · rcases List.mem_append.1 hy with hy | hy
        · exact h1 y (List.mem_of_mem_take hy)
        · exact q2 y hy
      · exact h1 y (List.mem_of_mem_drop hy)) (by rw [hlen]; exact hf.2)
    refine ⟨cs', ?_, r2, r3⟩
    rw [List.map_cons, Instr.fill, hp]
    simp only
    have hcond : ¬ ((decide ((a.eval x).cells.size ≠ m) || decide (off + (a.eval x).cells.size > cs.toArray.size)) = true) := by simp [hsz, hl]; omega
    rw [if_neg hcond, foldl_zip off _ cs (by rw [hsz, hl]; omega), hsz, ← hm]
    exact r1
theorem run_buildT {t : TypeId} {ps : List (Nat × Operand)} {qs : List (Nat × List T)} {zs : List Value} {fl : List (Nat × Nat)} {g : Gh} {a : Act} (w : World) (hz : zeroOf? P t = some zs) (hf : PlacesOK P t fl) (hP : PartsT σ (fl[·]?) ps qs) (hr : ∀ p ∈ ps, RepT g (opT σ p.2) (a.eval p.2)) (hq : fitsT qs (zs.map fun x => T.d (.v x)).length = true) :
    ∃ cs : List Value, (Instr.build t (ps.map fun p => (p.1, a.eval p.2)).toArray).run P w = .ok (.agg cs.toArray) w ∧ Reps g (fillT qs (zs.map fun x => T.d (.v x))) cs ∧ ∀ x ∈ cs, x.oneCell' = true := by
  obtain ⟨fs, hu, hpl⟩ := hf
  unfold zeroOf? at hz
  split at hz
  · next i hi =>
    split at hz
    · next z hzz =>
      split at hz
      · next hall =>
        cases hz
        have hone : ∀ x ∈ z.cells.toList, x.oneCell' = true := fun x hx => Array.all_eq_true_iff_forall_mem.1 hall x (Array.mem_toList_iff.1 hx)
        obtain ⟨cs', e1, e2, e3⟩ := fill_runT (g := g) (a := a) (cs := z.cells.toList) hP hr (reps_dv hone) hone hq
        refine ⟨cs', ?_, e2, e3⟩
        have hplace : (fun (i : Nat) => fl.toArray[i]?) = (fl[·]?) := by funext i; simp
        unfold Instr.build
        simp only [zeroValue, typeInfo, program, Sem.run_bind, Sem.run, hi, Result.andThen_ok, Sem.run_pure, hzz, run_underlying hu, hpl, hplace]
        rw [Array.toArray_toList] at e1
        rw [e1]
        simp only [Sem.run_pure]
      · cases hz
    · cases hz
  · cases hz
theorem t_buildT {t : TypeId} {ps : List (Nat × Operand)} {qs : List (Nat × List T)} {zs : List Value} {fl : List (Nat × Nat)} (ho : o.op = .build t ps.toArray) (hz : zeroOf? P t = some zs) (hf : PlacesOK P t fl) (hP : PartsT σ (fl[·]?) ps qs) (hq : fitsT qs (zs.map fun x => T.d (.v x)).length = true) :
    Tri P o σ [] (.ag (fillT qs (zs.map fun x => T.d (.v x)))) [] :=
  .val fun _ g _ a w hr _ _ => by
    obtain ⟨cs, e1, e2, e3⟩ := run_buildT (g := g) (a := a) w hz hf hP (fun p hp => hr p.2 (by rw [ho]; simp [Op.operands]; exact ⟨p.1, hp⟩)) hq
    refine ⟨.agg cs.toArray, ?_, .ag e2 e3⟩
    unfold execOp; rw [ho]
    have hmap : ps.toArray.map (fun x => match x with | (i, x) => (i, a.eval x)) = (ps.map fun p => (p.1, a.eval p.2)).toArray := by simp
    simp only [hmap, Sem.run_bind, e1, Result.andThen_ok, Sem.run_pure]
theorem rep_vle {g : Gh} {x y : Value} (h : RepT g (.d (.v x)) y) : y = x := by cases h with | d h => cases h; rfl
/-- A nil slice in it becomes a stack. -/
theorem t_buildS {t : TypeId} {ps : List (Nat × Operand)} {qs : List (Nat × List T)} {zs : List Value} {fl : List (Nat × Nat)} {c e k i : Nat} (ho : o.op = .build t ps.toArray) (hz : zeroOf? P t = some zs) (hf : PlacesOK P t fl) (hP : PartsT σ (fl[·]?) ps qs) (hq : fitsT qs (zs.map fun x => T.d (.v x)).length = true)
    (hi : (fillT qs (zs.map fun x => T.d (.v x)))[i]? = some (.d (.v (.slice none 0 0)))) :
    Tri P o σ [(c, .vac)] (.ag ((fillT qs (zs.map fun x => T.d (.v x))).set i (.stk c 0 .all))) [(c, .stk e k 0 [])] := by
  intro Γ g objs a w Q hr hp hw
  obtain ⟨cs, e1, e2, e3⟩ := run_buildT (g := g) (a := a) w hz hf hP (fun p hp => rep_op hr (by rw [ho]; simp [Op.operands]; exact ⟨p.1, hp⟩)) hq
  obtain ⟨h1, h2⟩ := hw.turn (g' := setR g c (.slice none 0 0) 0) (ob := .stk e k 0 []) (hp _ (List.mem_singleton.2 rfl)) (by simp [setR]) rfl (fun _ _ => rfl) (fun i hi => by simp [setR, hi]) (fun i hi => by simp [setR, hi])
    ⟨[], by simp [setR], by simpa [setR] using World.ownsRow_nil w 0 e k, .nil, fun b hb => by simp [setR, Value.ownBlock] at hb⟩ (fun j oj b _ _ _ h => by simp [GObj.blk, setR, Value.ownBlock] at h)
  have hmap : ps.toArray.map (fun x => match x with | (i, x) => (i, a.eval x)) = (ps.map fun p => (p.1, a.eval p.2)).toArray := by simp
  unfold Oper.wp execOp
  simp only [ho, hmap, Sem.run_bind, e1, Result.andThen_ok, Sem.run_pure]
  refine ⟨_, _, rfl, h1, .ag ?_ e3, h2⟩
  have e4 := e2.mono h1 fun _ _ => trivial
  obtain ⟨v, q1, q2⟩ := reps_at e2 hi
  have hv := rep_vle q2
  subst hv
  have := e4.set (t := .stk c 0 .all) (v := .slice none 0 0) (.stk rfl (by simp [setR]) fun _ => by simp [setR, stkV]) i
  have e5 : cs.set i (.slice none 0 0) = cs := by
    obtain ⟨hlt, he⟩ := List.getElem?_eq_some_iff.1 q1
    rw [← he]; exact List.set_getElem_self hlt
  rwa [e5] at this
theorem t_boxT {e c : Nat} {x : Operand} {l : List T} (ho : o.op = .box e x) (hx : opT σ x = .ag l) : Tri P o σ [(c, .vac)] (.ref c 0) [(c, .cells e l)] := by
  intro Γ g objs a w Q hr hp hw
  have e1 := rep_op hr (x := x) (by rw [ho]; simp [Op.operands])
  rw [hx] at e1
  generalize hy : a.eval x = y at e1
  cases e1 with
  | @ag _ vs h1 h2 =>
    unfold Oper.wp execOp
    have hrun : (Instr.box e (.agg vs.toArray)).run P w = .ok (.pointer (some ⟨w.heap.size, 0, none⟩)) (w.alloc (.cells vs.toArray e)) := by
      unfold Instr.box
      simp only [newVar, newRow, newObj, Sem.run_bind, Sem.run, Result.andThen_ok, Sem.run_pure, Value.cells]
      rfl
    simp only [ho, hy, Sem.run_bind, hrun, Result.andThen_ok, Sem.run_pure]
    obtain ⟨k1, k2⟩ := hw.alloc_cells (e := e) (hp _ (List.mem_singleton.2 rfl)) h1 h2
    refine ⟨_, _, rfl, k1, ?_, k2⟩
    have := RepT.ref (g := setC g c w.heap.size) (id := c) (off := 0) (by simp [setC])
    simpa [setC] using this
theorem t_boxC {e c : Nat} {x : Operand} {l : List T} (ho : o.op = .box e x) (hx : (opT σ x).cv = some l) : Tri P o σ [(c, .vac)] (.ref c 0) [(c, .cells e l)] := by
  intro Γ g objs a w Q hr hp hw
  have e1 := rep_op hr (x := x) (by rw [ho]; simp [Op.operands])
  obtain ⟨h1, h2⟩ := cv_spec hx e1
  unfold Oper.wp execOp
  have hrun : (Instr.box e (a.eval x)).run P w = .ok (.pointer (some ⟨w.heap.size, 0, none⟩)) (w.alloc (.cells (a.eval x).cells.toList.toArray e)) := by
    unfold Instr.box
    simp only [newVar, newRow, newObj, Sem.run_bind, Sem.run, Result.andThen_ok, Sem.run_pure, Array.toArray_toList]
    rfl
  simp only [ho, Sem.run_bind, hrun, Result.andThen_ok, Sem.run_pure]
  obtain ⟨k1, k2⟩ := hw.alloc_cells (e := e) (hp _ (List.mem_singleton.2 rfl)) h1 h2
  refine ⟨_, _, rfl, k1, ?_, k2⟩
  have := RepT.ref (g := setC g c w.heap.size) (id := c) (off := 0) (by simp [setC])
  simpa [setC] using this
/-! ### Rows of rows -/
theorem RepG.len {w : World} {S : Sm} {e : TypeId} : ∀ {rows : List (List D)} {vs : List Value}, RepG w S e rows vs → vs.length = rows.length
  | _, _, .nil => rfl
  | _, _, .cons _ _ ht => by rw [List.length_cons, List.length_cons, ht.len]
theorem RepG.at_ {w : World} {S : Sm} {e : TypeId} : ∀ {rows : List (List D)} {vs : List Value}, RepG w S e rows vs → ∀ {j : Nat} {l : List D}, rows[j]? = some l → ∃ v xs, vs[j]? = some v ∧ w.ownsRow 0 e 1 v l.length xs ∧ RepLv S 1 l xs
  | _, _, .nil, j, l, h => by simp at h
  | _, _, .cons ho hl ht, 0, l, h => by simp at h; subst h; exact ⟨_, _, rfl, ho, hl⟩
  | _, _, .cons ho hl ht, j + 1, l, h => by simpa using ht.at_ (by simpa using h)
theorem RepG.set {w : World} {S : Sm} {e : TypeId} {l : List D} {v : Value} {xs : List Value} (ho : w.ownsRow 0 e 1 v l.length xs) (hl : RepLv S 1 l xs) : ∀ {rows : List (List D)} {vs : List Value}, RepG w S e rows vs → ∀ j, RepG w S e (rows.set j l) (vs.set j v)
  | _, _, .nil, _ => RepG.nil
  | _, _, .cons _ _ c, 0 => RepG.cons ho hl c
  | _, _, .cons a b c, j + 1 => RepG.cons a b (RepG.set ho hl c j)
theorem repG_nils (w : World) (S : Sm) (e : TypeId) : ∀ n, RepG w S e (List.replicate n []) (List.replicate n (.slice none 0 0))
  | 0 => .nil
  | n + 1 => by rw [List.replicate_succ, List.replicate_succ]; exact .cons (World.ownsRow_nil w 0 e 1) .nil (repG_nils w S e n)
theorem apart_set {vs : List Value} (h : vs.Pairwise Apart2) {v : Value} (hv : ∀ u ∈ vs, ∀ b, v.ownBlock = some b → u.ownBlock ≠ some b) (j : Nat) : (vs.set j v).Pairwise Apart2 := by
  induction vs generalizing j with
  | nil => exact List.Pairwise.nil
  | cons x xs ih =>
    rw [List.pairwise_cons] at h
    cases j with
    | zero =>
      rw [List.set_cons_zero, List.pairwise_cons]
      exact ⟨fun u hu b hb => hv u (by simp [hu]) b hb, h.2⟩
    | succ j =>
      rw [List.set_cons_succ, List.pairwise_cons]
      refine ⟨fun u hu b hb => ?_, ih h.2 (fun u hu => hv u (by simp [hu])) j⟩
      rcases List.mem_or_eq_of_mem_set hu with hu | rfl
      · exact h.1 u hu b hb
      · exact fun e1 => hv x (by simp) b e1 hb
def setG (g : Gh) (c b : Nat) (v : Value) : Gh := ⟨g.S, fun i => if i = c then b else g.blk i, fun i => if i = c then v else g.row i, fun i => if i = c then 1 else g.len i⟩
theorem t_makegrid {t eo e c n : Nat} {x y : Operand} {k1 k2 : IntKind} (ho : o.op = .makeSlice t x y) (hT : mkT? P t = some (eo, .slice none 0 0)) (hx : opT σ x = .d (.v (.int k1 n))) (hy : opT σ y = .d (.v (.int k2 n))) (hn : n ≤ 10000000) :
    Tri P o σ [(c, .vac)] (.mrow c n) [(c, .grid eo e 0 (List.replicate n []))] := by
  intro Γ g objs a w Q hr hp hw
  have e1 := rep_op hr (x := x) (by rw [ho]; simp [Op.operands])
  have e2 := rep_op hr (x := y) (by rw [ho]; simp [Op.operands])
  rw [hx] at e1
  rw [hy] at e2
  have hc := hp _ (List.mem_singleton.2 rfl)
  have hnil : ∀ v ∈ List.replicate n (Value.slice none 0 0), v.ownBlock = none := fun v hv => by rw [List.eq_of_mem_replicate hv]; rfl
  have hob : ObjAt Γ (setG g c w.heap.size (.tuple (List.replicate n (.slice none 0 0)).toArray)) (w.alloc (.cells (List.replicate n (.slice none 0 0)).toArray eo)) c (.grid eo e 0 (List.replicate n [])) := by
    refine ⟨List.replicate n (.slice none 0 0), by simp [setG], ?_, ?_, by simp [setG], repG_nils _ _ _ n, fun o => ?_, fun v hv b hb => ?_, ?_⟩
    · simp only [setG, if_true]; exact .inl hw.fr.size
    · simp only [setG, if_true]; exact (Go.MapKept.heap_alloc w _).1
    · simp only [setG, if_true]; exact S_new hw o
    · rw [hnil v hv] at hb; cases hb
    · rw [List.pairwise_replicate]
      exact .inr fun b hb => by cases hb
  obtain ⟨k1, k2⟩ := (hw.alloc (.cells (List.replicate n (.slice none 0 0)).toArray eo)).turn (g' := setG g c w.heap.size (.tuple (List.replicate n (.slice none 0 0)).toArray)) hc (by simp [setG]) rfl (fun i hi => by simp [setG, hi]) (fun i hi => by simp [setG, hi]) (fun i hi => by simp [setG, hi]) hob (fun j oj b _ h2 h3 h4 => by
    have hlt := hw.blk_lt h2 h3
    simp only [GObj.blk, setG, if_true] at h4
    rcases h4 with h4 | ⟨v, hv, h4⟩
    · omega
    · rw [hnil v (by simpa [rowsOf] using hv)] at h4; cases h4)
  unfold Oper.wp execOp
  simp only [ho, inv_v e1, inv_v e2, run_made hT w n hn, Sem.run_bind, Result.andThen_ok, Sem.run_pure]
  refine ⟨_, _, rfl, k1, ?_, k2⟩
  have : RepT (setG g c w.heap.size (.tuple (List.replicate n (.slice none 0 0)).toArray)) (.mrow c n) (.slice (some ⟨(setG g c w.heap.size (.tuple (List.replicate n (.slice none 0 0)).toArray)).blk c, 0, none⟩) n n) := .mrow (by simp [setG]) (Nat.le_refl _) (by omega)
  simpa [setG] using this
theorem t_mrow_addr {t e k n j id : Nat} {x i : Operand} {kd : IntKind} (ho : o.op = .indexAddr t x i) (ht : elemOf? P t = some (e, k)) (hx : opT σ x = .mrow id n) (hi : opT σ i = .d (.v (.int kd j))) (hj : j < n) : Tri P o σ [] (.ref id (j * k)) [] :=
  .val fun Γ g objs ac w hrp hp hw => by
    have e1 := hrp x (by rw [ho]; simp [Op.operands])
    have e2 := hrp i (by rw [ho]; simp [Op.operands])
    rw [hx] at e1
    rw [hi] at e2
    obtain ⟨hu, inf, hinf, hsz⟩ := elem_spec ht
    generalize he : ac.eval x = y at e1
    cases e1 with
    | mrow h1 h2 h3 =>
      refine ⟨.pointer (some ⟨g.blk id, j * k, none⟩), ?_, .ref h1⟩
      unfold execOp; rw [ho]
      simp [Instr.indexAt, he, inv_v e2, asIntOf, run_underlying hu, hj, Instr.sureAddr, sizeOf, typeInfo, hinf, hsz, add_lit']
theorem t_mrow_len {t e k n id : Nat} {x : Operand} (ho : o.op = .call { callee := .builtin .len, args := #[x], argTypes := #[t] }) (ht : elemOf? P t = some (e, k)) (hx : opT σ x = .mrow id n) : Tri P o σ [] (.d (.v (.int .i64 n))) [] :=
  .val fun Γ g objs ac w hrp hp hw => by
    have e1 := hrp x (by rw [ho]; simp [Op.operands, Call.operands])
    rw [hx] at e1
    obtain ⟨hu, inf, hinf, hsz⟩ := elem_spec ht
    generalize he : ac.eval x = y at e1
    cases e1 with
    | mrow h1 h2 h3 =>
      refine ⟨.int .i64 n, ?_, rep_v rfl⟩
      unfold execOp; rw [ho]
      simp [resolve, invoke, builtin, Builtin.len_, he, run_underlying hu, goInt]
theorem grid_row {g : Gh} {w : World} {id j ver eo e : Nat} {rows : List (List D)} {l : List D} (hob : ObjAt Γ g w id (.grid eo e ver rows)) (hl : rows[j]? = some l) :
    ∃ (v : Value) (xs : List Value), stkV (g.row id) (.row j) = v ∧ w.ownsRow 0 e 1 v l.length xs ∧ RepLv g.S 1 l xs ∧ (∃ vs : List Value, vs[j]? = some v ∧ w.heap[g.blk id]? = some (.cells vs.toArray eo (0, 0)) ∧ g.row id = .tuple vs.toArray) := by
  obtain ⟨vs, a0, a1, a2, a3, a4, -⟩ := hob
  obtain ⟨v, xs, h1, h2, h3⟩ := a4.at_ hl
  exact ⟨v, xs, by rw [a3]; simp [stkV, rowsOf, h1], h2, h3, vs, h1, a2, a3⟩
theorem own_one {w : World} {e k n : Nat} {v : Value} {xs : List Value} (h : w.ownsRow 0 e k v n xs) : v.oneCell' = true := by
  rcases h.2 with ⟨e1, -⟩ | ⟨gb, cap, cur, e1, -⟩ <;> rw [e1] <;> rfl
theorem t_grid_load {t m id j ver eo e : Nat} {x : Operand} {rows : List (List D)} {l : List D} (ho : o.op = .load t x) (ht : aggOf? P t = some (false, m)) (hx : opT σ x = .ref id j) (hl : rows[j]? = some l) :
    Tri P o σ [(id, .grid eo e ver rows)] (.stk id ver (.row j)) [] :=
  .val fun Γ g objs ac w hrp hp hw => by
    have e1 := hrp x (by rw [ho]; simp [Op.operands])
    rw [hx] at e1
    have hob := hw.obj id _ (hp _ (List.mem_singleton.2 rfl))
    obtain ⟨v, xs, h1, h2, h3, vs, h4, h5, h6⟩ := grid_row hob hl
    obtain ⟨vs', a0, -⟩ := hob
    generalize he : ac.eval x = y at e1
    cases e1 with
    | ref ha =>
      have hc : w.cell? ⟨g.blk id, j, none⟩ = some v := by
        unfold World.cell?
        dsimp only
        rw [h5]
        simpa using h4
      exact ⟨v, by unfold execOp; rw [ho]; simp [he, load_run ht hc], .stk (own_one h2) (by omega) fun _ => h1.symm⟩
theorem t_row_len {t e' k id j ver eo e : Nat} {x : Operand} {rows : List (List D)} {l : List D} (ho : o.op = .call { callee := .builtin .len, args := #[x], argTypes := #[t] }) (ht : elemOf? P t = some (e', k)) (hx : opT σ x = .stk id ver (.row j)) (hl : rows[j]? = some l) :
    Tri P o σ [(id, .grid eo e ver rows)] (.d (.v (.int .i64 l.length))) [] :=
  .val fun Γ g objs ac w hrp hp hw => by
    have e1 := hrp x (by rw [ho]; simp [Op.operands, Call.operands])
    rw [hx] at e1
    have hob := hw.obj id _ (hp _ (List.mem_singleton.2 rfl))
    obtain ⟨v, xs, h1, h2, -⟩ := grid_row hob hl
    obtain ⟨vs', a0, -⟩ := hob
    obtain ⟨hu, inf, hinf, hsz⟩ := elem_spec ht
    generalize he : ac.eval x = y at e1
    cases e1 with
    | stk q1 q2 q3 =>
      have hy : y = v := (q3 a0).trans h1
      obtain ⟨p, cap, hv, -⟩ := own_take h2 (Nat.le_refl _)
      refine ⟨.int .i64 l.length, ?_, rep_v rfl⟩
      unfold execOp; rw [ho]
      simp [resolve, invoke, builtin, Builtin.len_, he, hy, hv, run_underlying hu, goInt]
theorem t_row_addr {t e' id j t0 ver eo e : Nat} {x i : Operand} {kd : IntKind} {rows : List (List D)} {l : List D} (ho : o.op = .indexAddr t x i) (ht : elemOf? P t = some (e', 1)) (hx : opT σ x = .stk id ver (.row j)) (hi : opT σ i = .d (.v (.int kd t0))) (hl : rows[j]? = some l) (ht0 : t0 < l.length) :
    Tri P o σ [(id, .grid eo e ver rows)] (.stk id ver (.cell j t0)) [] :=
  .val fun Γ g objs ac w hrp hp hw => by
    have e1 := hrp x (by rw [ho]; simp [Op.operands])
    have e2 := hrp i (by rw [ho]; simp [Op.operands])
    rw [hx] at e1
    rw [hi] at e2
    have hob := hw.obj id _ (hp _ (List.mem_singleton.2 rfl))
    obtain ⟨v, xs, h1, h2, -⟩ := grid_row hob hl
    obtain ⟨vs', a0, -⟩ := hob
    obtain ⟨hu, inf, hinf, hsz⟩ := elem_spec ht
    generalize he : ac.eval x = y at e1
    cases e1 with
    | stk q1 q2 q3 =>
      have hy : y = v := (q3 a0).trans h1
      rcases h2.2 with ⟨c1, c2⟩ | ⟨gb, cap, cur, c1, -⟩
      · omega
      · refine ⟨.pointer (some ⟨gb, t0, none⟩), ?_, .stk rfl (by omega) fun _ => ?_⟩
        · unfold execOp; rw [ho]
          simp [Instr.indexAt, he, hy, c1, inv_v e2, asIntOf, run_underlying hu, ht0, Instr.sureAddr, sizeOf, typeInfo, hinf, hsz, add_lit']
        · have h1' : (rowsOf (g.row id)).getD j undef = v := h1
          show _ = ptrV ((rowsOf (g.row id)).getD j undef) t0
          rw [h1', c1]; rfl
theorem t_cell_load {t id j t0 ver eo e : Nat} {x : Operand} {rows : List (List D)} {l : List D} {d : D} (ho : o.op = .load t x) (ht : aggOf? P t = some (false, 1)) (hx : opT σ x = .stk id ver (.cell j t0)) (hl : rows[j]? = some l) (hd : l[t0]? = some d) (hlv : d.lv = [d]) :
    Tri P o σ [(id, .grid eo e ver rows)] (.d d) [] :=
  .val fun Γ g objs ac w hrp hp hw => by
    have e1 := hrp x (by rw [ho]; simp [Op.operands])
    rw [hx] at e1
    have hob := hw.obj id _ (hp _ (List.mem_singleton.2 rfl))
    obtain ⟨v, xs, h1, h2, h3, -⟩ := grid_row hob hl
    obtain ⟨vs', a0, -⟩ := hob
    have hj := (List.getElem?_eq_some_iff.1 hd).1
    have hr := h3.at_ hd
    rw [hlv, Nat.mul_one] at hr
    generalize hq : (xs.drop t0).take 1 = q at hr
    generalize he : ac.eval x = y at e1
    cases e1 with
    | stk q1 q2 q3 =>
      have hy := q3 a0
      have h1' : (rowsOf (g.row id)).getD j undef = v := h1
      rcases h2.2 with ⟨c1, c2⟩ | ⟨gb, cap, cur, c1, -⟩
      · omega
      · have hy : y = .pointer (some ⟨gb, t0, none⟩) := by
          rw [hy]; show ptrV ((rowsOf (g.row id)).getD j undef) t0 = _
          rw [h1', c1]; rfl
        cases hr with
        | @cons _ _ u us hu hone ht2 =>
          have hxj : xs[t0]? = some u := by
            have := congrArg (fun z => z[0]?) hq
            simpa [List.getElem?_take, List.getElem?_drop] using this
          have hc := own_get h2 (b := gb) (by rw [c1]; rfl) hxj
          exact ⟨u, by unfold execOp; rw [ho]; simp [he, hy, load_run ht hc], .d hu⟩
/-! ### Stores into them -/
theorem RepLv.set1 {S : Sm} {d : D} {u : Value} (hd : RepDs S d.lv [u]) : ∀ {l : List D} {xs : List Value}, RepLv S 1 l xs → ∀ t, RepLv S 1 (l.set t d) (xs.set t u)
  | _, _, .nil, t => by simpa using RepLv.nil
  | _, _, @RepLv.cons _ _ x l xs ys h hk ht, 0 => by
    match xs, hk with
    | [a], _ => exact RepLv.cons (xs := [u]) hd rfl ht
  | _, _, @RepLv.cons _ _ x l xs ys h hk ht, t + 1 => by
    match xs, hk with
    | [a], _ => exact RepLv.cons (xs := [a]) h rfl (RepLv.set1 hd ht t)
theorem set_parts {α : Type} (l : List α) (i : Nat) (u : α) (h : i < l.length) : l.take i ++ [u] ++ l.drop (i + 1) = l.set i u := by
  rw [List.set_eq_take_append_cons_drop, if_pos h]; simp
theorem own_put {w w' : World} {e n cap gb : Nat} {cur : Array Value} {xs : List Value} {i : Nat} {u : Value} (h : w.ownsRow 0 e 1 (.slice (some ⟨gb, 0, none⟩) n cap) n xs) (hc : w.heap[gb]? = some (.cells cur e (0, 0))) (hi : i < n)
    (h' : w'.heap[gb]? = some (.cells (cur.toList.take (0 + i) ++ [u] ++ cur.toList.drop (0 + i + 1)).toArray e (0, 0))) : w'.ownsRow 0 e 1 (.slice (some ⟨gb, 0, none⟩) n cap) n (xs.set i u) := by
  obtain ⟨h1, h2⟩ := h
  refine ⟨by rw [List.length_set]; exact h1, .inr ?_⟩
  rcases h2 with ⟨c1, -⟩ | ⟨gb', cap', cur', c1, c2, c3, c4, c5, c6, c7⟩
  · cases c1
  · simp only [Value.slice.injEq, Option.some.injEq, Addr.mk.injEq, and_true, true_and] at c1
    obtain ⟨rfl, rfl⟩ := c1
    rw [hc] at c3
    cases c3
    have hlen : i < cur.toList.length := by rw [Array.length_toList, c6]; omega
    rw [Nat.zero_add, set_parts _ _ _ hlen] at h'
    refine ⟨gb, cap, _, rfl, c2, h', c4, c5, by simpa using c6, ?_⟩
    rw [← c7, Nat.mul_one, List.take_set]
theorem RepG.upd {w w' : World} {S : Sm} {e gb : Nat} {v : Value} {l' : List D} {xs' : List Value} (hv : v.ownBlock = some gb) (hg : w.grownBy w' (some gb)) (ho : w'.ownsRow 0 e 1 v l'.length xs') (hl : RepLv S 1 l' xs') :
    ∀ {rows : List (List D)} {vs : List Value}, RepG w S e rows vs → (∀ u ∈ vs, ∀ b, u.ownBlock = some b → b < w.heap.size) → vs.Pairwise Apart2 → ∀ {j : Nat}, vs[j]? = some v → RepG w' S e (rows.set j l') vs
  | _, _, .nil, _, _, j, h => by simp at h
  | _, _, @RepG.cons _ _ _ _ _ v0 rows vs a b c, hlt, hp, 0, h => by
    simp at h; subst h
    rw [List.pairwise_cons] at hp
    rw [List.set_cons_zero]
    exact .cons ho hl (c.same (SLe.refl _) fun u hu bb hb => hg.block bb (hlt u (by simp [hu]) bb hb) fun e1 => hp.1 u hu gb hv (by rw [hb]; exact e1))
  | _, _, @RepG.cons _ _ _ _ _ v0 rows vs a b c, hlt, hp, j + 1, h => by
    rw [List.pairwise_cons] at hp
    rw [List.set_cons_succ]
    refine .cons (own_same a fun bb hb => hg.block bb (hlt v0 (by simp) bb hb) fun e1 => ?_) b (RepG.upd hv hg ho hl c (fun u hu => hlt u (by simp [hu])) hp.2 (by simpa using h))
    have hm : v ∈ vs := List.mem_of_getElem? (by simpa using h)
    exact hp.1 v hm bb hb (by rw [hv]; exact e1.symm)
theorem t_cell_store {t : TypeId} {bb : Bool} {id j t0 ver eo e : Nat} {x v : Operand} {rows : List (List D)} {l : List D} {d : D} (ho : o.op = .store t x v) (ht : aggOf? P t = some (bb, 1)) (hx : opT σ x = .stk id ver (.cell j t0)) (hv : TLe (opT σ v) (.d d)) (hl : rows[j]? = some l) (ht0 : t0 < l.length) (hlv : d.lv = [d]) :
    Tri P o σ [(id, .grid eo e ver rows)] .und [(id, .grid eo e ver (rows.set j (l.set t0 d)))] := by
  intro Γ g objs a w Q hr hp hw
  have e1 := rep_op hr (x := x) (by rw [ho]; simp [Op.operands])
  have e2 := hv g _ (rep_op hr (x := v) (by rw [ho]; simp [Op.operands]))
  rw [hx] at e1
  have hid := hp _ (List.mem_singleton.2 rfl)
  have hob := hw.obj id _ hid
  obtain ⟨rv, xs, h1, h2, h3, vs1, h4, h5, h6⟩ := grid_row hob hl
  obtain ⟨vs, a0, a1, a2, a3, a4, a5, a6, a7⟩ := hob
  have hvs : vs1 = vs := by rw [a3] at h6; simpa using h6.symm
  subst hvs
  generalize hy2 : a.eval v = y2 at e2
  cases e2 with
  | d e2 =>
  have hcs := rep_cells e2
  rw [hlv] at hcs
  obtain ⟨u, hu, hur⟩ : ∃ u, y2.cells.toList = [u] ∧ RepDs g.S [d] [u] := by
    generalize y2.cells.toList = zs at hcs
    cases hcs with
    | @cons _ _ u us q1 q2 q3 => cases q3; exact ⟨u, rfl, .cons q1 q2 .nil⟩
  have hu1 : u.oneCell' = true := hur.one u (by simp)
  have hmem : rv ∈ vs1 := List.mem_of_getElem? h4
  generalize hy : a.eval x = y at e1
  cases e1 with
  | stk q1 q2 q3 =>
    have hyv := q3 a0
    have h1' : (rowsOf (g.row id)).getD j undef = rv := h1
    rcases h2.2 with ⟨c1, c2⟩ | ⟨gb, cap, cur, c1, c2, c3, c4, c5, c6, c7⟩
    · omega
    · have hyv : y = .pointer (some ⟨gb, t0, none⟩) := by
        rw [hyv]; show ptrV ((rowsOf (g.row id)).getD j undef) t0 = _
        rw [h1', c1]; rfl
      have hob' : rv.ownBlock = some gb := by rw [c1]; rfl
      obtain ⟨w', r1, r2, r3, -⟩ := store_run (P := P) (b := gb) (off := t0) (e := e) [u] 0 w cur.toList (by simpa using c3) (by have e3 : cur.toList.length = cur.size := Array.length_toList; rw [e3, c6]; simp only [List.length_singleton]; omega) (by simpa using hu1)
      have hrun : (Instr.storeAt t (.pointer (some ⟨gb, t0, none⟩)) y2).run P w = .ok () w' := by
        have hsz : y2.cells.size = 1 := by rw [← Array.length_toList, hu]; rfl
        simp only [Instr.storeAt, Instr.sureAddr, storeVar, Sem.run_bind, Sem.run_pure, Result.andThen_ok, (agg_spec ht w).2, hsz, ne_eq, not_true_eq_false, if_false, hu, r1]
      unfold Oper.wp execOp
      simp only [ho, hy, hy2, hyv, Sem.run_bind, hrun, Result.andThen_ok, Sem.run_pure]
      have hown : w'.ownsRow 0 e 1 rv (l.set t0 d).length (xs.set t0 u) := by
        rw [List.length_set]
        rw [c1] at h2 ⊢
        exact own_put h2 c3 ht0 (by rw [Nat.add_zero] at r2; rw [Nat.zero_add]; simpa using r2)
      have hnew := a4.upd hob' r3 hown (h3.set1 (by rw [hlv]; exact hur) t0) (a4.lt) a7 h4
      refine ⟨g, undef, rfl, GLe.refl _ _, .und, hw.touch hid r3 (.inr ⟨rv, by rw [a3]; simpa [rowsOf] using hmem, hob'⟩) ((a6 rv hmem gb hob').2.2) ⟨vs1, a0, a1, ?_, a3, hnew, a5, a6, a7⟩ fun b hb => hb⟩
      have hlt : g.blk id < w.heap.size := (Array.getElem?_eq_some_iff.1 a2).1
      rw [r3.block _ hlt fun e3 => (a6 rv hmem gb hob').2.1 (by simpa using e3.symm)]
      exact a2
theorem t_stk_store {t : TypeId} {bb : Bool} {id j ver e : Nat} {x v : Operand} {l : List D} {d : D} (ho : o.op = .store t x v) (ht : aggOf? P t = some (bb, 1)) (hx : opT σ x = .stk id ver (.el j)) (hv : TLe (opT σ v) (.d d)) (hj : j < l.length) (hlv : d.lv = [d]) :
    Tri P o σ [(id, .stk e 1 ver l)] .und [(id, .stk e 1 ver (l.set j d))] := by
  intro Γ g objs a w Q hr hp hw
  have e1 := rep_op hr (x := x) (by rw [ho]; simp [Op.operands])
  have e2 := hv g _ (rep_op hr (x := v) (by rw [ho]; simp [Op.operands]))
  rw [hx] at e1
  have hid := hp _ (List.mem_singleton.2 rfl)
  obtain ⟨xs, hlen, hown, hrep, hS⟩ := hw.obj id _ hid
  generalize hy2 : a.eval v = y2 at e2
  cases e2 with
  | d e2 =>
  have hcs := rep_cells e2
  rw [hlv] at hcs
  obtain ⟨u, hu, hur⟩ : ∃ u, y2.cells.toList = [u] ∧ RepDs g.S [d] [u] := by
    generalize y2.cells.toList = zs at hcs
    cases hcs with
    | @cons _ _ u us q1 q2 q3 => cases q3; exact ⟨u, rfl, .cons q1 q2 .nil⟩
  have hu1 : u.oneCell' = true := hur.one u (by simp)
  generalize hy : a.eval x = y at e1
  cases e1 with
  | stk q1 q2 q3 =>
    have hyv := q3 hlen
    rcases hown.2 with ⟨c1, c2⟩ | ⟨gb, cap, cur, c1, c2, c3, c4, c5, c6, c7⟩
    · omega
    · have hyv : y = .pointer (some ⟨gb, j, none⟩) := by rw [hyv, c1]; rfl
      have hob' : (g.row id).ownBlock = some gb := by rw [c1]; rfl
      obtain ⟨w', r1, r2, r3, -⟩ := store_run (P := P) (b := gb) (off := j) (e := e) [u] 0 w cur.toList (by simpa using c3) (by have e3 : cur.toList.length = cur.size := Array.length_toList; rw [e3, c6]; simp only [List.length_singleton]; omega) (by simpa using hu1)
      have hrun : (Instr.storeAt t (.pointer (some ⟨gb, j, none⟩)) y2).run P w = .ok () w' := by
        have hsz : y2.cells.size = 1 := by rw [← Array.length_toList, hu]; rfl
        simp only [Instr.storeAt, Instr.sureAddr, storeVar, Sem.run_bind, Sem.run_pure, Result.andThen_ok, (agg_spec ht w).2, hsz, ne_eq, not_true_eq_false, if_false, hu, r1]
      unfold Oper.wp execOp
      simp only [ho, hy, hy2, hyv, Sem.run_bind, hrun, Result.andThen_ok, Sem.run_pure]
      have hown2 : w'.ownsRow 0 e 1 (g.row id) (l.set j d).length (xs.set j u) := by
        rw [List.length_set]
        rw [c1] at hown ⊢
        exact own_put hown c3 hj (by rw [Nat.add_zero] at r2; rw [Nat.zero_add]; simpa using r2)
      exact ⟨g, undef, rfl, GLe.refl _ _, .und, hw.touch hid r3 hob' (hS gb hob').2 ⟨xs.set j u, hlen, hown2, hrep.set1 (by rw [hlv]; exact hur) j, hS⟩ fun b hb => hb⟩
theorem two_lookup {i c j : Nat} {a b : GObj} (hic : i ≠ c) : ([(i, a), (c, b)] : List (Nat × GObj)).lookup j = if j = i then some a else if j = c then some b else none := by
  by_cases h1 : j = i
  · subst h1; simp
  · have e1 : (j == i) = false := by simpa using h1
    by_cases h2 : j = c
    · subst h2; simp [List.lookup, e1, h1]
    · have e2 : (j == c) = false := by simpa using h2
      simp [List.lookup, e1, e2, h1, h2]
theorem WI.two {g g' : Gh} {w w' : World} {i c : Nat} {a b oi oc : GObj} {b0 : Option Nat} (hw : WI Γ g objs w) (hic : i ≠ c) (hi : objs i = some oi) (hc : objs c = some oc) (hS : g'.S = g.S) (hle : GLe (fun _ => True) g g') (hout : ∀ j, j ≠ i → j ≠ c → g'.blk j = g.blk j ∧ g'.row j = g.row j ∧ g'.len j = g.len j)
    (hg : w.grownBy w' b0) (hb0 : ∀ b, b0 = some b → oi.blk g i b ∧ ∀ o, g.S b o = none) (ha : ObjAt Γ g' w' i a) (hb : ObjAt Γ g' w' c b) (hsa : ∀ k, a.blk g' i k → oi.blk g i k ∨ oc.blk g c k) (hsb : ∀ k, b.blk g' c k → oi.blk g i k ∨ oc.blk g c k) (hin : ∀ k, a.blk g' i k → ¬ b.blk g' c k) :
    WI Γ g' (ovr objs [(i, a), (c, b)]) w' := by
  have hl := fun j => two_lookup (j := j) (a := a) (b := b) hic
  have hs : ∀ k, (oi.blk g i k ∨ oc.blk g c k) → ∃ j oj, (([(i, a), (c, b)] : List (Nat × GObj)).lookup j).isSome = true ∧ objs j = some oj ∧ oj.blk g j k := fun k h => by
    rcases h with h | h
    · exact ⟨i, oi, by rw [hl, if_pos rfl]; rfl, hi, h⟩
    · exact ⟨c, oc, by rw [hl, if_neg (Ne.symm hic), if_pos rfl]; rfl, hc, h⟩
  refine hw.re hS hle (fun j hj => ?_) hg (fun k hk => ⟨?_, (hb0 k hk).2⟩) (fun j ob hj => ?_) (fun j ob k hj hk => ?_) (fun j j' oj oj' k hj hj' hk hk' => ?_)
  · rw [hl] at hj
    by_cases h1 : j = i
    · rw [if_pos h1] at hj; cases hj
    · rw [if_neg h1] at hj
      by_cases h2 : j = c
      · rw [if_pos h2] at hj; cases hj
      · exact hout j h1 h2
  · exact hs k (.inl (hb0 k hk).1)
  · rw [hl] at hj
    by_cases h1 : j = i
    · rw [if_pos h1] at hj; cases hj; subst h1; exact ha
    · rw [if_neg h1] at hj
      by_cases h2 : j = c
      · rw [if_pos h2] at hj; cases hj; subst h2; exact hb
      · rw [if_neg h2] at hj; cases hj
  · rw [hl] at hj
    by_cases h1 : j = i
    · rw [if_pos h1] at hj; cases hj; subst h1; exact hs k (hsa k hk)
    · rw [if_neg h1] at hj
      by_cases h2 : j = c
      · rw [if_pos h2] at hj; cases hj; subst h2; exact hs k (hsb k hk)
      · rw [if_neg h2] at hj; cases hj
  · rw [hl] at hj hj'
    by_cases h1 : j = i <;> by_cases h2 : j' = i
    · rw [h1, h2]
    · exfalso
      rw [if_pos h1] at hj; cases hj; subst h1
      rw [if_neg h2] at hj'
      by_cases h3 : j' = c
      · rw [if_pos h3] at hj'; cases hj'; subst h3; exact hin k hk hk'
      · rw [if_neg h3] at hj'; cases hj'
    · exfalso
      rw [if_pos h2] at hj'; cases hj'; subst h2
      rw [if_neg h1] at hj
      by_cases h3 : j = c
      · rw [if_pos h3] at hj; cases hj; subst h3; exact hin k hk' hk
      · rw [if_neg h3] at hj; cases hj
    · rw [if_neg h1] at hj
      rw [if_neg h2] at hj'
      by_cases h3 : j = c <;> by_cases h4 : j' = c
      · rw [h3, h4]
      · rw [if_neg h4] at hj'; cases hj'
      · rw [if_neg h3] at hj; cases hj
      · rw [if_neg h3] at hj; cases hj
theorem t_put_row {t : TypeId} {bb : Bool} {id c j ver v2 eo e : Nat} {x v : Operand} {rows : List (List D)} {l : List D} (ho : o.op = .store t x v) (ht : aggOf? P t = some (bb, 1)) (hx : opT σ x = .ref id j) (hv : opT σ v = .stk c v2 .all) (hj : j < rows.length) :
    Tri P o σ [(id, .grid eo e ver rows), (c, .stk e 1 v2 l)] .und [(id, .grid eo e (ver + 1) (rows.set j l)), (c, .gone)] := by
  intro Γ g objs a w Q hr hp hw
  have e1 := rep_op hr (x := x) (by rw [ho]; simp [Op.operands])
  have e2 := rep_op hr (x := v) (by rw [ho]; simp [Op.operands])
  rw [hx] at e1
  rw [hv] at e2
  have hid := hp (id, .grid eo e ver rows) (by simp)
  have hcc := hp (c, .stk e 1 v2 l) (by simp)
  have hne : id ≠ c := fun h => by rw [h] at hid; rw [hid] at hcc; cases hcc
  obtain ⟨vs, a0, a1, a2, a3, a4, a5, a6, a7⟩ := hw.obj id _ hid
  obtain ⟨xs, b0, b1, b2, b3⟩ := hw.obj c _ hcc
  have hlen := a4.len
  have hap : ∀ b, (g.row c).ownBlock = some b → ¬ (GObj.grid eo e ver rows).blk g id b := fun b hb hk => hne (hw.apart id c _ _ b hid hcc hk hb)
  generalize hy : a.eval x = y at e1
  generalize hy2 : a.eval v = y2 at e2
  cases e1 with
  | ref ha =>
  cases e2 with
  | stk q1 q2 q3 =>
    have hy2r : y2 = g.row c := q3 b0
    subst hy2r
    obtain ⟨w', r1, r2, r3, -⟩ := store_run (P := P) (b := g.blk id) (off := j) (e := eo) [g.row c] 0 w vs a2 (by rw [hlen]; simp; omega) (by simpa using q1)
    have hrun : (Instr.storeAt t (.pointer (some ⟨g.blk id, j, none⟩)) (g.row c)).run P w = .ok () w' := by
      have hcl := one_cells q1
      have hsz : (g.row c).cells.size = 1 := by rw [← Array.length_toList, hcl]; rfl
      simp only [Instr.storeAt, Instr.sureAddr, storeVar, Sem.run_bind, Sem.run_pure, Result.andThen_ok, (agg_spec ht w).2, hsz, ne_eq, not_true_eq_false, if_false, hcl, r1]
    unfold Oper.wp execOp
    simp only [ho, hy, hy2, Sem.run_bind, hrun, Result.andThen_ok, Sem.run_pure]
    rw [Nat.add_zero, List.length_singleton, set_parts _ _ _ (by rw [hlen]; exact hj)] at r2
    have hgone : ∀ b, b < w.heap.size → b ≠ g.blk id → w'.heap[b]? = w.heap[b]? := fun b hb hn => r3.block b hb fun e3 => hn (by simpa using e3)
    have hnew : RepG w' g.S e (rows.set j l) (vs.set j (g.row c)) := by
      refine RepG.set (own_same b1 fun b hb => hgone b (b1.lt b hb).2 fun e3 => hap b hb (.inl e3.symm)) b2 (a4.same (SLe.refl _) fun u hu b hb => hgone b (a4.lt u hu b hb) (a6 u hu b hb).2.1) j
    have hmem : ∀ u ∈ vs.set j (g.row c), u ∈ vs ∨ u = g.row c := fun u hu => List.mem_or_eq_of_mem_set hu
    refine ⟨setM g id (.tuple (vs.set j (g.row c)).toArray), undef, rfl, setM_le g id _, .und, hw.two (b0 := some (g.blk id)) hne hid hcc rfl (setM_le g id _) (fun k hk _ => by simp [setM, hk]) r3 (fun b hb => by cases hb; exact ⟨.inl rfl, a5⟩)
      ⟨vs.set j (g.row c), by simp [setM, a0], a1, r2, by simp [setM], hnew, a5, fun u hu b hb => ?_, apart_set a7 (fun u hu b hb hb' => hap b hb (.inr ⟨u, by rw [a3]; simpa [rowsOf] using hu, hb'⟩)) j⟩ trivial (fun k hk => ?_) (fun k hk => hk.elim) (fun k _ hk => hk)⟩
    · rcases hmem u hu with hu | rfl
      · exact a6 u hu b hb
      · exact ⟨(b3 b hb).1, fun e3 => hap b hb (.inl e3.symm), (b3 b hb).2⟩
    · rcases hk with hk | ⟨u, hu, hk⟩
      · exact .inl (.inl hk)
      · rcases hmem u (by simpa [setM, rowsOf] using hu) with hu | rfl
        · exact .inl (.inr ⟨u, by rw [a3]; simpa [rowsOf] using hu, hk⟩)
        · exact .inr hk
/-! ### Given for good -/
open Classical in
noncomputable def frzS (S : Sm) (w : World) (B : Nat → Prop) : Sm := fun b o => if B b then w.cell? ⟨b, o, none⟩ else S b o
theorem WI.freeze {g : Gh} {w : World} {id : Nat} {ob : GObj} (hw : WI Γ g objs w) (hid : objs id = some ob) (hS : ∀ b, ob.blk g id b → ∀ o, g.S b o = none) :
    GLe (fun _ => True) g ⟨frzS g.S w (ob.blk g id), g.blk, g.row, g.len⟩ ∧ WI Γ ⟨frzS g.S w (ob.blk g id), g.blk, g.row, g.len⟩ (ovr objs [(id, .gone)]) w := by
  have hle : GLe (fun _ => True) g ⟨frzS g.S w (ob.blk g id), g.blk, g.row, g.len⟩ := by
    refine ⟨fun b o x h => ?_, fun _ _ _ => rfl, fun _ _ => Nat.le_refl _, fun _ _ _ => rfl⟩
    show frzS g.S w (ob.blk g id) b o = some x
    unfold frzS
    split
    · next hb => rw [hS b hb o] at h; cases h
    · exact h
  have back : ∀ (i : Nat) (oi : GObj), ovr objs [(id, .gone)] i = some oi → (i = id ∧ oi = .gone) ∨ (i ≠ id ∧ objs i = some oi) := by
    intro i oi h
    by_cases hi : i = id
    · subst hi; left; simp [ovr] at h; exact ⟨rfl, h.symm⟩
    · have : (i == id) = false := by simpa using hi
      exact .inr ⟨hi, by simpa [ovr, List.lookup, this] using h⟩
  refine ⟨hle, ⟨fun b o x h => ?_, fun i oi hi => ?_, fun i j oi oj b h1 h2 h3 h4 => ?_, hw.fr, fun b o hb hx hnt => ?_, hw.ext.trans (hle.weak fun _ _ => trivial)⟩⟩
  · replace h : frzS g.S w (ob.blk g id) b o = some x := h
    unfold frzS at h
    split at h
    · exact h
    · exact hw.imm b o x h
  · rcases back i oi hi with ⟨rfl, rfl⟩ | ⟨hne, hi'⟩
    · trivial
    · have h3 := hw.obj i oi hi'
      refine h3.same hle rfl rfl rfl (fun _ _ => trivial) fun b hb => ⟨rfl, fun o => ?_⟩
      show frzS g.S w (ob.blk g id) b o = _
      unfold frzS
      rw [if_neg fun hk => hne (hw.apart i id oi ob b hi' hid hb hk)]
  · rcases back i oi h1 with ⟨rfl, rfl⟩ | ⟨hne, h1'⟩
    · exact h3.elim
    · rcases back j oj h2 with ⟨rfl, rfl⟩ | ⟨hne', h2'⟩
      · exact h4.elim
      · exact hw.apart i j oi oj b h1' h2' (by rw [← blk_same (g := g) (g' := ⟨frzS g.S w (ob.blk g id), g.blk, g.row, g.len⟩) rfl rfl oi]; exact h3) (by rw [← blk_same (g := g) (g' := ⟨frzS g.S w (ob.blk g id), g.blk, g.row, g.len⟩) rfl rfl oj]; exact h4)
  · show frzS g.S w (ob.blk g id) b o = _
    unfold frzS
    rw [if_neg fun hk => ?_]
    · exact hw.old b o hb hx hnt
    · rcases (hw.obj id ob hid).mine hk with h | h
      · omega
      · exact hx h
theorem own_rep' {w : World} {S : Sm} {e k : Nat} {v : Value} {l : List D} {xs : List Value} (h : w.ownsRow 0 e k v l.length xs) (hl : RepLv S k l xs) (hS : ∀ b, v.ownBlock = some b → ∀ o, o < xs.length → S b o = xs[o]?) : RepD S (.sl k l) v := by
  obtain ⟨p, c, rfl, h1, h2⟩ := own_slice h
  refine .sl hl ?_ h1 h2 fun hp => ?_
  · rcases h.2 with ⟨e1, e2⟩ | ⟨gb, cap, cur, e1, -⟩
    · have : xs = [] := List.eq_nil_of_length_eq_zero (by rw [h.1, e2]; simp)
      rw [this]; exact RowS.nil _ _
    · simp only [Value.slice.injEq, true_and] at e1
      obtain ⟨rfl, rfl⟩ := e1
      exact ⟨gb, 0, fun _ => rfl, fun i hi => by rw [Nat.zero_add]; exact hS gb rfl i hi⟩
  · rcases h.2 with ⟨e1, -⟩ | ⟨gb, cap, cur, e1, -⟩
    · simp only [Value.slice.injEq] at e1; exact e1.2.2
    · simp only [Value.slice.injEq] at e1; rw [e1.1] at hp; cases hp
theorem frz_row {g : Gh} {w : World} {B : Nat → Prop} {e k : Nat} {v : Value} {l : List D} {xs : List Value} (h : w.ownsRow 0 e k v l.length xs) (hl : RepLv g.S k l xs) (hS : SLe g.S (frzS g.S w B)) (hB : ∀ b, v.ownBlock = some b → B b) : RepD (frzS g.S w B) (.sl k l) v :=
  own_rep' h (hl.mono hS) fun b hb o ho => by
    unfold frzS
    rw [if_pos (hB b hb), own_get h hb (List.getElem?_eq_getElem ho), List.getElem?_eq_getElem ho]
theorem t_frz_stk {c ver e k : Nat} {x : Operand} {l : List D} (ho : o.op = .assign x ∨ o.op = .move x) (hx : opT σ x = .stk c ver .all) : Tri P o σ [(c, .stk e k ver l)] (.d (.sl k l)) [(c, .gone)] := by
  intro Γ g objs a w Q hr hp hw
  have e1 := rep_op hr (x := x) (by rcases ho with ho | ho <;> rw [ho] <;> simp [Op.operands])
  rw [hx] at e1
  have hid := hp _ (List.mem_singleton.2 rfl)
  obtain ⟨xs, b0, b1, b2, b3⟩ := hw.obj c _ hid
  obtain ⟨k1, k2⟩ := hw.freeze hid fun b hb => (b3 b hb).2
  generalize hy : a.eval x = y at e1
  cases e1 with
  | stk q1 q2 q3 =>
    have hyr : y = g.row c := q3 b0
    have hrun : (execOp a.eval o).run P w = .ok (.value (g.row c)) w := by
      unfold execOp
      rcases ho with ho | ho <;> rw [ho] <;> simp [hy, hyr]
    unfold Oper.wp
    rw [hrun]
    exact ⟨_, _, rfl, k1, .d (frz_row b1 b2 k1.S fun b hb => hb), k2⟩
theorem repG_rep {w : World} {g : Gh} {B : Nat → Prop} {e : Nat} (hS : SLe g.S (frzS g.S w B)) : ∀ {rows : List (List D)} {vs : List Value}, RepG w g.S e rows vs → (∀ v ∈ vs, ∀ b, v.ownBlock = some b → B b) → RepLv (frzS g.S w B) 1 (rows.map (.sl 1)) vs
  | _, _, .nil, _ => .nil
  | _, _, @RepG.cons _ _ _ l xs v rows vs a b c, h => RepLv.cons (d := .sl 1 l) (xs := [v]) (.cons (frz_row a b hS (h v (by simp))) (own_one a) .nil) rfl (repG_rep hS c fun u hu => h u (by simp [hu]))
theorem t_frz_grid {c n ver eo e : Nat} {x : Operand} {rows : List (List D)} (ho : o.op = .assign x ∨ o.op = .move x) (hx : opT σ x = .mrow c n) (hn : rows.length = n) : Tri P o σ [(c, .grid eo e ver rows)] (.d (.sl 1 (rows.map (.sl 1)))) [(c, .gone)] := by
  intro Γ g objs a w Q hr hp hw
  have e1 := rep_op hr (x := x) (by rcases ho with ho | ho <;> rw [ho] <;> simp [Op.operands])
  rw [hx] at e1
  have hid := hp _ (List.mem_singleton.2 rfl)
  obtain ⟨vs, a0, a1, a2, a3, a4, a5, a6, a7⟩ := hw.obj c _ hid
  obtain ⟨k1, k2⟩ := hw.freeze hid fun b hb o => by
    rcases hb with hb | ⟨v, hv, hb⟩
    · rw [← hb]; exact a5 o
    · rw [a3] at hv; exact (a6 v (by simpa [rowsOf] using hv) b hb).2.2 o
  have hlen := a4.len
  generalize hy : a.eval x = y at e1
  cases e1 with
  | @mrow _ _ cp q1 q2 q3 =>
    have hrun : (execOp a.eval o).run P w = .ok (.value (.slice (some ⟨g.blk c, 0, none⟩) n cp)) w := by
      unfold execOp
      rcases ho with ho | ho <;> rw [ho] <;> simp [hy]
    unfold Oper.wp
    rw [hrun]
    refine ⟨_, _, rfl, k1, .d ?_, k2⟩
    have hrep := repG_rep k1.S a4 (fun v hv b hb => .inr ⟨v, by rw [a3]; simpa [rowsOf] using hv, hb⟩)
    have := RepD.sl (p := some ⟨g.blk c, 0, none⟩) (cap := cp) hrep ⟨g.blk c, 0, fun _ => rfl, fun i hi => ?_⟩ (by simpa [hn] using q2) q3 (fun h => by cases h)
    · simpa [hn] using this
    · show frzS g.S w _ (g.blk c) (0 + i) = _
      unfold frzS
      rw [if_pos (.inl rfl), Nat.zero_add]
      unfold World.cell?
      dsimp only
      rw [a2]; simp
end
end Go.Proofs.YtngklbnodknadaaGreatDoor
end
