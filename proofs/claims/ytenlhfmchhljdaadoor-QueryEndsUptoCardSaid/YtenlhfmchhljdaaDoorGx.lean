/-
  Operations over ghost values: objects laid, read and written.
-/
import Derived.Test.YtenlhfmchhljdaaDoorGs
namespace Go.Proofs.YtenlhfmchhljdaaDoor
open Go.RowKit

section
variable {P : Program} {Γ : Cx} {o : Oper} {σ : Nat → T} {n : Nat} {objs : Objs} {Q : GPost}
/-- What was vacant becomes an object. -/
theorem WI.turn {g g' : Gh} {w : World} {c : Nat} {ob : GObj} (hw : WI Γ g objs w) (hc : objs c = some .vac) (h1 : 1 ≤ g'.len c) (hS : g'.S = g.S) (hb : ∀ i, i ≠ c → g'.blk i = g.blk i) (hr : ∀ i, i ≠ c → g'.row i = g.row i) (hl : ∀ i, i ≠ c → g'.len i = g.len i)
    (hob : ObjAt Γ g' w c ob) (hap : ∀ j oj b, j ≠ c → objs j = some oj → oj.blk g j b → ¬ ob.blk g' c b) : GLe (fun _ => True) g g' ∧ WI Γ g' (ovr objs [(c, ob)]) w := by
  have h0 : g.len c = 0 := hw.obj c _ hc
  have hle : GLe (fun _ => True) g g' := by
    refine ⟨by rw [hS]; exact SLe.refl _, fun i _ h2 => ?_, fun i _ => ?_, fun i _ h2 => ?_⟩ <;> by_cases e : i = c
    · subst e; omega
    · exact hb i e
    · subst e; omega
    · rw [hl i e]; exact Nat.le_refl _
    · subst e; omega
    · exact hr i e
  have hget : ∀ i, i ≠ c → ovr objs [(c, ob)] i = objs i := fun i hi => by
    have : (i == c) = false := by simpa using hi
    simp [ovr, List.lookup, this]
  have hself : ovr objs [(c, ob)] c = some ob := by simp [ovr]
  have hblk : ∀ (i : Nat) (oi : GObj), i ≠ c → oi.blk g' i = oi.blk g i := fun i oi hi => blk_same (hb i hi) (hr i hi) oi
  refine ⟨hle, fun b o x h => hw.imm b o x (by rw [← hS]; exact h), fun i oi hi => ?_, fun i j oi oj b h1 h2 h3 h4 => ?_, hw.fr, fun b o h1 h2 => by rw [hS]; exact hw.old b o h1 h2, hw.ext.trans (hle.weak fun _ _ => trivial)⟩
  · by_cases hic : i = c
    · subst hic
      rw [hself] at hi
      cases hi
      exact hob
    · rw [hget i hic] at hi
      exact (hw.obj i oi hi).same hle (hb i hic) (hr i hic) (hl i hic) (fun _ _ => trivial) fun b _ => ⟨rfl, fun o => by rw [hS]⟩
  · by_cases hic : i = c <;> by_cases hjc : j = c
    · rw [hic, hjc]
    · subst hic
      rw [hself] at h1; cases h1
      rw [hget j hjc] at h2
      rw [hblk j oj hjc] at h4
      exact absurd h3 (hap j oj b hjc h2 h4)
    · subst hjc
      rw [hself] at h2; cases h2
      rw [hget i hic] at h1
      rw [hblk i oi hic] at h3
      exact absurd h4 (hap i oi b hic h1 h3)
    · rw [hget i hic] at h1
      rw [hget j hjc] at h2
      rw [hblk i oi hic] at h3
      rw [hblk j oj hjc] at h4
      exact hw.apart i j oi oj b h1 h2 h3 h4
def setC (g : Gh) (c b : Nat) : Gh := ⟨g.S, fun i => if i = c then b else g.blk i, g.row, fun i => if i = c then 1 else g.len i⟩
def setR (g : Gh) (c : Nat) (v : Value) (n : Nat) : Gh := ⟨g.S, g.blk, fun i => if i = c then v else g.row i, fun i => if i = c then n + 1 else g.len i⟩
/-- Room for an object, under a name that no one bears. -/
theorem AW.vac {code : Code} (c : Nat) (hA : ¬ Γ.A c) (hc : objs c = none) (hf : ∀ t, (σ t).has c = false) (hf2 : ∀ i ob, objs i = some ob → ob.has c = false) (h : AW P Γ n code σ (ovr objs [(c, .vac)]) Q) : AW P Γ n code σ objs Q := by
  intro a w hcc
  obtain ⟨hd, hs, g, hr, hw⟩ := hcc
  have hle : GLe (fun i => i ≠ c) g ⟨g.S, g.blk, g.row, fun i => if i = c then 0 else g.len i⟩ := ⟨SLe.refl _, fun _ _ _ => rfl, fun i hi => by simp [hi], fun _ _ _ => rfl⟩
  have hget : ∀ i, i ≠ c → ovr objs [(c, .vac)] i = objs i := fun i hi => by
    have : (i == c) = false := by simpa using hi
    simp [ovr, List.lookup, this]
  have hself : ovr objs [(c, GObj.vac)] c = some .vac := by simp [ovr]
  have key : ∀ (i : Nat) (oi : GObj) (b : Nat), ovr objs [(c, .vac)] i = some oi → oi.blk ⟨g.S, g.blk, g.row, fun i => if i = c then 0 else g.len i⟩ i b → objs i = some oi ∧ oi.blk g i b := fun i oi b h1 h2 => by
    by_cases hic : i = c
    · subst hic; rw [hself] at h1; cases h1; cases h2
    · rw [hget i hic] at h1
      exact ⟨h1, by rw [← blk_same (g := g) (g' := ⟨g.S, g.blk, g.row, fun i => if i = c then 0 else g.len i⟩) rfl rfl oi]; exact h2⟩
  refine h a w ⟨hd, hs, ⟨g.S, g.blk, g.row, fun i => if i = c then 0 else g.len i⟩, fun t => (hr t).mono hle (fun id hid e => by subst e; rw [hf t] at hid; cases hid), hw.imm, fun i oi hi => ?_, fun i j oi oj b h1 h2 h3 h4 => ?_, hw.fr, hw.old, hw.ext.trans (hle.weak fun i hi e => hA (e ▸ hi))⟩
  · by_cases hic : i = c
    · subst hic
      rw [hself] at hi
      cases hi
      simp [ObjAt]
    · rw [hget i hic] at hi
      refine (hw.obj i oi hi).same hle rfl rfl (by simp [hic]) (fun id hid e1 => ?_) fun b _ => ⟨rfl, fun _ => rfl⟩
      have := hf2 i _ hi
      rw [e1] at hid
      rw [this] at hid; cases hid
  · obtain ⟨k1, k2⟩ := key i oi b h1 h3
    obtain ⟨k3, k4⟩ := key j oj b h2 h4
    exact hw.apart i j oi oj b k1 k3 k2 k4
/-- A slice that is nil, as a row that may grow. -/
theorem t_nilrow {x : Operand} {c k e : Nat} (ho : o.op = .assign x) (hx : opT σ x = .d (.v (.slice none 0 0))) : Tri P o σ [(c, .vac)] (.own k [] c) [(c, .row e k [])] := by
  intro Γ g objs a w Q hr hp hw
  have e1 := rep_op hr (x := x) (by rw [ho]; simp [Op.operands])
  rw [hx] at e1
  have hv := inv_v e1
  obtain ⟨h1, h2⟩ := hw.turn (g' := setR g c (.slice none 0 0) 0) (ob := .row e k []) (hp _ (List.mem_singleton.2 rfl)) (by simp [setR]) rfl (fun _ _ => rfl) (fun i hi => by simp [setR, hi]) (fun i hi => by simp [setR, hi])
    ⟨[], by simp [setR], by simpa [setR] using World.ownsRow_nil w 0 e k, .nil, fun b hb => by simp [setR, Value.ownBlock] at hb⟩ (fun j oj b _ _ _ h => by simp [GObj.blk, setR, Value.ownBlock] at h)
  unfold Oper.wp execOp
  rw [ho]
  refine ⟨_, _, rfl, h1, ?_, h2⟩
  rw [hv]
  exact .own (.sl .nil (RowS.nil _ _) (Nat.le_refl _) (Nat.zero_le _) fun _ => rfl) (by simp [setR]) fun _ => by simp [setR]
/-- A new block of cells, as an object. -/
theorem WI.alloc_cells {g : Gh} {w : World} {c e : Nat} {ts : List T} {xs : List Value} (hw : WI Γ g objs w) (hc : objs c = some .vac) (hts : Reps g ts xs) (h1 : ∀ x ∈ xs, x.oneCell' = true) :
    GLe (fun _ => True) g (setC g c w.heap.size) ∧ WI Γ (setC g c w.heap.size) (ovr objs [(c, .cells e ts)]) (w.alloc (.cells xs.toArray e)) := by
  have h0 : g.len c = 0 := hw.obj c _ hc
  have hb := (Below.refl w.heap.size w).alloc (Nat.le_refl _) (.cells xs.toArray e)
  have hw2 : WI Γ ⟨g.S, g.blk, g.row, g.len⟩ objs (w.alloc (.cells xs.toArray e)) := hw.call (SLe.refl _) (fun _ _ _ => rfl) (fun b o x h => by
    have h2 := hw.imm b o x h
    rw [hb.cell (p := ⟨b, o, none⟩) (World.block_lt_of_cell? w ⟨b, o, none⟩ h2)]; exact h2) hb
  have hle : GLe (fun _ => True) g (setC g c w.heap.size) := by
    refine ⟨SLe.refl _, fun i _ h2 => ?_, fun i _ => ?_, fun i _ _ => rfl⟩
    · by_cases e1 : i = c
      · subst e1; omega
      · simp [setC, e1]
    · by_cases e1 : i = c
      · subst e1; simp [setC, h0]
      · simp [setC, e1]
  refine ⟨hle, (hw2.turn (g' := setC g c w.heap.size) hc (by simp [setC]) rfl (fun i hi => by simp [setC, hi]) (fun _ _ => rfl) (fun i hi => by simp [setC, hi]) ?_ ?_).2⟩
  · refine ⟨xs, by simp [setC], .inl ?_, ?_, hts.mono hle fun _ _ => trivial, h1, fun o => ?_⟩
    · simp only [setC, if_true]; exact hw.fr.size
    · simp only [setC, if_true]; show (w.heap.push _)[w.heap.size]? = _; simp
    · simp only [setC, if_true]
      cases h3 : g.S w.heap.size o with
      | none => rfl
      | some x => exact absurd (World.block_lt_of_cell? w ⟨_, o, none⟩ (hw.imm _ _ _ h3)) (Nat.lt_irrefl _)
  · intro j oj b _ h2 h3 h4
    have hlt := hw.blk_lt h2 h3
    simp only [GObj.blk, setC, if_true] at h4
    exact absurd h4 (Nat.ne_of_gt hlt)
theorem reps_dv {g : Gh} : ∀ {xs : List Value}, (∀ x ∈ xs, x.oneCell' = true) → Reps g (xs.map fun x => .d (.v x)) xs
  | [], _ => .nil
  | x :: xs, h => .cons (.d (.v (h x (by simp)))) (reps_dv fun y hy => h y (by simp [hy]))
theorem hass_dv {c : Nat} : ∀ (xs : List Value), T.hass c (xs.map fun x => .d (.v x)) = false
  | [] => rfl
  | x :: xs => by simp [T.hass, T.has, hass_dv xs]
theorem reps_d {g : Gh} : ∀ {ds : List D} {xs : List Value}, RepDs g.S ds xs → Reps g (ds.map .d) xs
  | [], _, .nil => .nil
  | _ :: _, _, .cons h _ ht => .cons (.d h) (reps_d ht)
theorem hass_d {c : Nat} : ∀ (ds : List D), T.hass c (ds.map .d) = false
  | [] => rfl
  | x :: xs => by simp [T.hass, T.has, hass_d xs]
theorem t_alloc {e c : Nat} {zs : List Value} (ho : o.op = .alloc e) (hz : zeroOf? P e = some zs) : Tri P o σ [(c, .vac)] (.ref c 0) [(c, .cells e (zs.map fun x => .d (.v x)))] := by
  intro Γ g objs a w Q hr hp hw
  unfold zeroOf? at hz
  split at hz
  · next i hi =>
    split at hz
    · next z hzz =>
      split at hz
      · next hall =>
        cases hz
        have h1 : ∀ x ∈ z.cells.toList, x.oneCell' = true := fun x hx => Array.all_eq_true_iff_forall_mem.1 hall x (Array.mem_toList_iff.1 hx)
        unfold Oper.wp execOp
        have hrun : (Instr.alloc e true (.tuple #[])).run P w = .ok (.pointer (some ⟨w.heap.size, 0, none⟩)) (w.alloc (.cells z.cells.toList.toArray e)) := by
          unfold Instr.alloc
          simp only [zeroValue, typeInfo, program, Sem.run_bind, Sem.run, hi, Result.andThen_ok, Sem.run_pure, hzz, newVar, newRow, newObj, Array.toArray_toList]
          rfl
        simp only [ho, Sem.run_bind, hrun, Result.andThen_ok, Sem.run_pure]
        obtain ⟨k1, k2⟩ := hw.alloc_cells (e := e) (hp _ (List.mem_singleton.2 rfl)) (reps_dv h1) h1
        refine ⟨_, _, rfl, k1, ?_, k2⟩
        have := RepT.ref (g := setC g c w.heap.size) (id := c) (off := 0) (by simp [setC])
        simpa [setC] using this
      · cases hz
    · cases hz
  · cases hz
theorem t_box {e c : Nat} {x : Operand} {d : D} (ho : o.op = .box e x) (hx : TLe (opT σ x) (.d d)) : Tri P o σ [(c, .vac)] (.ref c 0) [(c, .cells e (d.lv.map .d))] := by
  intro Γ g objs a w Q hr hp hw
  have e1 := hx g _ (rep_op hr (x := x) (by rw [ho]; simp [Op.operands]))
  cases e1 with
  | d h1 =>
    have h2 := rep_cells h1
    unfold Oper.wp execOp
    have hrun : (Instr.box e (a.eval x)).run P w = .ok (.pointer (some ⟨w.heap.size, 0, none⟩)) (w.alloc (.cells (a.eval x).cells.toList.toArray e)) := by
      unfold Instr.box
      simp only [newVar, newRow, newObj, Sem.run_bind, Sem.run, Result.andThen_ok, Sem.run_pure, Array.toArray_toList]
      rfl
    simp only [ho, Sem.run_bind, hrun, Result.andThen_ok, Sem.run_pure]
    obtain ⟨k1, k2⟩ := hw.alloc_cells (e := e) (hp _ (List.mem_singleton.2 rfl)) (reps_d h2) h2.one
    refine ⟨_, _, rfl, k1, ?_, k2⟩
    have := RepT.ref (g := setC g c w.heap.size) (id := c) (off := 0) (by simp [setC])
    simpa [setC] using this
/-- A slice of given elements, as a row that may grow. -/
theorem t_slitrow {t e : TypeId} {k len c : Nat} {ps : List (Nat × Operand)} {qs : List (Nat × Nat × D)} {zs : List Value} (l : List D) (ho : o.op = .buildSlice t len ps.toArray) (ht : elemOf? P t = some (e, k)) (hz : zeroOf? P e = some zs)
    (hP : Parts σ (fun i => some (i * k, k)) ps qs) (hd : fillD qs ((List.range (len * k)).map fun j => .v (zs.getD (j % zs.length) default)) = some (l.flatMap D.lv)) (hb : len * k ≤ 1000) (hzl : 0 < zs.length) (hl : l.length = len) (hk : ∀ d ∈ l, d.lv.length = k) (hk0 : 0 < k) :
    Tri P o σ [(c, .vac)] (.own k l c) [(c, .row e k l)] := by
  intro Γ g objs a w Q hr hp hw
  obtain ⟨cs, e1, e2⟩ := build_slice_run (g := g) (a := a) w ht hz hP hd hb hzl (fun p hp => rep_op hr (by rw [ho]; simp [Op.operands]; exact ⟨p.1, hp⟩))
  have hmap : ps.toArray.map (fun x => match x with | (i, x) => (i, a.eval x)) = (ps.map fun p => (p.1, a.eval p.2)).toArray := by simp
  unfold Oper.wp execOp
  simp only [ho, hmap, Sem.run_bind, e1, Result.andThen_ok, Sem.run_pure]
  have hle0 : SLe g.S (newS g.S w.heap.size cs) := new_le hw.imm
  have hw2 := hw.lay (xs := cs) (e := e)
  have hlv := lv_of_flat hk e2
  have hcl : cs.length = l.length * k := hlv.len
  have hn : l.length * k ≤ 1000 := by rw [hl]; exact hb
  have hlen : len ≤ 1000 := by
    have := Nat.le_mul_of_pos_right l.length hk0
    omega
  have hown : (w.alloc (.cells cs.toArray e)).ownsRow 0 e k (.slice (some ⟨w.heap.size, 0, none⟩) len len) l.length cs := by
    refine ⟨hcl, .inr ⟨w.heap.size, len, cs.toArray, by rw [hl], Nat.zero_le _, ?_, by omega, by unfold maxLen; omega, by rw [List.size_toArray, hcl, hl], ?_⟩⟩
    · show (w.heap.push _)[w.heap.size]? = _
      simp
    · rw [← hcl]; simp
  have hS2 : ∀ b, (Value.slice (some ⟨w.heap.size, 0, none⟩) len len).ownBlock = some b → Mine Γ b ∧ ∀ o, newS g.S w.heap.size cs b o = cs[o]? := fun b hb => by
    simp only [Value.ownBlock, Option.some.injEq] at hb
    subst hb
    exact ⟨.inl hw.fr.size, fun o => by simp [newS]⟩
  have hap : ∀ j oj b, j ≠ c → objs j = some oj → oj.blk ⟨newS g.S w.heap.size cs, g.blk, g.row, g.len⟩ j b → (Value.slice (some ⟨w.heap.size, 0, none⟩) len len).ownBlock ≠ some b := fun j oj b _ h1 h2 h3 => by
    simp only [Value.ownBlock, Option.some.injEq] at h3
    have h4 : oj.blk g j b := by rw [← blk_same (g := g) (g' := ⟨newS g.S w.heap.size cs, g.blk, g.row, g.len⟩) rfl rfl oj]; exact h2
    exact absurd h3 (Nat.ne_of_gt (hw.blk_lt h1 h4))
  have hob : ObjAt Γ (setR ⟨newS g.S w.heap.size cs, g.blk, g.row, g.len⟩ c (.slice (some ⟨w.heap.size, 0, none⟩) len len) l.length) (w.alloc (.cells cs.toArray e)) c (.row e k l) :=
    ⟨cs, by simp [setR], by simpa only [setR, if_true] using hown, hlv.mono hle0, fun b hb => by
      simp only [setR, if_true] at hb
      exact hS2 b hb⟩
  obtain ⟨k1, k2⟩ := hw2.turn (g' := setR ⟨newS g.S w.heap.size cs, g.blk, g.row, g.len⟩ c (.slice (some ⟨w.heap.size, 0, none⟩) len len) l.length) (ob := .row e k l) (hp _ (List.mem_singleton.2 rfl)) (by simp [setR]) rfl (fun _ _ => rfl) (fun i hi => by simp [setR, hi]) (fun i hi => by simp [setR, hi]) hob (fun j oj b h1 h2 h3 => by
      simp only [GObj.blk, setR, if_true]
      exact hap j oj b h1 h2 h3)
  refine ⟨_, _, rfl, ⟨hle0.trans k1.S, k1.blk, k1.len, k1.row⟩, ?_, k2⟩
  have h3 := RepD.sl (cap := len) (hlv.mono hle0) (row_new g.S w.heap.size cs) (by omega) (by omega) (fun h => by cases h)
  rw [hl] at h3
  exact .own h3 (by simp [setR]) fun _ => by simp [setR]
theorem t_sfullrow {t e : TypeId} {k len c : Nat} {ps : List (Nat × Operand)} {zs : List Value} {l : List D} (ho : o.op = .buildSlice t len ps.toArray) (ht : elemOf? P t = some (e, k)) (hz : zeroOf? P e = some zs) (hP : Full σ 0 ps l) (hb : len * k ≤ 1000) (hzl : 0 < zs.length) (hl : l.length = len) (hk : ∀ d ∈ l, d.lv.length = k) (hk0 : 0 < k) :
    Tri P o σ [(c, .vac)] (.own k l c) [(c, .row e k l)] := by
  obtain ⟨qs, h1, h2⟩ := hP.fill hk [] ((List.range (len * k)).map fun j => .v (zs.getD (j % zs.length) default)) (by simp) (by simp [hl])
  exact t_slitrow l ho ht hz h1 h2 hb hzl hl hk hk0
theorem all_nil {p : D → Prop} : ∀ d ∈ ([] : List D), p d := fun d h => by cases h
theorem all_cons {p : D → Prop} {x : D} {l : List D} (h : p x) (ht : ∀ d ∈ l, p d) : ∀ d ∈ (x :: l), p d := fun d hd => by rcases List.mem_cons.1 hd with rfl | hd; exact h; exact ht d hd
/-- Reading an object. -/
theorem obj_cell {g : Gh} {w : World} {id e off : Nat} {ts : List T} {t : T} (hw : WI Γ g objs w) (ho : objs id = some (.cells e ts)) (ht : ts[off]? = some t) : ∃ x, w.cell? ⟨g.blk id, off, none⟩ = some x ∧ RepT g t x ∧ x.oneCell' = true := by
  obtain ⟨xs, -, a1, a2, a3, a4, a5⟩ := hw.obj id _ ho
  obtain ⟨x, hx, hrx⟩ := reps_at a3 ht
  refine ⟨x, ?_, hrx, a4 x (List.mem_of_getElem? hx)⟩
  unfold World.cell?
  dsimp only
  rw [a2]
  simpa using hx
theorem t_load_ref {t : TypeId} {x : Operand} {k id off e : Nat} {ts : List T} {v : T} (ho : o.op = .load t x) (ht : aggOf? P t = some (false, k)) (hx : opT σ x = .ref id off) (hv : ts[off]? = some v) : Tri P o σ [(id, .cells e ts)] v [] :=
  .val fun _ g objs ac w hrp hp hw => by
    have e1 := hrp x (by rw [ho]; simp [Op.operands])
    rw [hx] at e1
    generalize he : ac.eval x = y at e1
    cases e1 with
    | ref ha =>
      obtain ⟨u, hu, hru, -⟩ := obj_cell hw (hp _ (List.mem_singleton.2 rfl)) hv
      exact ⟨u, by unfold execOp; rw [ho]; simp [he, load_run ht hu], hru⟩
theorem reps_dd {g : Gh} : ∀ {ds : List D} {xs : List Value}, Reps g (ds.map .d) xs → (∀ x ∈ xs, x.oneCell' = true) → RepDs g.S ds xs
  | [], _, .nil, _ => .nil
  | _ :: _, _, .cons h ht, h1 => by cases h with | d h => exact .cons h (h1 _ (by simp)) (reps_dd ht fun x hx => h1 x (by simp [hx]))
theorem Reps.drop {g : Gh} : ∀ {l : List T} {xs : List Value} (n : Nat), Reps g l xs → Reps g (l.drop n) (xs.drop n)
  | _, _, 0, h => by simpa using h
  | _, _, n + 1, .nil => by simpa using Reps.nil
  | _, _, n + 1, .cons _ ht => by simpa using ht.drop n
theorem Reps.take {g : Gh} : ∀ {l : List T} {xs : List Value} (n : Nat), Reps g l xs → Reps g (l.take n) (xs.take n)
  | _, _, 0, h => by simpa using Reps.nil
  | _, _, n + 1, .nil => by simpa using Reps.nil
  | _, _, n + 1, .cons h ht => by simpa using Reps.cons h (ht.take n)
theorem Reps.app {g : Gh} : ∀ {l m : List T} {xs ys : List Value}, Reps g l xs → Reps g m ys → Reps g (l ++ m) (xs ++ ys)
  | _, _, _, _, .nil, h => h
  | _, _, _, _, .cons h ht, h' => .cons h (ht.app h')
theorem Reps.len {g : Gh} : ∀ {l : List T} {xs : List Value}, Reps g l xs → xs.length = l.length
  | _, _, .nil => rfl
  | _, _, .cons _ ht => by simp [ht.len]
theorem t_load_refa {t : TypeId} {x : Operand} {k id off e : Nat} {ts : List T} {ds : List D} (ho : o.op = .load t x) (ht : aggOf? P t = some (true, k)) (hx : opT σ x = .ref id off) (hv : (ts.drop off).take k = ds.map .d) (hk : ds.length = k) : Tri P o σ [(id, .cells e ts)] (.d (.agg ds)) [] :=
  .val fun _ g objs ac w hrp hp hw => by
    have e1 := hrp x (by rw [ho]; simp [Op.operands])
    rw [hx] at e1
    generalize he : ac.eval x = y at e1
    cases e1 with
    | ref ha =>
      obtain ⟨xs, -, a1, a2, a3, a4, a5⟩ := hw.obj id _ (hp _ (List.mem_singleton.2 rfl))
      have h3 := (a3.drop off).take k
      rw [hv] at h3
      have h4 := reps_dd h3 (fun x hx => a4 x (List.mem_of_mem_drop (List.mem_of_mem_take hx)))
      have hl := h4.len
      have := load_agg_run (P := P) (b := g.blk id) (off := off) (w := w) (xs := (xs.drop off).take k) ht (by rw [hl, hk]) (fun j hj => by
        have hj2 : off + j < xs.length := by
          have : ((xs.drop off).take k).length = k := by rw [hl, hk]
          rw [List.length_take, List.length_drop] at this
          omega
        unfold World.cell?
        dsimp only
        rw [a2, List.getElem?_take, if_pos hj, List.getElem?_drop]
        simp)
      exact ⟨_, by unfold execOp; rw [ho]; simp [he, this], .d (.agg h4)⟩
end
end Go.Proofs.YtenlhfmchhljdaaDoor
