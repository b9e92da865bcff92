/-
  Operations over ghost values: slices built, parts of slices, objects laid, read and written.
-/
import Derived.Test.YtenlhfmchhljdaaDoorGb
namespace Go.Proofs.YtenlhfmchhljdaaDoor
open Go.RowKit

section
variable {P : Program} {Γ : Cx} {o : Oper} {σ : Nat → T} {n : Nat} {objs : Objs} {Q : GPost}
theorem lv_of_flat {S : Sm} {k : Nat} : ∀ {l : List D} {xs : List Value}, (∀ d ∈ l, d.lv.length = k) → RepDs S (l.flatMap D.lv) xs → RepLv S k l xs
  | [], xs, _, h => by cases h; exact .nil
  | d :: l, xs, hk, h => by
    rw [List.flatMap_cons] at h
    have hl := h.len
    have h1 := h.take d.lv.length
    have h2 := h.drop d.lv.length
    rw [List.take_append_of_le_length (Nat.le_refl _), List.take_length] at h1
    rw [List.drop_append_of_le_length (Nat.le_refl _), List.drop_length, List.nil_append] at h2
    have := RepLv.cons h1 (by rw [h1.len]; exact hk d (by simp)) (lv_of_flat (fun d hd => hk d (by simp [hd])) h2)
    rwa [List.take_append_drop] at this
theorem row_new (S : Sm) (b : Nat) (xs : List Value) : RowS (newS S b xs) (some ⟨b, 0, none⟩) xs := ⟨b, 0, fun _ => rfl, fun i _ => by simp [newS]⟩
theorem build_slice_run {t e : TypeId} {k len : Nat} {ps : List (Nat × Operand)} {qs : List (Nat × Nat × D)} {zs : List Value} {l : List D} {g : Gh} {a : Act} (w : World) (ht : elemOf? P t = some (e, k)) (hz : zeroOf? P e = some zs)
    (hP : Parts σ (fun i => some (i * k, k)) ps qs) (hd : fillD qs ((List.range (len * k)).map fun j => .v (zs.getD (j % zs.length) default)) = some (l.flatMap D.lv)) (hb : len * k ≤ 1000) (hzl : 0 < zs.length) (hr : ∀ p ∈ ps, RepT g (opT σ p.2) (a.eval p.2)) :
    ∃ cs, (Instr.buildSlice t len (ps.map fun p => (p.1, a.eval p.2)).toArray).run P w = .ok (.slice (some ⟨w.heap.size, 0, none⟩) len len) (w.alloc (.cells cs.toArray e)) ∧ RepDs g.S (l.flatMap D.lv) cs := by
  obtain ⟨hu, i, hi, hsz⟩ := elem_spec ht
  unfold zeroOf? at hz
  rw [hi] at hz
  simp only at hz
  split at hz
  · next z hzz =>
    split at hz
    · next hall =>
      cases hz
      have h1 : ∀ x ∈ z.cells.toList, x.oneCell' = true := fun x hx => Array.all_eq_true_iff_forall_mem.1 hall x (Array.mem_toList_iff.1 hx)
      have hzr : RepDs g.S ((List.range (len * k)).map fun j => D.v (z.cells.toList.getD (j % z.cells.toList.length) default)) ((List.range (len * k)).map fun j => z.cells.toList.getD (j % z.cells.toList.length) default) := by
        have := reps_one (S := g.S) (l := (List.range (len * k)).map fun j => z.cells.toList.getD (j % z.cells.toList.length) default) (fun x hx => by
          obtain ⟨j, -, rfl⟩ := List.mem_map.1 hx
          have hlt := Nat.mod_lt j hzl
          rw [List.getD_eq_getElem?_getD, List.getElem?_eq_getElem hlt]
          exact h1 _ (List.getElem_mem _))
        rwa [List.map_map] at this
      obtain ⟨cs, e1, e2⟩ := fill_run (g := g) (a := a) hP hr hzr hd
      refine ⟨cs, ?_, e2⟩
      have hbig : ¬ (len * k > 2 ^ 24) := by have : (1000 : Nat) ≤ 2 ^ 24 := by decide
                                             omega
      have hzero : ((Array.range (len * k)).map (z.cells[· % z.cells.size]!)) = ((List.range (len * k)).map fun j => z.cells.toList.getD (j % z.cells.toList.length) default).toArray := by
        apply Array.ext'
        simp only [Array.toList_map, Array.toList_range]
        refine List.map_congr_left fun j _ => ?_
        have hlt : j % z.cells.size < z.cells.size := Nat.mod_lt _ (by simpa using hzl)
        rw [getElem!_pos z.cells _ hlt, Array.length_toList, List.getD_eq_getElem?_getD, Array.getElem?_toList, Array.getElem?_eq_getElem hlt]
        rfl
      unfold Instr.buildSlice
      simp only [run_underlying hu, Sem.run_bind, Result.andThen_ok, sizeOf, typeInfo, program, Sem.run, hi, Sem.run_pure, hsz, if_neg hbig]
      by_cases h0 : len * k = 0
      · have hcs : (Array.range (len * k)).map ((#[] : Array Value)[· % (#[] : Array Value).size]!) = ((List.range (len * k)).map fun j => z.cells.toList.getD (j % z.cells.toList.length) default).toArray := by rw [h0]; apply Array.ext'; simp
        simp only [if_pos h0, Sem.run_bind, Sem.run_pure, Result.andThen_ok, hcs, e1]
        rfl
      · simp only [if_neg h0, zeroValue, typeInfo, program, Sem.run_bind, Sem.run, hi, Result.andThen_ok, Sem.run_pure, hzz, hzero, e1]
        rfl
    · cases hz
  · cases hz
/-- A slice of given elements, that never turns. -/
theorem t_slit {t e : TypeId} {k len : Nat} {ps : List (Nat × Operand)} {qs : List (Nat × Nat × D)} {zs : List Value} (l : List D) (ho : o.op = .buildSlice t len ps.toArray) (ht : elemOf? P t = some (e, k)) (hz : zeroOf? P e = some zs)
    (hP : Parts σ (fun i => some (i * k, k)) ps qs) (hd : fillD qs ((List.range (len * k)).map fun j => .v (zs.getD (j % zs.length) default)) = some (l.flatMap D.lv)) (hb : len * k ≤ 1000) (hzl : 0 < zs.length) (hl : l.length = len) (hk : ∀ d ∈ l, d.lv.length = k) (hk0 : 0 < k) : Tri P o σ [] (.d (.sl k l)) [] := by
  intro Γ g objs a w Q hr _ hw
  obtain ⟨cs, e1, e2⟩ := build_slice_run (g := g) (a := a) w ht hz hP hd hb hzl (fun p hp => rep_op hr (by rw [ho]; simp [Op.operands]; exact ⟨p.1, hp⟩))
  have hmap : ps.toArray.map (fun x => match x with | (i, x) => (i, a.eval x)) = (ps.map fun p => (p.1, a.eval p.2)).toArray := by simp
  unfold Oper.wp execOp
  simp only [ho, hmap, Sem.run_bind, e1, Result.andThen_ok, Sem.run_pure]
  have hle : GLe (fun _ => True) g ⟨newS g.S w.heap.size cs, g.blk, g.row, g.len⟩ := ⟨new_le hw.imm, fun _ _ _ => rfl, fun _ _ => Nat.le_refl _, fun _ _ _ => rfl⟩
  refine ⟨⟨newS g.S w.heap.size cs, g.blk, g.row, g.len⟩, _, rfl, hle, ?_, hw.lay⟩
  have hn : l.length * k ≤ 1000 := by rw [hl]; exact hb
  have := RepD.sl (cap := len) ((lv_of_flat hk e2).mono hle.S) (row_new g.S w.heap.size cs) (by omega) (by
    have := Nat.le_mul_of_pos_right l.length hk0
    omega) (fun h => by cases h)
  rw [hl] at this
  exact .d this
/-- All elements, one behind the other. -/
inductive Full (σ : Nat → T) : Nat → List (Nat × Operand) → List D → Prop
  | nil {i : Nat} : Full σ i [] []
  | cons {i : Nat} {x : Operand} {d : D} {ps : List (Nat × Operand)} {ds : List D} (h : TLe (opT σ x) (.d d)) (ht : Full σ (i + 1) ps ds) : Full σ i ((i, x) :: ps) (d :: ds)
theorem Full.fill {k : Nat} : ∀ {i : Nat} {ps : List (Nat × Operand)} {ds : List D}, Full σ i ps ds → (∀ d ∈ ds, d.lv.length = k) → ∀ (pre rest : List D), pre.length = i * k → rest.length = ds.length * k →
    ∃ qs, Parts σ (fun i => some (i * k, k)) ps qs ∧ fillD qs (pre ++ rest) = some (pre ++ ds.flatMap D.lv)
  | _, _, _, .nil, _, pre, rest, _, hr => by
    have : rest = [] := List.eq_nil_of_length_eq_zero (by simpa using hr)
    subst this
    exact ⟨[], .nil, rfl⟩
  | i, _, _, .cons (d := d) (ds := ds) h ht, hk, pre, rest, hp, hr => by
    have hd := hk d (by simp)
    rw [List.length_cons, Nat.succ_mul] at hr
    obtain ⟨qs, h1, h2⟩ := ht.fill (fun d hd => hk d (by simp [hd])) (pre ++ d.lv) (rest.drop k) (by rw [List.length_append, hp, hd, Nat.succ_mul]) (by rw [List.length_drop, hr]; omega)
    refine ⟨(i * k, k, d) :: qs, .cons h rfl h1, ?_⟩
    rw [fillD, if_pos ⟨hd, by rw [List.length_append, hp, hr]; omega⟩, List.flatMap_cons, ← List.append_assoc, ← h2]
    congr 1
    rw [List.take_append_of_le_length (by omega), List.take_of_length_le (by omega), List.drop_append, List.drop_of_length_le (by omega), List.nil_append, hp, Nat.add_sub_cancel_left]
theorem t_sfull {t e : TypeId} {k len : Nat} {ps : List (Nat × Operand)} {zs : List Value} {l : List D} (ho : o.op = .buildSlice t len ps.toArray) (ht : elemOf? P t = some (e, k)) (hz : zeroOf? P e = some zs) (hP : Full σ 0 ps l) (hb : len * k ≤ 1000) (hzl : 0 < zs.length) (hl : l.length = len) (hk : ∀ d ∈ l, d.lv.length = k) (hk0 : 0 < k) : Tri P o σ [] (.d (.sl k l)) [] := by
  obtain ⟨qs, h1, h2⟩ := hP.fill hk [] ((List.range (len * k)).map fun j => .v (zs.getD (j % zs.length) default)) (by simp) (by simp [hl])
  exact t_slit l ho ht hz h1 h2 hb hzl hl hk hk0
end
end Go.Proofs.YtenlhfmchhljdaaDoor
