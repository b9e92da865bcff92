/-
  Operations over ghost values: structs and slices built; closures; parts of slices; new rows.
-/
import Derived.Test.YtenlhfmchhljdaaDoorGa
namespace Go.Proofs.YtenlhfmchhljdaaDoor
open Go.RowKit

section
variable {P : Program} {Γ : Cx} {o : Oper} {σ : Nat → T} {n : Nat} {objs : Objs} {Q : GPost}
/-! ### Closures -/
def opTs (σ : Nat → T) (xs : List Operand) : List T := xs.map (opT σ)
theorem reps_ops {g : Gh} {a : Act} : ∀ {xs : List Operand}, (∀ x ∈ xs, RepT g (opT σ x) (a.eval x)) → Reps g (opTs σ xs) (xs.map a.eval)
  | [], _ => .nil
  | x :: xs, h => .cons (h x (by simp)) (reps_ops fun y hy => h y (by simp [hy]))
theorem t_func {f : FuncId} {xs : List Operand} (ho : o.op = .makeFunc (.func f) #[] xs.toArray) : Tri P o σ [] (.fn f (opTs σ xs)) [] :=
  .val fun _ g _ a w hr _ _ => ⟨.func (.func f) #[] (xs.map a.eval).toArray, by unfold execOp; rw [ho]; simp [Instr.makeFunc], .fn (reps_ops fun x hx => hr x (by rw [ho]; simp [Op.operands, hx]))⟩
theorem t_bfunc {f : FuncId} {xs : List Operand} (ho : o.op = .makeFunc (.func f) xs.toArray #[]) : Tri P o σ [] (.bf f (opTs σ xs)) [] :=
  .val fun _ g _ a w hr _ _ => ⟨.func (.func f) (xs.map a.eval).toArray #[], by unfold execOp; rw [ho]; simp [Instr.makeFunc], .bf (reps_ops fun x hx => hr x (by rw [ho]; simp [Op.operands, hx]))⟩

/-! ### New immutable cells -/
def newS (S : Sm) (b : Nat) (xs : List Value) : Sm := fun c o => if c = b then xs[o]? else S c o
theorem new_le {S : Sm} {w : World} {xs : List Value} (hi : ∀ b o x, S b o = some x → w.cell? ⟨b, o, none⟩ = some x) : SLe S (newS S w.heap.size xs) := fun b o x h => by
  unfold newS
  split
  · next e => subst e; exact absurd (World.block_lt_of_cell? w ⟨_, o, none⟩ (hi _ _ _ h)) (Nat.lt_irrefl _)
  · exact h
theorem WI.lay {g : Gh} {w : World} {xs : List Value} {e : TypeId} (hw : WI Γ g objs w) : WI Γ ⟨newS g.S w.heap.size xs, g.blk, g.row, g.len⟩ objs (w.alloc (.cells xs.toArray e)) := by
  have hb := (Below.refl w.heap.size w).alloc (Nat.le_refl _) (.cells xs.toArray e)
  refine hw.call (new_le hw.imm) (fun b o hlt => ?_) (fun b o x h => ?_) hb
  · unfold newS; rw [if_neg (Nat.ne_of_lt hlt)]
  · unfold newS at h
    split at h
    · next e1 => subst e1; rw [new_cell]; simpa using h
    · have h1 := hw.imm b o x h
      rw [hb.cell (p := ⟨b, o, none⟩) (World.block_lt_of_cell? w ⟨b, o, none⟩ h1)]; exact h1

/-! ### Structs -/
/-- Where the parts of one go, over its zero cells. -/
def fillD : List (Nat × Nat × D) → List D → Option (List D)
  | [], cells => some cells
  | (off, size, d) :: rest, cells => if d.lv.length = size ∧ off + size ≤ cells.length then fillD rest (cells.take off ++ d.lv ++ cells.drop (off + size)) else none
def zeroOf? (P : Program) (t : TypeId) : Option (List Value) := match P.info? t with
  | some i => match i.zero with
    | some z => if z.cells.all (·.oneCell') then some z.cells.toList else none
    | none => none
  | none => none
theorem zipIdx_set (off : Nat) : ∀ (ys : List Value) (xs : List Value) (j : Nat), off + j + ys.length ≤ xs.length →
    (ys.zipIdx j).foldl (fun cs (c, j) => cs.set (off + j) c) xs = xs.take (off + j) ++ ys ++ xs.drop (off + j + ys.length)
  | [], xs, j, _ => by simp
  | y :: ys, xs, j, h => by
    rw [List.length_cons] at h
    rw [List.zipIdx_cons, List.foldl_cons]
    have := zipIdx_set off ys (xs.set (off + j) y) (j + 1) (by simp; omega)
    rw [this, List.length_cons, show off + (j + 1) = off + j + 1 from by omega, show off + j + 1 + ys.length = off + j + (ys.length + 1) from by omega]
    rw [List.drop_set_of_lt (by omega), List.take_set, List.take_succ_eq_append_getElem (by omega), List.set_append_right _ _ (by simp; omega)]
    simp [Nat.min_eq_left (show off + j ≤ xs.length by omega)]
theorem rep_cells {S : Sm} {d : D} {v : Value} (h : RepD S d v) : RepDs S d.lv v.cells.toList := by
  cases h with
  | v h =>
    have : v.cells.toList = [v] := by cases v <;> first | rfl | cases h
    rw [this]
    exact .cons (.v h) h .nil
  | agg h => simpa [Value.cells, D.lv] using h
  | sl h hr hc hb hn => exact .cons (.sl h hr hc hb hn) rfl .nil
inductive Parts (σ : Nat → T) (place : Nat → Option (Nat × Nat)) : List (Nat × Operand) → List (Nat × Nat × D) → Prop
  | nil : Parts σ place [] []
  | cons {i off size : Nat} {x : Operand} {d : D} {ps : List (Nat × Operand)} {qs : List (Nat × Nat × D)} (h : TLe (opT σ x) (.d d)) (hf : place i = some (off, size)) (ht : Parts σ place ps qs) : Parts σ place ((i, x) :: ps) ((off, size, d) :: qs)
theorem foldl_zip (off : Nat) (v : Array Value) (cs : List Value) (h : off + v.size ≤ cs.length) : (v.zipIdx.foldl (fun cs (c, j) => cs.setIfInBounds (off + j) c) cs.toArray) = (cs.take off ++ v.toList ++ cs.drop (off + v.size)).toArray := by
  have key : ∀ (l : List (Value × Nat)) (xs : List Value), l.foldl (fun (cs : Array Value) (p : Value × Nat) => cs.setIfInBounds (off + p.2) p.1) xs.toArray = (l.foldl (fun (cs : List Value) (p : Value × Nat) => cs.set (off + p.2) p.1) xs).toArray := by
    intro l
    induction l with
    | nil => intro xs; rfl
    | cons p l ih => intro xs; rw [List.foldl_cons, List.foldl_cons, List.setIfInBounds_toArray, ih]
  have h1 := zipIdx_set off v.toList cs 0 (by simpa using h)
  rw [Nat.add_zero, Array.length_toList] at h1
  rw [← h1, ← key, ← Array.foldl_toList, Array.toList_zipIdx]
theorem fill_run {g : Gh} {a : Act} {place : Nat → Option (Nat × Nat)} : ∀ {ps : List (Nat × Operand)} {qs : List (Nat × Nat × D)} {zs ds : List D} {cs : List Value}, Parts σ place ps qs → (∀ p ∈ ps, RepT g (opT σ p.2) (a.eval p.2)) → RepDs g.S zs cs → fillD qs zs = some ds →
    ∃ cs', Instr.fill place cs.toArray (ps.map fun p => (p.1, a.eval p.2)) = some cs'.toArray ∧ RepDs g.S ds cs'
  | [], _, _, _, cs, .nil, _, h, hf => by cases hf; exact ⟨cs, rfl, h⟩
  | (i, x) :: ps, _, zs, ds, cs, .cons (off := off) (size := size) (d := d) hx hp ht, hr, h, hf => by
    rw [fillD] at hf
    split at hf
    · next hc =>
      have h1 := hx g _ (hr (i, x) (by simp))
      cases h1 with
      | d h1 =>
        have h2 := rep_cells h1
        have hl2 := h2.len
        have hl := h.len
        have hsz : (a.eval x).cells.size = size := by rw [← Array.length_toList, hl2]; exact hc.1
        have h3 : RepDs g.S (zs.take off ++ d.lv ++ zs.drop (off + size)) (cs.take off ++ (a.eval x).cells.toList ++ cs.drop (off + size)) := ((h.take off).app h2).app (h.drop (off + size))
        obtain ⟨cs', e1, e2⟩ := fill_run (g := g) (a := a) ht (fun p hp => hr p (by simp [hp])) h3 hf
        refine ⟨cs', ?_, e2⟩
        rw [List.map_cons, Instr.fill, hp]
        simp only
        have hcond : ¬ ((decide ((a.eval x).cells.size ≠ size) || decide (off + (a.eval x).cells.size > cs.toArray.size)) = true) := by simp [hsz, hl]; omega
        rw [if_neg hcond, foldl_zip off _ cs (by rw [hsz, hl]; exact hc.2), hsz]
        exact e1
    · cases hf
/-- Where a struct's fields lie. -/
def PlacesOK (P : Program) (t : TypeId) (fl : List (Nat × Nat)) : Prop := ∃ fs : Array Field, P.underlying t = some (.struct fs) ∧ ∀ w, (fs.mapM (fun f => do pure (f.offset, ← sizeOf f.type) : Field → Sem (Nat × Nat))).run P w = .ok fl.toArray w
theorem t_build {t : TypeId} {ps : List (Nat × Operand)} {qs : List (Nat × Nat × D)} {zs : List Value} {fl : List (Nat × Nat)} {ds : List D} (ho : o.op = .build t ps.toArray) (hz : zeroOf? P t = some zs) (hf : PlacesOK P t fl) (hP : Parts σ (fl[·]?) ps qs) (hd : fillD qs (zs.map .v) = some ds) :
    Tri P o σ [] (.d (.agg ds)) [] :=
  .val fun _ g _ a w hr _ _ => by
    obtain ⟨fs, hu, hpl⟩ := hf
    unfold zeroOf? at hz
    split at hz
    · next i hi =>
      split at hz
      · next z hzz =>
        split at hz
        · next hall =>
          cases hz
          obtain ⟨cs', e1, e2⟩ := fill_run (g := g) (a := a) (cs := z.cells.toList) hP (fun p hp => hr p.2 (by rw [ho]; simp [Op.operands]; exact ⟨p.1, hp⟩)) (reps_one fun x hx => Array.all_eq_true_iff_forall_mem.1 hall x (Array.mem_toList_iff.1 hx)) hd
          refine ⟨.agg cs'.toArray, ?_, .d (.agg e2)⟩
          have hplace : (fun (i : Nat) => fl.toArray[i]?) = (fl[·]?) := by funext i; simp
          have hb : (Instr.build t (ps.map fun p => (p.1, a.eval p.2)).toArray).run P w = .ok (.agg cs'.toArray) w := by
            unfold Instr.build
            simp only [zeroValue, typeInfo, program, Sem.run_bind, Sem.run, hi, Result.andThen_ok, Sem.run_pure, hzz, run_underlying hu, hpl, hplace]
            rw [Array.toArray_toList] at e1
            rw [e1]
            simp only [Sem.run_pure]
          unfold execOp; rw [ho]
          have hmap : ps.toArray.map (fun x => match x with | (i, x) => (i, a.eval x)) = (ps.map fun p => (p.1, a.eval p.2)).toArray := by simp
          simp only [hmap, Sem.run_bind, hb, Result.andThen_ok, Sem.run_pure]
        · cases hz
      · cases hz
    · cases hz
end
end Go.Proofs.YtenlhfmchhljdaaDoor
