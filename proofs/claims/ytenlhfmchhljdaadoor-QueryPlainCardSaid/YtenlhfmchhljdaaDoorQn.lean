/-
  Ghost values: interfaces of numbers, shifts, bytes of a text.
-/
import Derived.Test.YtenlhfmchhljdaaDoorVo
import Derived.Lib.ConvBytes
import Derived.Lib.AtoiErrMem
import Derived.Laws.AppendOwn
namespace Go.Proofs.YtenlhfmchhljdaaDoor
open Go.RowKit

section
variable {P : Program} {o : Oper} {σ : Nat → T}
theorem t_mki {x : Operand} {t : TypeId} {u : TypeDesc} {y : Value} (ho : o.op = .makeInterface t x) (hx : opT σ x = .d (.v y)) (hu : P.underlying t = some u) (hi : (∀ ms, u ≠ .interface ms)) : Tri P o σ [] (.d (.v (.iface t y))) [] :=
  .val fun _ g _ a w hr _ _ => ⟨.iface t y, by
    have e1 := hr x (by rw [ho]; simp [Op.operands])
    rw [hx] at e1
    unfold execOp; rw [ho]
    simp only [inv_v e1]
    have h2 : (Instr.makeInterface t y).run P w = .ok (.iface t y) w := by
      unfold Instr.makeInterface
      rw [Sem.run_bind, run_underlying hu]
      cases u <;> first | exact absurd rfl (hi _) | rfl
    rw [Sem.run_bind, h2]; rfl, rep_v rfl⟩
theorem b_shl (k k' : IntKind) (t : TypeId) (a : Int) (n : Nat) (h : n ≤ k.bits) : BinR P .shl t (.int k a) (.int k' n) (.int k (k.wrap (a * 2 ^ n))) := fun x y w => by
  have h2 : ¬ ((n : Int) < 0) := by omega
  simp [eqGuard, binOp, Op.shift, Nat.min_eq_left h, h2]
theorem b_neq_err (t u : TypeId) (x : Value) (h : P.underlying t = some (.interface (P.methodsAt t))) : BinR P .neq t (.iface u x) .nilIface (.bool true) := fun _ _ w => by
  have := run_neq_held_nil (P := P) (w := w) t u x h
  simpa [eqGuard] using this
/-- An error that is not nil. -/
def isErr : Value → Bool
  | .iface _ _ => true
  | _ => false
theorem t_neq_nil {t u : TypeId} {x : Operand} (ho : o.op = .binOp .neq t x (.const .nilIface) u) (hx : opT σ x = .d (.v .nilIface)) (h : P.underlying t = some (.interface (P.methodsAt t))) : Tri P o σ [] (boolT false) [] :=
  .val fun _ g _ ac w hrp _ _ => ⟨.bool false, by
    have e1 := hrp x (by rw [ho]; simp [Op.operands])
    rw [hx] at e1
    have e2 : ac.eval (.const .nilIface) = .nilIface := rfl
    have h2 : (do eqGuard .neq t x (.const .nilIface) .nilIface .nilIface; binOp .neq t .nilIface .nilIface : Sem Value).run P w = .ok (.bool false) w := by
      rw [eqGuard_nil_constR]
      simpa using run_neq_nil_nil (P := P) (w := w) t h
    unfold execOp; rw [ho]
    simp only [inv_v e1, e2]
    simp only [Sem.run_bind] at h2 ⊢
    rw [h2]; rfl, rep_v rfl⟩
theorem t_neq_pr {t u : TypeId} {x : Operand} (ho : o.op = .binOp .neq t x (.const .nilIface) u) (hx : opT σ x = .pr isErr) (h : P.underlying t = some (.interface (P.methodsAt t))) : Tri P o σ [] (boolT true) [] :=
  .val fun _ g _ ac w hrp _ _ => ⟨.bool true, by
    have e1 := hrp x (by rw [ho]; simp [Op.operands])
    rw [hx] at e1
    obtain ⟨te, pe, e2⟩ : ∃ te pe, ac.eval x = .iface te pe := by
      cases e1 with
      | pr h1 h2 =>
        generalize ac.eval x = y at h2
        cases y <;> first | exact ⟨_, _, rfl⟩ | cases h2
    have e3 : ac.eval (.const .nilIface) = .nilIface := rfl
    have h2 := b_neq_err t te pe h x (.const .nilIface) w
    unfold execOp; rw [ho]
    simp only [e2, e3]
    simp only [Sem.run_bind] at h2 ⊢
    rw [h2]; rfl, rep_v rfl⟩
abbrev btsD (l : List UInt8) : D := .sl 1 (l.map fun b => .v (.int .u8 b.toNat))
theorem rep_bts (S : Sm) : ∀ l : List UInt8, RepLv S 1 (l.map fun b => D.v (.int .u8 b.toNat)) (l.map fun b => Value.int .u8 b.toNat)
  | [] => .nil
  | x :: l => by
    show RepLv S 1 (D.v (.int .u8 x.toNat) :: l.map fun b => D.v (.int .u8 b.toNat)) ([Value.int .u8 x.toNat] ++ l.map fun b => Value.int .u8 b.toNat)
    exact .cons (.cons (.v rfl) rfl .nil) rfl (rep_bts S l)
theorem t_bytes {src dst e : TypeId} {x : Operand} {l : List UInt8} (ho : o.op = .convert src dst x) (hx : opT σ x = strT l) (hs : P.underlying src = some .string) (hd : P.underlying dst = some (.slice e)) (he : P.underlying e = some (.int .u8)) (hl : l.length ≤ maxLen) : Tri P o σ [] (.d (btsD l)) [] := by
  intro Γ g objs a w Q hr hp hw
  have e2 := rep_op hr (x := x) (by rw [ho]; simp [Op.operands])
  rw [hx] at e2
  have hb := Lib.bytesWorld_below w e ⟨l.toArray⟩
  have hrun : (execOp a.eval o).run P w = .ok (.value (.slice (some ⟨w.heap.size, 0, none⟩) l.length (grownCap w l.length 0 e))) (Lib.bytesWorld w e ⟨l.toArray⟩) := by
    unfold execOp; rw [ho]
    simp only [inv_v e2]
    rw [Sem.run_bind, Lib.run_convert_string_bytes w src dst e ⟨l.toArray⟩ hs hd he]
    rfl
  unfold Oper.wp
  rw [hrun]
  refine ⟨⟨behS g.S w _, g.blk, g.row, g.len⟩, _, rfl, ⟨behS_le _ hw.imm, fun _ _ _ => rfl, fun _ _ => Nat.le_refl _, fun _ _ _ => rfl⟩, .d (rep_new (p := some ⟨w.heap.size, 0, none⟩) (n := l.length) (cap := grownCap w l.length 0 e) (xs := l.map fun b => Value.int .u8 b.toNat) ?_ ?_ (by rw [List.length_map]) fun S => rep_bts S _), hw.call (behS_le _ hw.imm) behS_old (behS_imm hw.imm hb) hb⟩
  · refine ⟨⟨w.heap.size, 0, fun h0 => ⟨rfl, World.block_lt_of_cell? _ ⟨w.heap.size, 0, none⟩ (Lib.bytesWorld_cell w e ⟨l.toArray⟩ 0 (by rw [str_size]; simpa using h0))⟩, fun i hi => ?_⟩, by simp, grownCap_ge _ _ _ _, grownCap_le_maxLen _ _ _ _ hl, fun h => by cases h⟩
    rw [Nat.zero_add, Lib.bytesWorld_cell _ _ _ _ (by rw [str_size]; simpa using hi)]
    simp at hi
    simp [List.getD, hi]
  · rintro a ⟨rfl⟩
    exact Nat.le_refl _
/-! Arrays. -/
theorem t_buildA {t e : TypeId} {n kk : Nat} {ps : List (Nat × Operand)} {qs : List (Nat × Nat × D)} {zs : List Value} {ds : List D} (ho : o.op = .build t ps.toArray) (hz : zeroOf? P t = some zs) (hu : P.underlying t = some (.array n e)) (he : aggOf? P e = some (false, kk)) (hP : Parts σ (fun i => some (i * kk, kk)) ps qs) (hd : fillD qs (zs.map .v) = some ds) :
    Tri P o σ [] (.d (.agg ds)) [] :=
  .val fun _ g _ a w hr _ _ => by
    have hsz := (agg_spec he w).2
    unfold zeroOf? at hz
    split at hz
    · next i hi =>
      split at hz
      · next z hzz =>
        split at hz
        · next hall =>
          cases hz
          obtain ⟨cs', e1, e2⟩ := fill_run (g := g) (a := a) (cs := z.cells.toList) hP (fun p hp => hr p.2 (by rw [ho]; simp [Op.operands]; exact ⟨p.1, hp⟩)) (reps_one fun x hx => Array.all_eq_true_iff_forall_mem.1 hall x (Array.mem_toList_iff.1 hx)) hd
          refine ⟨.agg cs'.toArray, ?_, .d (.agg e2)⟩
          have hb : (Instr.build t (ps.map fun p => (p.1, a.eval p.2)).toArray).run P w = .ok (.agg cs'.toArray) w := by
            unfold Instr.build
            simp only [zeroValue, typeInfo, program, Sem.run_bind, Sem.run, hi, Result.andThen_ok, Sem.run_pure, hzz, run_underlying hu, hsz]
            rw [Array.toArray_toList] at e1
            rw [e1]
            simp only [Sem.run_pure]
          unfold execOp; rw [ho]
          have hmap : ps.toArray.map (fun x => match x with | (i, x) => (i, a.eval x)) = (ps.map fun p => (p.1, a.eval p.2)).toArray := by simp
          simp only [hmap, Sem.run_bind, hb, Result.andThen_ok, Sem.run_pure]
        · cases hz
      · cases hz
    · cases hz
theorem t_indexA {t e : TypeId} {n j : Nat} {x i : Operand} {l : List D} {d : D} {kd : IntKind} (ho : o.op = .index t x i) (hx : opT σ x = .d (.agg l)) (hi : opT σ i = .d (.v (.int kd j))) (hu : P.underlying t = some (.array n e)) (he : aggOf? P e = some (false, 1)) (hj : j < n) (hd : l[j]? = some d) :
    Tri P o σ [] (.d d) [] :=
  .val fun _ g _ a w hrp _ _ => by
    have e1 := hrp x (by rw [ho]; simp [Op.operands])
    have e2 := hrp i (by rw [ho]; simp [Op.operands])
    rw [hx] at e1
    rw [hi] at e2
    obtain ⟨ha, hs⟩ := agg_spec he w
    generalize hy : a.eval x = y at e1
    cases e1 with
    | d h =>
      cases h with
      | @agg _ cs h =>
        obtain ⟨u, h1, h2, -⟩ := h.at_ hd
        refine ⟨u, ?_, .d h2⟩
        have hr : (Instr.index t (.agg cs.toArray) (.int kd j)).run P w = .ok u w := by
          unfold Instr.index
          simp only [asIntOf, Sem.run_bind, Sem.run_pure, Result.andThen_ok, run_underlying hu]
          rw [if_pos ⟨by omega, by omega⟩]
          simp only [Sem.run_bind, hs, Result.andThen_ok, part, ha, Nat.mul_one, Int.toNat_natCast, List.getElem?_toArray, h1]
          rfl
        unfold execOp; rw [ho]
        simp only [hy, inv_v e2, Sem.run_bind, hr, Result.andThen_ok, Sem.run_pure]
end
end Go.Proofs.YtenlhfmchhljdaaDoor
