/-
  Fr, Rh, Fs, Ri, Rj, in one.
-/
import Derived.Test.YtddmcmkhjkleoaaGreatDoorMak
import Derived.Test.YtddmcmkhjkleoaaGreatDoorMal
import Derived.Test.YtddmcmkhjkleoaaGreatDoorMat
import Derived.Test.YtddmcmkhjkleoaaGreatDoorMaq
section
namespace Go.Proofs.YtddmcmkhjkleoaaGreatDoor
open Go.RowKit
section
variable {P : Program} {Γ : Cx} {o : Oper} {σ : Nat → T}
/-- An object whose only block is that of its row turns: the row grows, or moves to a new block. -/
theorem WI.rowK {g : Gh} {objs : Objs} {w w' : World} {id : Nat} {ob ob' : GObj} {v' : Value} (hw : WI Γ g objs w) (ho : objs id = some ob) (hbk : ∀ b, ob.blk g id b ↔ (g.row id).ownBlock = some b) (hbk' : ∀ b, ob'.blk (setK g id v') id b → v'.ownBlock = some b)
    (hS : ∀ b, (g.row id).ownBlock = some b → Mine Γ b ∧ ∀ o, g.S b o = none) (h3 : w.grownBy w' (g.row id).ownBlock) (h4 : v'.ownBlock = (g.row id).ownBlock ∨ v'.ownBlock = some w.heap.size)
    (hob : (∀ b, v'.ownBlock = some b → Mine Γ b ∧ ∀ o, g.S b o = none) → GLe (fun _ => True) g (setK g id v') → ObjAt Γ (setK g id v') w' id ob') :
    GLe (fun _ => True) g (setK g id v') ∧ WI Γ (setK g id v') (ovr objs [(id, ob')]) w' := by
  have hcs : ∀ b o x, g.S b o = some x → b < w.heap.size := fun b o x h => World.block_lt_of_cell? w ⟨b, o, none⟩ (hw.imm b o x h)
  have hle : GLe (fun _ => True) g (setK g id v') := by
    refine ⟨SLe.refl _, fun _ _ _ => rfl, fun i _ => ?_, fun i _ e1 => ?_⟩
    · simp only [setK]
      split
      · next e1 => rw [e1]; omega
      · exact Nat.le_refl _
    · simp only [setK] at e1 ⊢
      split
      · next e2 => rw [if_pos e2, e2] at e1; omega
      · rfl
  have hmine : ∀ b, v'.ownBlock = some b → Mine Γ b ∧ ∀ o, g.S b o = none := fun b hb => by
    rcases h4 with h4 | h4
    · exact hS b (h4 ▸ hb)
    · rw [h4] at hb; cases hb
      refine ⟨.inl hw.fr.size, fun o => ?_⟩
      cases h : g.S w.heap.size o with
      | none => rfl
      | some x => exact absurd (hcs _ _ _ h) (Nat.lt_irrefl _)
  refine ⟨hle, ⟨?_, ?_, ?_, ?_, ?_, ?_⟩⟩
  · intro b o x h
    have hlt := hcs b o x h
    have hb : (g.row id).ownBlock ≠ some b := fun hb => by
      have h : g.S b o = some x := h
      rw [(hS b hb).2 o] at h; cases h
    have := h3.block b hlt (fun e2 => hb e2.symm)
    rw [World.cell?_of_block (w := w) this]
    exact hw.imm b o x h
  · intro i ob2 hi
    by_cases hid : i = id
    · subst hid
      have : ob2 = ob' := by
        simp [ovr] at hi
        exact hi.symm
      subst this
      exact hob hmine hle
    · have hi' : objs i = some ob2 := by
        have : (i == id) = false := by simpa using hid
        simpa [ovr, List.lookup, this] using hi
      have hoi := hw.obj i ob2 hi'
      refine hoi.same hle rfl (by simp [setK, hid]) (by simp [setK, hid]) (fun _ _ => trivial) fun b hb => ?_
      have hlt := hoi.blk_lt hb
      have hne2 : (g.row id).ownBlock ≠ some b := fun e1 => hid (hw.apart i id _ _ b hi' ho hb ((hbk b).2 e1))
      exact ⟨h3.block _ hlt fun e1 => hne2 e1.symm, fun o => rfl⟩
  · have back : ∀ (i : Nat) (oi : GObj) (b : Nat), ovr objs [(id, ob')] i = some oi → oi.blk (setK g id v') i b → (i = id ∧ v'.ownBlock = some b) ∨ (i ≠ id ∧ objs i = some oi ∧ oi.blk g i b) := by
      intro i oi b h1 hb
      by_cases hid : i = id
      · subst hid
        have : oi = ob' := by simp [ovr] at h1; exact h1.symm
        subst this
        exact .inl ⟨rfl, hbk' b hb⟩
      · have hi' : objs i = some oi := by
          have : (i == id) = false := by simpa using hid
          simpa [ovr, List.lookup, this] using h1
        refine .inr ⟨hid, hi', ?_⟩
        rw [← blk_same (g := g) (g' := setK g id v') (i := i) rfl (by simp [setK, hid]) oi]; exact hb
    have blt : ∀ (i : Nat) (oi : GObj) (b : Nat), objs i = some oi → oi.blk g i b → b < w.heap.size := fun i oi b h1 hb => hw.blk_lt h1 hb
    intro i j oi oj b h1 h2' h3' h4'
    rcases back i oi b h1 h3' with ⟨e1, b1⟩ | ⟨n1, o1, b1⟩ <;> rcases back j oj b h2' h4' with ⟨e2, b2⟩ | ⟨n2, o2, b2⟩
    · rw [e1, e2]
    · exfalso
      rcases h4 with h4 | h4
      · exact n2 (hw.apart j id _ _ b o2 ho b2 ((hbk b).2 (h4.symm.trans b1)))
      · rw [h4] at b1; cases b1; exact Nat.lt_irrefl _ (blt j oj _ o2 b2)
    · exfalso
      rcases h4 with h4 | h4
      · exact n1 (hw.apart i id _ _ b o1 ho b1 ((hbk b).2 (h4.symm.trans b2)))
      · rw [h4] at b2; cases b2; exact Nat.lt_irrefl _ (blt i oi _ o1 b1)
    · exact hw.apart i j oi oj b o1 o2 b1 b2
  · refine ⟨h3.os.trans hw.fr.os, h3.tape.trans hw.fr.tape, h3.output.trans hw.fr.output, Nat.le_trans hw.fr.size h3.size, fun b hb hx => ?_⟩
    refine (h3.block b (Nat.lt_of_lt_of_le hb hw.fr.size) fun e1 => ?_).trans (hw.fr.block b hb hx)
    rcases (hS b e1.symm).1 with h | h
    · omega
    · exact hx h
  · exact fun b o hb hx => hw.old b o hb hx
  · exact hw.ext.trans (hle.weak fun _ _ => trivial)
theorem reps_set {g : Gh} : ∀ {ts : List T} {xs : List Value}, Reps g ts xs → ∀ {m : Nat} {t : T} {x : Value}, RepT g t x → Reps g (ts.set m t) (xs.set m x)
  | _, _, .nil, _, _, _, _ => .nil
  | _, _, .cons _ ht, 0, _, _, h => .cons h ht
  | _, _, .cons h1 ht, _ + 1, _, _, h => .cons h1 (reps_set ht h)
/-- A place of the last one is one of the row's. -/
theorem fr_at {g : Gh} {w : World} {id e k ver : Nat} {l : List D} {ts : List T} (h : ObjAt Γ g w id (.frow e k ver l ts)) (h0 : ts ≠ []) : ∃ (xs ys : List Value) (gb cap : Nat), g.len id = ver + 1 ∧ w.ownsRow 0 e k (.slice (some ⟨gb, 0, none⟩) (l.length + 1) cap) (l.length + 1) (xs ++ ys) ∧ g.row id = .slice (some ⟨gb, 0, none⟩) (l.length + 1) cap ∧
    RepLv g.S k l xs ∧ xs.length = l.length * k ∧ Reps g ts ys ∧ ts.length = k ∧ (∀ y ∈ ys, y.oneCell' = true) ∧ Mine Γ gb ∧ ∀ o, g.S gb o = none := by
  obtain ⟨xs, ys, n, hlen, hown, hrep, hR, hone, hsh, hS⟩ := h
  rcases hsh with ⟨h1, -⟩ | ⟨h1, h2⟩
  · exact absurd h1 h0
  · subst h2
    rcases hown.2 with ⟨-, e4⟩ | ⟨gb, cap, cur, e3, -⟩
    · omega
    · rw [e3] at hown
      exact ⟨xs, ys, gb, cap, hlen, hown, e3, hrep, hrep.len, hR, h1, hone, hS gb (by rw [e3]; rfl)⟩
theorem t_fr_len {t e e' : TypeId} {x : Operand} {k k' id ver n : Nat} {l : List D} {ts : List T} (ho : o.op = .call { callee := .builtin .len, args := #[x], argTypes := #[t] }) (ht : elemOf? P t = some (e', k')) (hx : opT σ x = .stk id ver .all) (hk : 0 < k) (hn : (ts = [] ∧ n = l.length) ∨ (ts ≠ [] ∧ n = l.length + 1)) :
    Tri P o σ [(id, .frow e k ver l ts)] (.d (.v (.int .i64 n))) [] :=
  .val fun Γ g objs ac w hrp hp hw => by
    have e1 := hrp x (by rw [ho]; simp [Op.operands, Call.operands])
    rw [hx] at e1
    have hid := hp _ (List.mem_singleton.2 rfl)
    obtain ⟨xs, ys, n', hlen, hown, hrep, hR, hone, hsh, hS⟩ := hw.obj id _ hid
    have hn' : n' = n := by
      rcases hsh with ⟨h1, h2⟩ | ⟨h1, h2⟩ <;> rcases hn with ⟨h3, h4⟩ | ⟨h3, h4⟩
      · omega
      · exact absurd h1 h3
      · rw [h3] at h1
        have h1 : 0 = k := h1
        omega
      · omega
    subst hn'
    obtain ⟨hu, inf, hinf, hsz⟩ := elem_spec ht
    generalize he : ac.eval x = y at e1
    cases e1 with
    | stk h1 h2 h3 =>
      have hyr : y = g.row id := h3 hlen
      obtain ⟨p, cap, hv, -⟩ := own_take hown (Nat.le_refl _)
      refine ⟨.int .i64 n', ?_, rep_v rfl⟩
      unfold execOp; rw [ho]
      simp [resolve, invoke, builtin, Builtin.len_, he, hyr, hv, run_underlying hu, goInt]
theorem t_fr_addr {t e e' : TypeId} {x i : Operand} {k id ver : Nat} {l : List D} {ts : List T} {kd : IntKind} (ho : o.op = .indexAddr t x i) (ht : elemOf? P t = some (e', k)) (hx : opT σ x = .stk id ver .all) (hi : opT σ i = .d (.v (.int kd l.length))) (h0 : ts ≠ []) :
    Tri P o σ [(id, .frow e k ver l ts)] (.stk id ver (.el (l.length * k))) [] :=
  .val fun Γ g objs ac w hrp hp hw => by
    have e1 := hrp x (by rw [ho]; simp [Op.operands])
    have e2 := hrp i (by rw [ho]; simp [Op.operands])
    rw [hx] at e1
    rw [hi] at e2
    have hid := hp _ (List.mem_singleton.2 rfl)
    obtain ⟨xs, ys, gb, cap, hlen, -, e3, -⟩ := fr_at (hw.obj id _ hid) h0
    obtain ⟨hu, inf, hinf, hsz⟩ := elem_spec ht
    generalize he : ac.eval x = y at e1
    cases e1 with
    | stk h1 h2 h3 =>
      have hyr : y = g.row id := h3 hlen
      refine ⟨.pointer (some ⟨gb, l.length * k, none⟩), ?_, .stk rfl (by omega) fun _ => by rw [e3]; rfl⟩
      unfold execOp; rw [ho]
      simp [Instr.indexAt, he, hyr, e3, inv_v e2, asIntOf, run_underlying hu, Instr.sureAddr, sizeOf, typeInfo, hinf, hsz, add_lit']
theorem t_fr_nil {e : TypeId} {x : Operand} {k id ver j : Nat} {l : List D} {ts : List T} (ho : o.op = .nilCheck x) (hx : opT σ x = .stk id ver (.el j)) (h0 : ts ≠ []) : Tri P o σ [(id, .frow e k ver l ts)] (.stk id ver (.el j)) [] :=
  .val fun Γ g objs ac w hrp hp hw => by
    have e1 := hrp x (by rw [ho]; simp [Op.operands])
    rw [hx] at e1
    have hid := hp _ (List.mem_singleton.2 rfl)
    obtain ⟨xs, ys, gb, cap, hlen, -, e3, -⟩ := fr_at (hw.obj id _ hid) h0
    have e4 := e1
    generalize he : ac.eval x = y at e1 e4
    cases e1 with
    | stk h1 h2 h3 =>
      have hyr := h3 hlen
      rw [e3] at hyr
      have hyr : y = .pointer (some ⟨gb, j, none⟩) := hyr
      exact ⟨y, by unfold execOp; rw [ho]; simp [he, hyr], e4⟩
theorem t_fr_field {e s : TypeId} {x : Operand} {f fo k id ver j : Nat} {l : List D} {ts : List T} (ho : o.op = .fieldAddr s x f) (hf : fieldOff? P s f = some fo) (hx : opT σ x = .stk id ver (.el j)) (h0 : ts ≠ []) : Tri P o σ [(id, .frow e k ver l ts)] (.stk id ver (.el (j + fo))) [] :=
  .val fun Γ g objs ac w hrp hp hw => by
    have e1 := hrp x (by rw [ho]; simp [Op.operands])
    rw [hx] at e1
    have hid := hp _ (List.mem_singleton.2 rfl)
    obtain ⟨xs, ys, gb, cap, hlen, -, e3, -⟩ := fr_at (hw.obj id _ hid) h0
    generalize he : ac.eval x = y at e1
    cases e1 with
    | stk h1 h2 h3 =>
      have hyr := h3 hlen
      rw [e3] at hyr
      have hyr : y = .pointer (some ⟨gb, j, none⟩) := hyr
      refine ⟨.pointer (some ⟨gb, j + fo, none⟩), ?_, .stk rfl (by omega) fun _ => by rw [e3]; rfl⟩
      unfold fieldOff? at hf
      split at hf
      · next fs hu =>
        split at hf
        · next fl hfl =>
          split at hf
          · next inf hinf =>
            split at hf
            · cases hf
            · next hz =>
              cases hf
              unfold execOp; rw [ho]
              simp [Instr.fieldAt, he, hyr, run_underlying hu, hfl, Instr.sureAddr, fieldPlace, sizeOf, typeInfo, hinf, hz, add_lit']
          · cases hf
        · cases hf
      · cases hf
theorem t_fr_load {t e : TypeId} {x : Operand} {k id ver m c : Nat} {l : List D} {ts : List T} {u : T} (ho : o.op = .load t x) (ht : aggOf? P t = some (false, c)) (hx : opT σ x = .stk id ver (.el (l.length * k + m))) (hu : ts[m]? = some u) : Tri P o σ [(id, .frow e k ver l ts)] u [] :=
  .val fun Γ g objs ac w hrp hp hw => by
    have e1 := hrp x (by rw [ho]; simp [Op.operands])
    rw [hx] at e1
    have hid := hp _ (List.mem_singleton.2 rfl)
    obtain ⟨xs, ys, gb, cap, hlen, hown, e3, hrep, hxl, hR, -, -, -⟩ := fr_at (hw.obj id _ hid) (by rintro rfl; simp at hu)
    generalize he : ac.eval x = y at e1
    cases e1 with
    | stk h1 h2 h3 =>
      have hyr := h3 hlen
      rw [e3] at hyr
      have hyr : y = .pointer (some ⟨gb, l.length * k + m, none⟩) := hyr
      obtain ⟨z, hz, hzr⟩ := reps_at hR hu
      have hzx : (xs ++ ys)[l.length * k + m]? = some z := by rw [List.getElem?_append_right (by omega), ← hxl, Nat.add_sub_cancel_left]; exact hz
      have hc := own_get hown (b := gb) rfl hzx
      exact ⟨z, by unfold execOp; rw [ho]; simp [he, hyr, load_run ht hc], hzr⟩
theorem own_putk {w w' : World} {e k n cap gb : Nat} {cur : Array Value} {xs : List Value} {i : Nat} {u : Value} (h : w.ownsRow 0 e k (.slice (some ⟨gb, 0, none⟩) n cap) n xs) (hc : w.heap[gb]? = some (.cells cur e (0, 0))) (hi : i < n * k)
    (h' : w'.heap[gb]? = some (.cells (cur.toList.take (0 + i) ++ [u] ++ cur.toList.drop (0 + i + 1)).toArray e (0, 0))) : w'.ownsRow 0 e k (.slice (some ⟨gb, 0, none⟩) n cap) n (xs.set i u) := by
  obtain ⟨h1, h2⟩ := h
  refine ⟨by rw [List.length_set]; exact h1, .inr ?_⟩
  rcases h2 with ⟨c1, -⟩ | ⟨gb', cap', cur', c1, c2, c3, c4, c5, c6, c7⟩
  · cases c1
  · simp only [Value.slice.injEq, Option.some.injEq, Addr.mk.injEq, and_true, true_and] at c1
    obtain ⟨rfl, rfl⟩ := c1
    rw [hc] at c3
    cases c3
    have hle : n * k ≤ cap * k := Nat.mul_le_mul_right _ c4
    have hlen : i < cur.toList.length := by rw [Array.length_toList, c6]; omega
    rw [Nat.zero_add, set_parts _ _ _ hlen] at h'
    refine ⟨gb, cap, _, rfl, c2, h', c4, c5, by simpa using c6, ?_⟩
    rw [← c7, List.take_set]
theorem t_fr_store {t e : TypeId} {bb : Bool} {x v : Operand} {k id ver m c ver2 : Nat} {l : List D} {ts : List T} (ho : o.op = .store t x v) (ht : aggOf? P t = some (bb, 1)) (hx : opT σ x = .stk id ver (.el (l.length * k + m))) (hv : opT σ v = .stk c ver2 .all) (hm : m < ts.length) :
    Tri P o σ [(id, .frow e k ver l ts)] .und [(id, .frow e k ver l (ts.set m (.stk c ver2 .all)))] := by
  intro Γ g objs a w Q hr hp hw
  have e1 := rep_op hr (x := x) (by rw [ho]; simp [Op.operands])
  have e2 := rep_op hr (x := v) (by rw [ho]; simp [Op.operands])
  rw [hx] at e1
  rw [hv] at e2
  have hid := hp _ (List.mem_singleton.2 rfl)
  obtain ⟨xs, ys, gb, cap, hlen, hown, e3, hrep, hxl, hR, htl, hone, hMi, hSn⟩ := fr_at (hw.obj id _ hid) (by rintro rfl; simp at hm)
  generalize hy2 : a.eval v = y2 at e2
  have hu1 : y2.oneCell' = true := by cases e2 with | stk h _ _ => exact h
  have hyl : ys.length = ts.length := reps_len hR
  generalize hy : a.eval x = y at e1
  cases e1 with
  | stk q1 q2 q3 =>
    have hyv := q3 hlen
    rw [e3] at hyv
    have hyv : y = .pointer (some ⟨gb, l.length * k + m, none⟩) := hyv
    have hown0 := hown
    rcases hown0.2 with ⟨c1, -⟩ | ⟨gb', cap', cur, c1, c2, c3, c4, c5, c6, c7⟩
    · cases c1
    · simp only [Value.slice.injEq, Option.some.injEq, Addr.mk.injEq, and_true, true_and] at c1
      obtain ⟨rfl, rfl⟩ := c1
      have hlt : l.length * k + m < (l.length + 1) * k := by rw [Nat.succ_mul]; omega
      have hle : (l.length + 1) * k ≤ cap * k := Nat.mul_le_mul_right _ c4
      have hcl : y2.cells.toList = [y2] := by cases y2 <;> first | rfl | cases hu1
      obtain ⟨w', r1, r2, r3, -⟩ := store_run (P := P) (b := gb) (off := l.length * k + m) (e := e) [y2] 0 w cur.toList (by simpa using c3) (by have e4 : cur.toList.length = cur.size := Array.length_toList; rw [e4, c6]; simp only [List.length_singleton]; omega) (by simpa using hu1)
      have hrun : (Instr.storeAt t (.pointer (some ⟨gb, l.length * k + m, none⟩)) y2).run P w = .ok () w' := by
        have hsz : y2.cells.size = 1 := by rw [← Array.length_toList, hcl]; rfl
        simp only [Instr.storeAt, Instr.sureAddr, storeVar, Sem.run_bind, Sem.run_pure, Result.andThen_ok, (agg_spec ht w).2, hsz, ne_eq, not_true_eq_false, if_false, hcl, r1]
      unfold Oper.wp execOp
      simp only [ho, hy, hy2, hyv, Sem.run_bind, hrun, Result.andThen_ok, Sem.run_pure]
      have hown2 : w'.ownsRow 0 e k (.slice (some ⟨gb, 0, none⟩) (l.length + 1) cap) (l.length + 1) (xs ++ ys.set m y2) := by
        have := own_putk hown c3 hlt (by rw [Nat.add_zero] at r2; rw [Nat.zero_add]; simpa using r2)
        rwa [List.set_append_right _ _ (by omega), ← hxl, Nat.add_sub_cancel_left] at this
      refine ⟨g, undef, rfl, GLe.refl _ _, .und, hw.touch hid r3 (by show (g.row id).ownBlock = some gb; rw [e3]; rfl) hSn ⟨xs, ys.set m y2, l.length + 1, hlen, by rw [e3]; exact hown2, hrep, reps_set hR e2, fun z hz => ?_, .inr ⟨by rw [List.length_set]; exact htl, rfl⟩, fun b hb => ?_⟩ fun b hb => hb⟩
      · rcases List.mem_or_eq_of_mem_set hz with h | h
        · exact hone z h
        · rw [h]; exact hu1
      · rw [e3] at hb; cases hb; exact ⟨hMi, hSn⟩
end
end Go.Proofs.YtddmcmkhjkleoaaGreatDoor
end

section
namespace Go.Proofs.YtddmcmkhjkleoaaGreatDoor
open Go.RowKit

theorem ovr_tail {objs : Objs} : ∀ {a b : Ob}, (∀ p ∈ b, objs p.1 = some p.2) → ovr objs (a ++ b) = ovr objs a
  | [], b, h => by
    funext i
    show (b.lookup i).elim (objs i) some = objs i
    cases hl : b.lookup i with
    | none => rfl
    | some ob => exact (h _ (objL_mem (l := b) hl)).symm
  | p :: a, b, h => by
    funext i
    have ih := congrFun (ovr_tail (objs := objs) (a := a) h) i
    unfold ovr at ih ⊢
    rw [List.cons_append, List.lookup_cons, List.lookup_cons]
    cases (i == p.1) with
    | true => rfl
    | false => exact ih
theorem Tri.prune {P : Program} {o : Oper} {σ : Nat → T} {pre a b : Ob} {v : T} (h : Tri P o σ pre v (a ++ b)) (hb : ∀ p ∈ b, p ∈ pre) : Tri P o σ pre v a := by
  intro Γ g objs ac w Q h1 h2 h3
  have := h Γ g objs ac w Q h1 h2 h3
  rwa [ovr_tail fun p hp => h2 p (hb p hp)] at this
/-- A call that leaves what stands behind the first n of its post as it was (behind the first m of its pre). -/
theorem gen_oP {P : Program} {o : Oper} {E : En} {L : Ob} {k : KO} (R : List (Nat × Nat)) (n m : Nat) {f : FuncId} {xs : List Operand} {ts : Array TypeId} {args : List T} {pre post : Ob} {res : T} (ho : o.op = .call { callee := .value (.func f), args := xs.toArray, argTypes := ts }) (hE : ∀ args w, (callFunc f args).run P w = .ok (.enter f args) w) (hC : FnO P f args pre res post)
    (hx : TLes (sl E) xs (T.rens (rn R) args)) (hc : chkO (R.map (·.1)) (rn R) args pre res post = true) (hp : AllO L (renP (rn R) pre ++ (newsOf (R.map (·.1)) pre).map fun i => (rn R i, .vac))) (hT : post.drop n = pre.drop m)
    (hk : k ((renP (rn R) pre ++ (newsOf (R.map (·.1)) pre).map fun i => (rn R i, GObj.vac)).map Prod.fst) (res.ren (rn R)) (renP (rn R) (post.take n))) : gen P o E L k := by
  have h := t_callo (σ := sl E) R ho hE hC hx hc
  have e : renP (rn R) post = renP (rn R) (post.take n) ++ renP (rn R) (post.drop n) := by unfold renP; rw [← List.map_append, List.take_append_drop]
  rw [e] at h
  refine ⟨_, _, _, h.prune fun p hp => ?_, hp.mem, hk⟩
  rw [hT] at hp
  obtain ⟨q, hq, rfl⟩ := List.mem_map.1 hp
  exact List.mem_append_left _ (List.mem_map.2 ⟨q, List.mem_of_mem_drop hq, rfl⟩)
/-- A line of an order: whether it can't be read; else its numbers, and whether they are none. -/
def orderBad (l : List (List UInt8)) : Bool := !(l.length == namedM (l.getD 0 []) + 2) || !((l.getD (namedM (l.getD 0 []) + 1) []).getD 0 0 == 64)
def orderN (l : List (List UInt8)) : List Int := ((l.drop 1).take (namedM (l.getD 0 []))).map numV ++ [0, 0, 0]
def orderI (op : Int) (l : List (List UInt8)) : InR := ⟨op, (orderN l).getD 0 0, (orderN l).getD 1 0, (orderN l).getD 2 0, numV ((l.getD (namedM (l.getD 0 []) + 1) []).drop 1)⟩
def orderB2 (l : List (List UInt8)) : Bool := ((l.drop 1).take (namedM (l.getD 0 []))).any numB || numB ((l.getD (namedM (l.getD 0 []) + 1) []).drop 1)
abbrev FnT (v2 v3 : Nat) (p r : Int) (g : Bool) : List T := [intT p, intT r, boolT g, .stk 1005 v2 .all, .stk 1006 v3 .all]
set_option maxRecDepth 100000 in
set_option maxHeartbeats 1000000 in
theorem rorder_bad (op : Int) (l : List (List UInt8)) (h1 : l ≠ []) (hl : l.length ≤ 3000000) (hw : ∀ w ∈ l, w.length ≤ 1000000000 ∧ w ≠ []) (hB : orderBad l = true) (v1 : Nat) (dn : List D) (p r : Int) (g : Bool) (cs tx : List D) (M : List (Value × D)) (v2 : Nat) (ca : List D) (v3 : Nat) (co : List D) (b : Bool) :
    FnO Tryz.prog 44 [.ref 1000 0, .stk 1001 v1 (.el (dn.length * 5)), intT op, .d (txD l)] (RO v1 dn (FnT v2 v3 p r g) cs tx M v2 ca v3 co b) (.tup []) (RO v1 dn (FnT v2 v3 p r g) cs tx M v2 ca v3 co true) := by
  have hL0 : (l.map strD)[0]? = some (strD (l.getD 0 [])) := by cases l with | nil => exact absurd rfl h1 | cons w l => rfl
  have h0w := (hw (l.getD 0 []) (by cases l with | nil => exact absurd rfl h1 | cons w l => simp)).1
  have hN := named_fn (l.getD 0 []) (by omega)
  have hnm := named_le (l.getD 0 [])
  have hlen : (l.map strD).length = l.length := List.length_map _
  unfold orderBad at hB
  have hat : l.length = namedM (l.getD 0 []) + 2 → ∃ c w, (l.map strD)[namedM (l.getD 0 []) + 1]? = some (strD (c :: w)) ∧ l.getD (namedM (l.getD 0 []) + 1) [] = c :: w := fun e => by
    have hlt : namedM (l.getD 0 []) + 1 < l.length := by omega
    have hne := (hw l[namedM (l.getD 0 []) + 1] (List.getElem_mem hlt)).2
    have e1 : l.getD (namedM (l.getD 0 []) + 1) [] = l[namedM (l.getD 0 []) + 1] := by rw [List.getD_eq_getElem?_getD, List.getElem?_eq_getElem hlt]; rfl
    cases hx : l[namedM (l.getD 0 []) + 1] with
    | nil => exact absurd hx hne
    | cons c w => exact ⟨c, w, by rw [List.getElem?_map, List.getElem?_eq_getElem hlt, hx]; rfl, by rw [e1, hx]⟩
  show FnO _ _ [.ref 1000 0, .stk 1001 v1 (.el (dn.length * 5)), intT op, .d (.sl 1 (l.map strD))] _ _ _
  generalize l.getD 0 [] = w0 at *
  generalize namedM w0 = m at *
  have hw2 : IntKind.i64.wrap ((m : Int) + 2) = ((m + 2 : Nat) : Int) := by rw [wrap_in (by omega) (by omega)]; omega
  by_cases hlm : l.length = m + 2
  · obtain ⟨c, w, q1, q2⟩ := hat hlm
    rw [q2, hlm] at hB
    simp only [beq_self_eq_true, Bool.not_true, Bool.false_or, List.getD_cons_zero] at hB
    have hc : c ≠ 64 := fun e => by subst e; simp at hB
    have hq0 : (c :: w)[0]? = some c := rfl
    have k2 : ((c.toNat : Int) != 64) = true := by rw [bne_iff_ne]; intro e; exact hc (by rw [← UInt8.toNat_inj]; show c.toNat = 64; omega)
    rw [hlm] at hlen
    generalize c :: w = cw at *
    generalize l.map strD = L at *
    have k1 : ((L.length : Int) != ((m + 2 : Nat) : Int)) = false := by rw [bne_eq_false_iff_eq]; omega
    refine FnO.of0 (n := 67) [] fax_ok Tryz.func44 rfl rfl rfl (by rfl) (by rfl) (by kernel_rfl) fun Γ hA hbA hbO => ?_
    (repeat ((conv => whnf); (first | with_reducible refine exE (α := Int) _ (by assumption) ?_ | with_reducible refine exE _ (w_inc (by omega)) ?_ | refine exR ?_ | refine gd (enters_of Tryz.func33 rfl rfl) hN ?_ | refine tT ?_ | refine tF ?_ | refine uT ?_ | refine exI _ rfl (by assumption) ?_ | refine exB _ rfl (by assumption) ?_)))
    exact ⟨eN, rS, fiO⟩
  · generalize l.map strD = L at *
    have k1 : ((L.length : Int) != ((m + 2 : Nat) : Int)) = true := by rw [bne_iff_ne]; omega
    refine FnO.of0 (n := 67) [] fax_ok Tryz.func44 rfl rfl rfl (by rfl) (by rfl) (by kernel_rfl) fun Γ hA hbA hbO => ?_
    (repeat ((conv => whnf); (first | with_reducible refine exE (α := Int) _ (by assumption) ?_ | refine exR ?_ | refine gd (enters_of Tryz.func33 rfl rfl) hN ?_ | refine tT ?_ | refine uF ?_ | refine exI _ rfl (by assumption) ?_)))
    exact ⟨eN, rS, fiO⟩
set_option maxRecDepth 100000 in
set_option maxHeartbeats 1000000 in
theorem rorder_ok (op : Int) (l : List (List UInt8)) (h1 : l ≠ []) (hl : l.length ≤ 3000000) (hw : ∀ w ∈ l, w.length ≤ 1000000000 ∧ w ≠ []) (hB : orderBad l = false) (v1 : Nat) (dn : List D) (p r : Int) (g : Bool) (cs tx : List D) (M : List (Value × D)) (v2 : Nat) (ca : List D) (v3 : Nat) (co : List D) (b : Bool) (hco : co.length ≤ 5000000) :
    FnO Tryz.prog 44 [.ref 1000 0, .stk 1001 v1 (.el (dn.length * 5)), intT op, .d (txD l)] (RO v1 dn (FnT v2 v3 p r g) cs tx M v2 ca v3 co b) (.tup []) (RO v1 dn (FnT v2 (v3 + 1) p r g) cs tx M v2 ca (v3 + 1) (co ++ [inD (orderI op l)]) (b || orderB2 l)) := by
  have hL0 : (l.map strD)[0]? = some (strD (l.getD 0 [])) := by cases l with | nil => exact absurd rfl h1 | cons w l => rfl
  have h0w := (hw (l.getD 0 []) (by cases l with | nil => exact absurd rfl h1 | cons w l => simp)).1
  have hN := named_fn (l.getD 0 []) (by omega)
  have hnm := named_le (l.getD 0 [])
  have hlen : (l.map strD).length = l.length := List.length_map _
  unfold orderBad at hB
  simp only [Bool.or_eq_false_iff, Bool.not_eq_false', beq_iff_eq] at hB
  obtain ⟨hlm, h64⟩ := hB
  have hlt : namedM (l.getD 0 []) + 1 < l.length := by omega
  have e1 : l.getD (namedM (l.getD 0 []) + 1) [] = l[namedM (l.getD 0 []) + 1] := by rw [List.getD_eq_getElem?_getD, List.getElem?_eq_getElem hlt]; rfl
  have hLm : (l.map strD)[namedM (l.getD 0 []) + 1]? = some (strD (l.getD (namedM (l.getD 0 []) + 1) [])) := by rw [List.getElem?_map, List.getElem?_eq_getElem hlt, e1]; rfl
  have hlw := hw (l.getD (namedM (l.getD 0 []) + 1) []) (by rw [e1]; exact List.getElem_mem hlt)
  have hnum := fun w h b => number_fn w h v1 dn (FnT v2 v3 p r g) cs tx M v2 ca v3 co b (.inr ⟨p, r, g, rfl⟩)
  have hnums := rnumbers_fn ((l.drop 1).take (namedM (l.getD 0 []))) (by rw [List.length_take]; omega) (fun w h => (hw w (List.mem_of_mem_drop (List.mem_of_mem_take h))).1) v1 dn (FnT v2 v3 p r g) cs tx M v2 ca v3 co b (.inr ⟨p, r, g, rfl⟩)
  have e2 : txD ((l.drop 1).take (namedM (l.getD 0 []))) = .sl 1 (((l.map strD).drop 1).take (namedM (l.getD 0 []) + 1 - 1)) := by unfold txD; rw [List.map_take, List.map_drop, Nat.add_sub_cancel]
  rw [e2] at hnums
  have hzl : (numsD ((l.drop 1).take (namedM (l.getD 0 [])))).length ≤ 3 := by simp only [numsD, List.length_map, List.length_take]; omega
  have hz : numsD ((l.drop 1).take (namedM (l.getD 0 []))) ++ [iD 0, iD 0, iD 0] = (orderN l).map iD := by unfold orderN; rw [List.map_append]; rfl
  have hz3 : 3 ≤ ((orderN l).map iD).length := by rw [← hz]; simp
  have hza : ∀ i, i < 3 → ((orderN l).map iD)[i]? = some (iD ((orderN l).getD i 0)) := fun i hi => by
    have : i < (orderN l).length := by rw [List.length_map] at hz3; omega
    rw [List.getElem?_map, List.getElem?_eq_getElem this, List.getD_eq_getElem?_getD, List.getElem?_eq_getElem this]; rfl
  have z0 := hza 0 (by omega)
  have z1 := hza 1 (by omega)
  have z2 := hza 2 (by omega)
  clear hza hz3
  rw [← hz] at z0 z1 z2
  clear hz e2
  show FnO _ _ [.ref 1000 0, .stk 1001 v1 (.el (dn.length * 5)), intT op, .d (.sl 1 (l.map strD))] _ _ _
  unfold orderI orderB2
  rw [show (b || (((l.drop 1).take (namedM (l.getD 0 []))).any numB || numB ((l.getD (namedM (l.getD 0 []) + 1) []).drop 1))) = ((b || ((l.drop 1).take (namedM (l.getD 0 []))).any numB) || numB ((l.getD (namedM (l.getD 0 []) + 1) []).drop 1)) from (Bool.or_assoc _ _ _).symm]
  generalize numsD ((l.drop 1).take (namedM (l.getD 0 []))) = Z at *
  generalize (b || ((l.drop 1).take (namedM (l.getD 0 []))).any numB) = b1 at *
  generalize (orderN l).getD 0 0 = n0 at *
  generalize (orderN l).getD 1 0 = n1 at *
  generalize (orderN l).getD 2 0 = n2 at *
  generalize l.getD (namedM (l.getD 0 []) + 1) [] = wl at *
  obtain ⟨c, w, rfl⟩ : ∃ c w, wl = c :: w := by cases wl with | nil => exact absurd rfl hlw.2 | cons c w => exact ⟨c, w, rfl⟩
  rw [List.getD_cons_zero] at h64
  have hq0 : (c :: w)[0]? = some c := rfl
  have k2 : ((c.toNat : Int) != 64) = false := by rw [h64]; rfl
  have hwl := hlw.1
  have hN1 := hnum ((c :: w).drop 1) (by rw [List.length_drop]; omega) b1
  have hcl : 1 ≤ (c :: w).length := by simp
  generalize c :: w = cw at *
  generalize numV (cw.drop 1) = nl at *
  generalize numB (cw.drop 1) = nb at *
  generalize l.getD 0 [] = w0 at *
  generalize namedM w0 = m at *
  have hw2 : IntKind.i64.wrap ((m : Int) + 2) = ((m + 2 : Nat) : Int) := by rw [wrap_in (by omega) (by omega)]; omega
  generalize l.map strD = L at *
  have k1 : ((L.length : Int) != ((m + 2 : Nat) : Int)) = false := by rw [bne_eq_false_iff_eq]; omega
  refine FnO.of0 (n := 67) [36] fax_ok Tryz.func44 rfl rfl rfl (by rfl) (by rfl) (by kernel_rfl) fun Γ hA hbA hbO => ?_
  (repeat ((conv => whnf); (first | with_reducible refine exE (α := Int) _ (by assumption) ?_ | with_reducible refine exE _ (w_inc (by omega)) ?_ | refine exR ?_ | refine gd (enters_of Tryz.func33 rfl rfl) hN ?_ | refine tF ?_ | refine uT ?_ | refine exI _ rfl (by assumption) ?_ | refine exB _ rfl (by assumption) ?_)))
  refine ⟨1, m + 1, rfl, rfl, by omega, by omega, ?_⟩
  (repeat ((conv => whnf); (first | refine gO [(5, 36), (1000, 1000), (1001, 1001), (1002, 1002), (1003, 1003), (1004, 1004), (1005, 1005), (1006, 1006)] (enters_of Tryz.func43 rfl rfl) hnums ?_ | refine And.intro rfl ?_ | refine lQ ?_)))
  refine gen_one (t_fr_nil (e := 39) (k := 5) (l := dn) (ts := FnT v2 v3 p r g) rfl rfl (by simp)) rfl ?_
  skip
  refine gen_one (t_fr_field (e := 39) (k := 5) (l := dn) (ts := FnT v2 v3 p r g) (fo := 4) rfl (by kernel_rfl) rfl (by simp)) rfl ?_
  skip
  refine gen_one (t_fr_load (e := 39) (k := 5) (m := 4) (c := 1) (l := dn) (ts := FnT v2 v3 p r g) rfl (by kernel_rfl) rfl rfl) rfl ?_
  (repeat ((conv => whnf); (first | with_reducible refine exE _ (w_inc (by omega)) ?_ | refine gen_oP idR 1 1 rfl (enters_of Tryz.func74 rfl rfl) (hN1) (by (repeat (first | exact TLes.nil | refine TLes.cons (TLe.of_eq rfl) ?_ | refine TLes.cons TLe.own ?_ | refine TLes.cons TLe.nil ?_)); (first | done | fail)) rfl (by (repeat (first | exact trivial | refine And.intro rfl ?_)); (first | done | fail)) rfl ?_ | refine And.intro rfl ?_ | refine lQ ?_ | refine exI _ rfl (by assumption) ?_ | refine nA _ rfl ?_)))
  refine gen_one (t_fr_nil (e := 39) (k := 5) (l := dn) (ts := FnT v2 v3 p r g) rfl rfl (by simp)) rfl ?_
  skip
  refine gen_one (t_fr_field (e := 39) (k := 5) (l := dn) (ts := FnT v2 v3 p r g) (fo := 4) rfl (by kernel_rfl) rfl (by simp)) rfl ?_
  skip
  refine gen_one (t_fr_store (e := 39) (bb := false) (k := 5) (m := 4) (l := dn) (ts := FnT v2 v3 p r g) rfl (by kernel_rfl) rfl rfl (by simp)) rfl ?_
  (repeat ((conv => whnf); refine oB ?_))
  exact ⟨eN, rS, fiO⟩
end Go.Proofs.YtddmcmkhjkleoaaGreatDoor
end

section
namespace Go.Proofs.YtddmcmkhjkleoaaGreatDoor
open Go.RowKit
section
variable {P : Program} {Γ : Cx} {o : Oper} {σ : Nat → T}
abbrev nilV : Value := .slice none 0 0
abbrev iD0 (n : Int) : D := .v (.int .i64 n)
abbrev bD0 (b : Bool) : D := .v (.bool b)
/-- The last one's parts as data. -/
def lastD (ca co : List D) (ts : List T) : List D := match ts with
  | [.d p, .d r, .d g, _, _] => [.agg [p, r, g, .sl 1 ca, .sl 5 co]]
  | _ => []
def FrTs (c2 v2 c3 v3 : Nat) (ts : List T) : Prop := ts = [] ∨ ∃ (p r : Int) (g : Bool), ts = [intT p, intT r, boolT g, .stk c2 v2 .all, .stk c3 v3 .all]
theorem ovr_one (objs : Objs) (i j : Nat) (ob : GObj) : ovr objs [(i, ob)] j = if j = i then some ob else objs j := by
  unfold ovr
  by_cases h : j = i
  · subst h; simp
  · have : (j == i) = false := by simpa using h
    simp [List.lookup, this, h]
theorem inv_stk {g : Gh} {c v : Nat} {y : Value} (h : RepT g (.stk c v .all) y) (hl : g.len c = v + 1) : y = g.row c := by cases h with | stk _ _ h => exact h hl
theorem fr_freeze {g : Gh} {objs : Objs} {w : World} {id c2 c3 e e2 e3 v1 v2 v3 : Nat} {dn ca co : List D} {ts : List T} (hw : WI Γ g objs w) (h1 : objs id = some (.frow e 5 v1 dn ts)) (h2 : objs c2 = some (.stk e2 1 v2 ca)) (h3 : objs c3 = some (.stk e3 5 v3 co))
    (n12 : id ≠ c2) (n13 : id ≠ c3) (n23 : c2 ≠ c3) (hts : FrTs c2 v2 c3 v3 ts) :
    ∃ S', GLe (fun _ => True) g ⟨S', g.blk, g.row, g.len⟩ ∧ WI Γ ⟨S', g.blk, g.row, g.len⟩ (ovr (ovr objs [(c2, .gone)]) [(c3, .gone)]) w ∧ g.len c2 = v2 + 1 ∧ g.len c3 = v3 + 1 ∧
      ∃ xs, g.len id = v1 + 1 ∧ w.ownsRow 0 e 5 (g.row id) (dn ++ lastD ca co ts).length xs ∧ RepLv S' 5 (dn ++ lastD ca co ts) xs ∧ ∀ b, (g.row id).ownBlock = some b → Mine Γ b ∧ ∀ o, S' b o = none := by
  obtain ⟨xs2, l2, o2, r2, s2⟩ := hw.obj c2 _ h2
  obtain ⟨k1, k2⟩ := hw.freeze h2 fun b hb => (s2 b hb).2
  have h3' : ovr objs [(c2, .gone)] c3 = some (.stk e3 5 v3 co) := by rw [ovr_one, if_neg (Ne.symm n23)]; exact h3
  obtain ⟨xs3, l3, o3, r3, s3⟩ := k2.obj c3 _ h3'
  obtain ⟨k3, k4⟩ := k2.freeze h3' fun b hb => (s3 b hb).2
  have hle := k1.trans k3
  have h1' : ovr (ovr objs [(c2, .gone)]) [(c3, .gone)] id = some (.frow e 5 v1 dn ts) := by rw [ovr_one, if_neg n13, ovr_one, if_neg n12]; exact h1
  obtain ⟨xs, ys, n, hlen, hown, hrep, hR, hone, hsh, hS⟩ := k4.obj id _ h1'
  refine ⟨_, hle, k4, l2, l3, xs ++ ys, hlen, ?_⟩
  have f2 : RepD (frzS g.S w ((GObj.stk e2 1 v2 ca).blk g c2)) (.sl 1 ca) (g.row c2) := frz_row o2 r2 k1.S fun b hb => hb
  have f2' := f2.mono k3.S
  have f3 : RepD (frzS (frzS g.S w ((GObj.stk e2 1 v2 ca).blk g c2)) w ((GObj.stk e3 5 v3 co).blk ⟨frzS g.S w ((GObj.stk e2 1 v2 ca).blk g c2), g.blk, g.row, g.len⟩ c3)) (.sl 5 co) (g.row c3) := frz_row o3 r3 k3.S fun b hb => hb
  rcases hts with rfl | ⟨p, r, gg, rfl⟩
  · cases hR
    rcases hsh with ⟨-, hn⟩ | ⟨hn, -⟩
    · subst hn
      rw [List.append_nil] at hown ⊢
      show _ ∧ RepLv _ 5 (dn ++ []) xs ∧ _
      rw [show lastD ca co [] = [] from rfl, List.append_nil]
      exact ⟨hown, hrep, hS⟩
    · cases hn
  · rcases hsh with ⟨hn, -⟩ | ⟨-, hn⟩
    · cases hn
    · subst hn
      rw [show lastD ca co [intT p, intT r, boolT gg, .stk c2 v2 .all, .stk c3 v3 .all] = [.agg [iD0 p, iD0 r, bD0 gg, .sl 1 ca, .sl 5 co]] from rfl]
      refine ⟨by rw [List.length_append]; exact hown, hrep.app ?_, hS⟩
      cases hR with | cons q1 hR => cases hR with | cons q2 hR => cases hR with | cons q3 hR => cases hR with | cons q4 hR => cases hR with | cons q5 hR =>
      cases hR
      cases inv_v q1
      cases inv_v q2
      cases inv_v q3
      have hy4 := inv_stk q4 l2
      have hy5 := inv_stk q5 l3
      dsimp only at hy4 hy5
      subst hy4 hy5
      have h4 := hone (g.row c2) (by simp)
      have h5 := hone (g.row c3) (by simp)
      have := RepLv.cons (k := 5) (d := .agg [iD0 p, iD0 r, bD0 gg, .sl 1 ca, .sl 5 co]) (.cons (.v rfl) rfl (.cons (.v rfl) rfl (.cons (.v rfl) rfl (.cons f2' h4 (.cons f3 h5 .nil))))) rfl (RepLv.nil (S := frzS (frzS g.S w ((GObj.stk e2 1 v2 ca).blk g c2)) w ((GObj.stk e3 5 v3 co).blk ⟨frzS g.S w ((GObj.stk e2 1 v2 ca).blk g c2), g.blk, g.row, g.len⟩ c3)))
      simpa using this
/-- Stacks that are begun anew. -/
def setN (g : Gh) (c2 c3 : Nat) : Gh := ⟨g.S, g.blk, fun i => if i = c2 ∨ i = c3 then nilV else g.row i, fun i => if i = c2 ∨ i = c3 then g.len i + 1 else g.len i⟩
theorem setN_le (g : Gh) (c2 c3 : Nat) : GLe (fun _ => True) g (setN g c2 c3) := by
  refine ⟨SLe.refl _, fun _ _ _ => rfl, fun i _ => ?_, fun i _ h => ?_⟩
  · simp only [setN]; split <;> omega
  · simp only [setN] at h ⊢
    split
    · next h1 => rw [if_pos h1] at h; omega
    · rfl
theorem three_lookup {i a b j : Nat} {x y z : GObj} (h1 : i ≠ a) (h2 : i ≠ b) (h3 : a ≠ b) : ([(i, x), (a, y), (b, z)] : List (Nat × GObj)).lookup j = if j = i then some x else if j = a then some y else if j = b then some z else none := by
  by_cases e1 : j = i
  · subst e1; simp
  · have f1 : (j == i) = false := by simpa using e1
    by_cases e2 : j = a
    · subst e2; simp [List.lookup, f1, e1]
    · have f2 : (j == a) = false := by simpa using e2
      by_cases e3 : j = b
      · subst e3; simp [List.lookup, f1, f2, e1, e2]
      · have f3 : (j == b) = false := by simpa using e3
        simp [List.lookup, f1, f2, f3, e1, e2, e3]
set_option maxHeartbeats 1000000 in
theorem t_fr_app {s x : Operand} {t e : TypeId} {b id c2 c3 e2 e3 v1 v2 v3 : Nat} {dn ca co : List D} {ts : List T} {p r : Int} {gg : Bool} (ho : o.op = .call { callee := .builtin .append, args := #[s, x], argTypes := #[t, t] }) (hT : rowT? P t = some (e, 5, b)) (hs : opT σ s = .stk id v1 .all)
    (hx : TLe (opT σ x) (.d (.sl 5 [.agg [iD0 p, iD0 r, bD0 gg, .v nilV, .v nilV]]))) (n12 : id ≠ c2) (n13 : id ≠ c3) (n23 : c2 ≠ c3) (hts : FrTs c2 v2 c3 v3 ts) (hn : dn.length + 2 ≤ 10000000) :
    Tri P o σ [(id, .frow e 5 v1 dn ts), (c2, .stk e2 1 v2 ca), (c3, .stk e3 5 v3 co)] (.stk id (v1 + 1) .all)
      [(id, .frow e 5 (v1 + 1) (dn ++ lastD ca co ts) [intT p, intT r, boolT gg, .stk c2 (v2 + 1) .all, .stk c3 (v3 + 1) .all]), (c2, .stk e2 1 (v2 + 1) []), (c3, .stk e3 5 (v3 + 1) [])] := by
  intro Γ g objs a w Q hr hp hw
  have q1 := rep_op hr (x := s) (by rw [ho]; simp [Op.operands, Call.operands])
  have q2 := hx g _ (rep_op hr (x := x) (by rw [ho]; simp [Op.operands, Call.operands]))
  rw [hs] at q1
  have h1 := hp (id, .frow e 5 v1 dn ts) (by simp)
  have h2 := hp (c2, .stk e2 1 v2 ca) (by simp)
  have h3 := hp (c3, .stk e3 5 v3 co) (by simp)
  obtain ⟨S', hle, hw2, l2, l3, xs, hlen, hown, hrep, hS⟩ := fr_freeze hw h1 h2 h3 n12 n13 n23 hts
  have hll : (lastD ca co ts).length ≤ 1 := by rcases hts with rfl | ⟨_, _, _, rfl⟩ <;> simp [lastD]
  generalize lastD ca co ts = la at *
  have hy := inv_stk q1 hlen
  generalize hz : a.eval x = z at q2
  cases q2 with
  | d q2 =>
  cases q2 with
  | @sl _ _ pa cap ys hm hrow hc hb hnil =>
  have hys : ys = [.int .i64 p, .int .i64 r, .bool gg, nilV, nilV] := by
    cases hm with
    | cons m1 mk mt =>
    cases mt
    cases m1 with | cons a1 _ m1 => cases m1 with | cons a2 _ m1 => cases m1 with | cons a3 _ m1 => cases m1 with | cons a4 _ m1 => cases m1 with | cons a5 _ m1 =>
    cases m1; cases a1; cases a2; cases a3; cases a4; cases a5; rfl
  subst hys
  obtain ⟨v', w', hrun, a1, a2, a3, a4, -⟩ := run_append_all w t o.type e 5 b hT (g.row id) (dn ++ la).length xs hown S' hw2.imm pa 1 cap _ (hrow.mono hle.S) rfl (by simp [Value.oneCell']) (fun e3 => by have := hnil e3; simp at hc; omega) (by rw [List.length_append]; omega)
  have h1' : ovr (ovr objs [(c2, .gone)]) [(c3, .gone)] id = some (.frow e 5 v1 dn ts) := by rw [ovr_one, if_neg n13, ovr_one, if_neg n12]; exact h1
  -- the row grows, all of it data
  obtain ⟨k1, k2⟩ := WI.rowK (ob' := .frow e 5 (v1 + 1) (dn ++ la ++ [.agg [iD0 p, iD0 r, bD0 gg, .v nilV, .v nilV]]) []) (v' := v') hw2 h1' (fun _ => Iff.rfl) (fun b hb => by simpa [GObj.blk, setK] using hb) hS a2 a3 (fun hM hG => by
    refine ⟨xs ++ [.int .i64 p, .int .i64 r, .bool gg, nilV, nilV], [], (dn ++ la).length + 1, by simp [setK, hlen], ?_, ?_, .nil, by simp, .inl ⟨rfl, by simp only [List.length_append, List.length_cons, List.length_nil]⟩, fun b hb => hM b (by simpa [setK] using hb)⟩
    · rw [List.append_nil]; simpa [setK] using a1
    · exact hrep.app (RepLv.cons (d := .agg [iD0 p, iD0 r, bD0 gg, .v nilV, .v nilV]) (xs := [.int .i64 p, .int .i64 r, .bool gg, nilV, nilV]) (.cons (.v rfl) rfl (.cons (.v rfl) rfl (.cons (.v rfl) rfl (.cons (.v rfl) rfl (.cons (.v rfl) rfl .nil))))) rfl .nil))
  -- and the last one is taken anew
  have o1 : ovr (ovr (ovr objs [(c2, .gone)]) [(c3, .gone)]) [(id, .frow e 5 (v1 + 1) (dn ++ la ++ [.agg [iD0 p, iD0 r, bD0 gg, .v nilV, .v nilV]]) [])] id = some (.frow e 5 (v1 + 1) (dn ++ la ++ [.agg [iD0 p, iD0 r, bD0 gg, .v nilV, .v nilV]]) []) := by rw [ovr_one, if_pos rfl]
  have hG2 := setN_le (setK ⟨S', g.blk, g.row, g.len⟩ id v') c2 c3
  have lk3 := fun j => three_lookup (j := j) (x := .frow e 5 (v1 + 1) (dn ++ la) [intT p, intT r, boolT gg, .stk c2 (v2 + 1) .all, .stk c3 (v3 + 1) .all]) (y := .stk e2 1 (v2 + 1) []) (z := .stk e3 5 (v3 + 1) []) n12 n13 n23
  have hk3 := WI.re (g' := setN (setK ⟨S', g.blk, g.row, g.len⟩ id v') c2 c3) (w' := w') (b0 := none) (post := [(id, .frow e 5 (v1 + 1) (dn ++ la) [intT p, intT r, boolT gg, .stk c2 (v2 + 1) .all, .stk c3 (v3 + 1) .all]), (c2, .stk e2 1 (v2 + 1) []), (c3, .stk e3 5 (v3 + 1) [])]) k2 rfl hG2 (fun i hi => by
      rw [lk3] at hi
      have m1 : i ≠ id := fun e => by rw [if_pos e] at hi; cases hi
      rw [if_neg m1] at hi
      have m2 : i ≠ c2 := fun e => by rw [if_pos e] at hi; cases hi
      rw [if_neg m2] at hi
      have m3 : i ≠ c3 := fun e => by rw [if_pos e] at hi; cases hi
      simp [setN, m2, m3]) (World.grownBy.refl _ _) (fun b hb => by cases hb) (fun i ob hi => by
      rw [lk3] at hi
      split at hi
      · next e0 =>
        cases hi
        subst e0
        obtain ⟨xs', ys', n', hlen', hown', hrep', hR', -, hsh', hS''⟩ := k2.obj _ _ o1
        cases hR'
        rcases hsh' with ⟨-, hn'⟩ | ⟨hn', -⟩
        · have hro : (setN (setK ⟨S', g.blk, g.row, g.len⟩ i v') c2 c3).row i = v' := by simp [setN, setK, n12, n13]
          have hlo : (setN (setK ⟨S', g.blk, g.row, g.len⟩ i v') c2 c3).len i = v1 + 1 + 1 := by simp [setN, setK, n12, n13, hlen]
          refine ⟨xs, [.int .i64 p, .int .i64 r, .bool gg, nilV, nilV], (dn ++ la).length + 1, hlo, by rw [hro]; exact a1, hrep, .cons (.d (.v rfl)) (.cons (.d (.v rfl)) (.cons (.d (.v rfl)) (.cons (.stk rfl ?_ fun _ => ?_) (.cons (.stk rfl ?_ fun _ => ?_) .nil)))), by simp [Value.oneCell'], .inr ⟨rfl, rfl⟩, fun b hb => ?_⟩
          · simp [setN, setK, Ne.symm n12, l2]
          · simp [setN, stkV]
          · simp [setN, setK, Ne.symm n13, l3]
          · simp [setN, stkV]
          · rw [hro] at hb
            exact hS'' b (by simpa [setK] using hb)
        · cases hn'
      · split at hi
        · next e1 e0 =>
          cases hi
          subst e0
          exact ⟨[], by simp [setN, setK, Ne.symm n12, l2], by simpa [setN] using World.ownsRow_nil w' 0 e2 1, .nil, fun b hb => by simp [setN, Value.ownBlock] at hb⟩
        · split at hi
          · next e1 e2' e0 =>
            cases hi
            subst e0
            exact ⟨[], by simp [setN, setK, Ne.symm n13, l3], by simpa [setN] using World.ownsRow_nil w' 0 e3 5, .nil, fun b hb => by simp [setN, Value.ownBlock] at hb⟩
          · cases hi) (fun i ob b hi hb => by
      rw [lk3] at hi
      split at hi
      · next e0 =>
        cases hi
        subst e0
        refine ⟨i, _, by rw [lk3, if_pos rfl]; rfl, o1, ?_⟩
        simpa [GObj.blk, setN, n12, n13] using hb
      · split at hi
        · next e0 => cases hi; subst e0; simp [GObj.blk, setN, Value.ownBlock] at hb
        · split at hi
          · next e0 => cases hi; subst e0; simp [GObj.blk, setN, Value.ownBlock] at hb
          · cases hi) (fun i j oi oj b hi hj hbi hbj => by
      have key : ∀ i oi, ([(id, GObj.frow e 5 (v1 + 1) (dn ++ la) [intT p, intT r, boolT gg, .stk c2 (v2 + 1) .all, .stk c3 (v3 + 1) .all]), (c2, .stk e2 1 (v2 + 1) []), (c3, .stk e3 5 (v3 + 1) [])] : List (Nat × GObj)).lookup i = some oi → oi.blk (setN (setK ⟨S', g.blk, g.row, g.len⟩ id v') c2 c3) i b → i = id := fun i oi hi hb => by
        rw [lk3] at hi
        split at hi
        · next e0 => exact e0
        · split at hi
          · next e0 => cases hi; subst e0; simp [GObj.blk, setN, Value.ownBlock] at hb
          · split at hi
            · next e0 => cases hi; subst e0; simp [GObj.blk, setN, Value.ownBlock] at hb
            · cases hi
      rw [key i oi hi hbi, key j oj hj hbj])
  obtain ⟨pv, cv, hvv, -⟩ := own_slice a1
  unfold Oper.wp execOp
  have hy' : a.eval s = g.row id := hy
  simp only [ho, resolve, invoke, builtin, Sem.run_bind, Sem.run_pure, Result.andThen_ok, List.map_toArray, List.map_cons, List.map_nil, hy', hz, List.length_cons, List.length_nil, Nat.zero_add, hrun]
  refine ⟨_, v', rfl, (hle.trans k1).trans hG2, .stk (by rw [hvv]; rfl) (by simp [setN, setK, n12, n13, hlen]) (fun _ => by simp [setN, setK, n12, n13, stkV]), ?_⟩
  have hobj : ovr (ovr (ovr (ovr objs [(c2, .gone)]) [(c3, .gone)]) [(id, .frow e 5 (v1 + 1) (dn ++ la ++ [.agg [iD0 p, iD0 r, bD0 gg, .v nilV, .v nilV]]) [])]) [(id, .frow e 5 (v1 + 1) (dn ++ la) [intT p, intT r, boolT gg, .stk c2 (v2 + 1) .all, .stk c3 (v3 + 1) .all]), (c2, .stk e2 1 (v2 + 1) []), (c3, .stk e3 5 (v3 + 1) [])] = ovr objs [(id, .frow e 5 (v1 + 1) (dn ++ la) [intT p, intT r, boolT gg, .stk c2 (v2 + 1) .all, .stk c3 (v3 + 1) .all]), (c2, .stk e2 1 (v2 + 1) []), (c3, .stk e3 5 (v3 + 1) [])] := by
    funext i
    show (List.lookup i _).elim _ some = (List.lookup i _).elim _ some
    rw [lk3]
    by_cases m1 : i = id
    · rw [if_pos m1]; rfl
    · by_cases m2 : i = c2
      · rw [if_neg m1, if_pos m2]; rfl
      · by_cases m3 : i = c3
        · rw [if_neg m1, if_neg m2, if_pos m3]; rfl
        · rw [if_neg m1, if_neg m2, if_neg m3]
          show ovr _ _ i = objs i
          rw [ovr_one, if_neg m1, ovr_one, if_neg m3, ovr_one, if_neg m2]
  rw [← hobj]
  exact hk3
end
end Go.Proofs.YtddmcmkhjkleoaaGreatDoor
end

section
namespace Go.Proofs.YtddmcmkhjkleoaaGreatDoor
open Go.RowKit

theorem gen_three {P : Program} {o : Oper} {E : En} {L : Ob} {k : KO} {v : T} {i j m : Nat} {a b c : GObj} {post : Ob} (h : Tri P o (sl E) [(i, a), (j, b), (m, c)] v post) (hi : lk L i = some a) (hj : lk L j = some b) (hm : lk L m = some c) (hk : k [i, j, m] v post) : gen P o E L k := ⟨[(i, a), (j, b), (m, c)], v, post, h, fun p hp => by
  rcases List.mem_cons.1 hp with rfl | hp
  · exact hi
  · rcases List.mem_cons.1 hp with rfl | hp
    · exact hj
    · rw [List.mem_singleton.1 hp]; exact hm, hk⟩
theorem gen_build {P : Program} {F : Fax} {o : Oper} {E : En} {L : Ob} {k : KO} {t : Nat} {ps : Array (Nat × Operand)} {zs : List Value} {zd : List D} {fl : List (Nat × Nat)} {qs : List (Nat × Nat × D)} {ds : List D} (ho : o.op = .build t ps) (hz : lk F.ze t = some (zs, zd)) (hp : lk F.pl t = some fl) (hq : bParts E fl ps.toList = some qs)
    (hd : fillD qs (zs.map .v) = some ds) (hF : FaxOK P F) (hk : k [] (.d (.agg ds)) []) : gen P o E L k := gen_nil (t_build (ps := ps.toList) ho (hF.ze _ _ _ hz).1 (hF.pl _ _ hp) (bParts_ok hq) hd) hk
set_option maxRecDepth 100000 in
theorem begin_len (l : List (List UInt8)) (hl : l.length ≠ 3) (v1 : Nat) (dn : List D) (ts : List T) (cs tx : List D) (M : List (Value × D)) (v2 : Nat) (ca : List D) (v3 : Nat) (co : List D) (b : Bool) (hts : Shape v2 v3 ts) :
    FnO Tryz.prog 42 [.ref 1000 0, .d (txD l)] (RO v1 dn ts cs tx M v2 ca v3 co b) (.tup []) (RO v1 dn ts cs tx M v2 ca v3 co true) := by
  have hlen : (l.map strD).length = l.length := List.length_map _
  show FnO _ _ [.ref 1000 0, .d (.sl 1 (l.map strD))] _ _ _
  generalize l.map strD = L at *
  have k1 : ((L.length : Int) != 3) = true := by rw [bne_iff_ne]; omega
  rcases hts with rfl | ⟨fp, fr, fg, rfl⟩
  all_goals
    refine FnO.of0 (n := 36) [5030] fax_ok Tryz.func42 rfl rfl rfl (by rfl) (by rfl) (by kernel_rfl) fun Γ hA hbA hbO => ?_
    (repeat ((conv => whnf); (first | refine exR ?_ | refine tT ?_)))
    exact ⟨eN, rS, fiO⟩
def genB (w : List UInt8) : Bool := w == [103, 101, 110]
set_option maxRecDepth 100000 in
set_option maxHeartbeats 1000000 in
theorem begin_ok (w0 w1 w2 : List UInt8) (h1 : w1.length ≤ 1000000000) (h2 : w2.length ≤ 1000000000) (v1 : Nat) (dn : List D) (ts : List T) (cs tx : List D) (M : List (Value × D)) (v2 : Nat) (ca : List D) (v3 : Nat) (co : List D) (b : Bool) (hb : b = true ∨ (numB w1 = false ∧ numB w2 = false)) (hts : Shape v2 v3 ts) (hdn : dn.length ≤ 5000000) :
    FnO Tryz.prog 42 [.ref 1000 0, .d (txD [w0, w1, w2])] (RO v1 dn ts cs tx M v2 ca v3 co b) (.tup []) (RO (v1 + 1) (dn ++ lastD ca co ts) (FnT (v2 + 1) (v3 + 1) (numV w1) (numV w2) (genB w0)) cs tx M (v2 + 1) [] (v3 + 1) [] b) := by
  have hN1 := number_fn w1 h1 v1 dn ts cs tx M v2 ca v3 co b hts
  have hN2 := number_fn w2 h2 v1 dn ts cs tx M v2 ca v3 co b hts
  rw [show (b || numB w1) = b by rcases hb with h | ⟨h, -⟩ <;> simp [h]] at hN1
  rw [show (b || numB w2) = b by rcases hb with h | ⟨-, h⟩ <;> simp [h]] at hN2
  have hfr : FrTs 1005 v2 1006 v3 ts := hts
  unfold genB
  generalize numV w1 = n1 at *
  generalize numV w2 = n2 at *
  rcases hts with rfl | ⟨fp, fr, fg, rfl⟩
  all_goals
    refine FnO.of0 (n := 36) [5030] fax_ok Tryz.func42 rfl rfl rfl (by rfl) (by rfl) (by kernel_rfl) fun Γ hA hbA hbO => ?_
    (repeat ((conv => whnf); (first | refine exR ?_ | refine gen_oP idR 0 0 rfl (enters_of Tryz.func74 rfl rfl) (hN1) (by (repeat (first | exact TLes.nil | refine TLes.cons (TLe.of_eq rfl) ?_ | refine TLes.cons TLe.own ?_ | refine TLes.cons TLe.nil ?_)); (first | done | fail)) rfl (by (repeat (first | exact trivial | refine And.intro rfl ?_)); (first | done | fail)) rfl ?_ | refine gen_oP idR 0 0 rfl (enters_of Tryz.func74 rfl rfl) (hN2) (by (repeat (first | exact TLes.nil | refine TLes.cons (TLe.of_eq rfl) ?_ | refine TLes.cons TLe.own ?_ | refine TLes.cons TLe.nil ?_)); (first | done | fail)) rfl (by (repeat (first | exact trivial | refine And.intro rfl ?_)); (first | done | fail)) rfl ?_ | refine tF ?_ | refine exI 0 rfl rfl ?_ | refine exI 1 rfl rfl ?_ | refine exI 2 rfl rfl ?_)))
    refine gen_build rfl rfl rfl rfl rfl fax_ok ?_
    skip
    refine gen_three (t_fr_app (b := 72) (e := 39) (id := 1001) (c2 := 1005) (c3 := 1006) (e2 := 3) (e3 := 41) (v1 := v1) (v2 := v2) (v3 := v3) (dn := dn) (ca := ca) (co := co) (p := n1) (r := n2) (gg := w0 == [103, 101, 110]) rfl (by kernel_rfl) rfl (TLe.of_eq rfl) (by decide) (by decide) (by decide) hfr (by omega)) rfl rfl rfl ?_
    (repeat ((conv => whnf); refine oB ?_))
    exact ⟨eN, rS, fiO⟩
end Go.Proofs.YtddmcmkhjkleoaaGreatDoor
end

section
namespace Go.Proofs.YtddmcmkhjkleoaaGreatDoor
open Go.RowKit

/-- All but the reader itself. -/
abbrev ROt (v1 : Nat) (dn : List D) (ts : List T) (cs tx : List D) (M : List (Value × D)) (v2 : Nat) (ca : List D) (v3 : Nat) (co : List D) : Ob :=
  [(1001, .frow 39 5 v1 dn ts), (1002, .row 55 2 cs), (1003, .row 9 1 tx), (1004, .map .string M), (1005, .stk 3 1 v2 ca), (1006, .stk 41 5 v3 co)]
abbrev rdT (v1 : Nat) (cs tx : List D) : List T := [.stk 1001 v1 .all, .own 2 cs 1002, .own 1 tx 1003, .mp 1004]
abbrev RR (v1 : Nat) (dn : List D) (ts : List T) (cs tx : List D) (M : List (Value × D)) (v2 : Nat) (ca : List D) (v3 : Nat) (co : List D) : Ob :=
  (1000, .rdr 63 (rdT v1 cs tx)) :: ROt v1 dn ts cs tx M v2 ca v3 co
theorem WI.cx {Γ Γ' : Cx} {g : Gh} {objs : Objs} {w : World} (hX : Γ.X = Γ'.X) (h0 : Γ.w0 = Γ'.w0) (hg : Γ.g0 = Γ'.g0) (hA : Γ.A = Γ'.A) (h : WI Γ g objs w) : WI Γ' g objs w := by
  obtain ⟨X, w0, g0, A, t1, t2, ds⟩ := Γ
  obtain ⟨X', w0', g0', A', t1', t2', ds'⟩ := Γ'
  dsimp only at hX h0 hg hA
  subst hX h0 hg hA
  exact ⟨h.imm, fun id ob ho => (by have h1 := h.obj id ob ho; cases ob <;> exact h1), h.apart, ⟨h.fr.os, h.fr.tape, h.fr.output, h.fr.size, h.fr.block⟩, h.old, h.ext⟩
theorem objL_cons {i : Nat} {x : GObj} {l : Ob} {j : Nat} {ob : GObj} (h : objL ((i, x) :: l) j = some ob) : (j = i ∧ ob = x) ∨ (j ≠ i ∧ objL l j = some ob) := by
  unfold objL at h ⊢
  rw [List.lookup_cons] at h
  by_cases e : j = i
  · rw [show (j == i) = true from by simpa using e] at h
    exact .inl ⟨e, (Option.some.inj h).symm⟩
  · rw [show (j == i) = false from by simpa using e] at h
    exact .inr ⟨e, h⟩
theorem objL_head (i : Nat) (x : GObj) (l : Ob) : objL ((i, x) :: l) i = some x := by unfold objL; rw [List.lookup_cons]; simp
theorem objL_tail {i : Nat} {x : GObj} {l : Ob} {j : Nat} (h : j ≠ i) : objL ((i, x) :: l) j = objL l j := by unfold objL; rw [List.lookup_cons, show (j == i) = false from by simpa using h]
/-- Another object of the same block under the same name. -/
theorem WI.swap {Γ : Cx} {g : Gh} {w : World} {i : Nat} {a b : GObj} {tl : Ob} (hw : WI Γ g (objL ((i, a) :: tl)) w) (hb : ObjAt Γ g w i b) (hbl : ∀ k, b.blk g i k → a.blk g i k) : WI Γ g (objL ((i, b) :: tl)) w := by
  refine ⟨hw.imm, fun id ob h => ?_, fun j k oj ok bb h1 h2 h3 h4 => ?_, hw.fr, hw.old, hw.ext⟩
  · rcases objL_cons h with ⟨rfl, rfl⟩ | ⟨h1, h2⟩
    · exact hb
    · exact hw.obj id ob (by rw [objL_tail h1]; exact h2)
  · have tr : ∀ j oj, objL ((i, b) :: tl) j = some oj → oj.blk g j bb → ∃ o', objL ((i, a) :: tl) j = some o' ∧ o'.blk g j bb := fun j oj h hk => by
      rcases objL_cons h with ⟨rfl, rfl⟩ | ⟨h1, h2⟩
      · exact ⟨a, objL_head _ a tl, hbl _ hk⟩
      · exact ⟨oj, by rw [objL_tail h1]; exact h2, hk⟩
    obtain ⟨o1, e1, e2⟩ := tr j oj h1 h3
    obtain ⟨o2, e3, e4⟩ := tr k ok h2 h4
    exact hw.apart j k o1 o2 bb e1 e3 e2 e4
def setL (g : Gh) (i n : Nat) (v : Value) : Gh := ⟨g.S, g.blk, fun j => if j = i then v else g.row j, fun j => if j = i then n else g.len j⟩
/-- Names of which none of these objects speaks. -/
def speaks (id : Nat) (l : Ob) : Bool := l.any fun p => p.2.has id
theorem WI.relen {Γ : Cx} {g : Gh} {w : World} {i n : Nat} {v : Value} {a b : GObj} {tl : Ob} (hw : WI Γ g (objL ((i, a) :: tl)) w) (hsp : speaks i tl = false) (hb : ObjAt Γ (setL g i n v) w i b) (hbl : ∀ k, b.blk (setL g i n v) i k → a.blk g i k) (hx : GLe Γ.A Γ.g0 (setL g i n v)) : WI Γ (setL g i n v) (objL ((i, b) :: tl)) w := by
  have hle : GLe (fun j => j ≠ i) g (setL g i n v) := ⟨SLe.refl _, fun _ _ _ => rfl, fun j h => by simp [setL, h], fun j h _ => by simp [setL, h]⟩
  have hsame : ∀ j ob, j ≠ i → objL tl j = some ob → ob.blk (setL g i n v) j = ob.blk g j := fun j ob hj _ => blk_same (g := g) (g' := setL g i n v) rfl (by simp [setL, hj]) ob
  refine ⟨hw.imm, fun id ob h => ?_, fun j k oj ok bb h1 h2 h3 h4 => ?_, hw.fr, hw.old, hx⟩
  · rcases objL_cons h with ⟨rfl, rfl⟩ | ⟨h1, h2⟩
    · exact hb
    · refine (hw.obj id ob (by rw [objL_tail h1]; exact h2)).same (A := fun j => j ≠ i) hle rfl (by have h1 : id ≠ i := h1; simp [setL, h1]) (by have h1 : id ≠ i := h1; simp [setL, h1]) (fun j hj e => ?_) fun _ _ => ⟨rfl, fun _ => rfl⟩
      subst e
      have : speaks j tl = true := List.any_eq_true.2 ⟨_, objL_mem h2, hj⟩
      rw [hsp] at this; cases this
  · have tr : ∀ j oj, objL ((i, b) :: tl) j = some oj → oj.blk (setL g i n v) j bb → ∃ o', objL ((i, a) :: tl) j = some o' ∧ o'.blk g j bb := fun j oj h hk => by
      rcases objL_cons h with ⟨rfl, rfl⟩ | ⟨h1, h2⟩
      · exact ⟨a, objL_head _ a tl, hbl _ hk⟩
      · exact ⟨oj, by rw [objL_tail h1]; exact h2, by rw [← hsame j oj h1 h2]; exact hk⟩
    obtain ⟨o1, e1, e2⟩ := tr j oj h1 h3
    obtain ⟨o2, e3, e4⟩ := tr k ok h2 h4
    exact hw.apart j k o1 o2 bb e1 e3 e2 e4
theorem lent_eq {g : Gh} {i : Nat} {a b : GObj} {tl : Ob} (h : ∀ k, a.blk g i k ↔ b.blk g i k) : lentX g ((i, a) :: tl) = lentX g ((i, b) :: tl) := by
  have key : ∀ a b : GObj, (∀ k, a.blk g i k → b.blk g i k) → ∀ k, lentX g ((i, a) :: tl) k → lentX g ((i, b) :: tl) k := fun a b h k => by
    rintro ⟨j, ob, h1, h2⟩
    rcases objL_cons h1 with ⟨rfl, rfl⟩ | ⟨h3, h4⟩
    · exact ⟨_, b, objL_head _ b tl, h _ h2⟩
    · exact ⟨j, ob, by rw [objL_tail h3]; exact h4, h2⟩
  funext k
  exact propext ⟨key a b (fun k => (h k).1) k, key b a (fun k => (h k).2) k⟩
theorem names_eq {i : Nat} {a b : GObj} {tl : Ob} : (fun j => ∃ ob, objL ((i, a) :: tl) j = some ob) = fun j => ∃ ob, objL ((i, b) :: tl) j = some ob := by
  have key : ∀ a b : GObj, ∀ j, (∃ ob, objL ((i, a) :: tl) j = some ob) → ∃ ob, objL ((i, b) :: tl) j = some ob := fun a b j => by
    rintro ⟨ob, h1⟩
    rcases objL_cons h1 with ⟨rfl, rfl⟩ | ⟨h3, h4⟩
    · exact ⟨b, objL_head _ b tl⟩
    · exact ⟨ob, by rw [objL_tail h3]; exact h4⟩
  funext j
  exact propext ⟨key a b j, key b a j⟩
theorem speaks_no {v1 : Nat} {dn : List D} {ts : List T} {cs tx : List D} {M : List (Value × D)} {v2 : Nat} {ca : List D} {v3 : Nat} {co : List D} (hts : Shape v2 v3 ts) : speaks 1000 (ROt v1 dn ts cs tx M v2 ca v3 co) = false := by
  rcases hts with rfl | ⟨p, r, g, rfl⟩ <;> rfl
end Go.Proofs.YtddmcmkhjkleoaaGreatDoor
end
