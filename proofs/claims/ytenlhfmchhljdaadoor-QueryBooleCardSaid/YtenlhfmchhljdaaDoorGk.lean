/-
  Ghost memory: stacks: rows that grow and shrink.
-/
import Derived.Test.YtenlhfmchhljdaaDoorGq
import Derived.Test.YtenlhfmchhljdaaDoorGx
namespace Go.Proofs.YtenlhfmchhljdaaDoor
open Go.RowKit

def setK (g : Gh) (id : Nat) (v : Value) : Gh := ⟨g.S, g.blk, fun i => if i = id then v else g.row i, fun i => if i = id then g.len id + 1 else g.len i⟩
section
variable {P : Program} {Γ : Cx} {o : Oper} {σ : Nat → T}
theorem WI.stk {g : Gh} {objs : Objs} {w w' : World} {id e k ver : Nat} {l l' : List D} {v' : Value} {xs' : List Value} (hw : WI Γ g objs w) (ho : objs id = some (.stk e k ver l))
    (h2 : w'.ownsRow 0 e k v' l'.length xs') (h3 : w.grownBy w' (g.row id).ownBlock) (h4 : v'.ownBlock = (g.row id).ownBlock ∨ v'.ownBlock = some w.heap.size) (hm : RepLv g.S k l' xs') :
    GLe (fun _ => True) g (setK g id v') ∧ WI Γ (setK g id v') (ovr objs [(id, .stk e k (ver + 1) l')]) w' := by
  obtain ⟨xs, hlen, hown, hrep, hS⟩ := hw.obj id _ ho
  have hcs : ∀ b o x, g.S b o = some x → b < w.heap.size := fun b o x h => World.block_lt_of_cell? w ⟨b, o, none⟩ (hw.imm b o x h)
  have hle : GLe (fun _ => True) g (setK g id v') := by
    refine ⟨SLe.refl _, fun _ _ _ => rfl, fun i _ => ?_, fun i _ e1 => ?_⟩
    · simp only [setK]
      split
      · next e1 => rw [e1]; omega
      · exact Nat.le_refl _
    · simp only [setK] at e1 ⊢
      split
      · next e2 => rw [if_pos e2, e2] at e1; omega
      · rfl
  have hmine : ∀ b, v'.ownBlock = some b → Mine Γ b ∧ ∀ o, g.S b o = none := fun b hb => by
    rcases h4 with h4 | h4
    · exact hS b (h4 ▸ hb)
    · rw [h4] at hb; cases hb
      refine ⟨.inl hw.fr.size, fun o => ?_⟩
      cases h : g.S w.heap.size o with
      | none => rfl
      | some x => exact absurd (hcs _ _ _ h) (Nat.lt_irrefl _)
  refine ⟨hle, ⟨?_, ?_, ?_, ?_, ?_, ?_⟩⟩
  · intro b o x h
    have hlt := hcs b o x h
    have hb : (g.row id).ownBlock ≠ some b := fun hb => by
      have h : g.S b o = some x := h
      rw [(hS b hb).2 o] at h; cases h
    have := h3.block b hlt (fun e2 => hb e2.symm)
    rw [World.cell?_of_block (w := w) this]
    exact hw.imm b o x h
  · intro i ob hi
    by_cases hid : i = id
    · subst hid
      have : ob = .stk e k (ver + 1) l' := by
        simp [ovr] at hi
        exact hi.symm
      subst this
      exact ⟨xs', by simp [setK, hlen], by simpa [setK] using h2, hm, fun b hb => hmine b (by simpa [setK] using hb)⟩
    · have hi' : objs i = some ob := by
        have : (i == id) = false := by simpa using hid
        simpa [ovr, List.lookup, this] using hi
      have hoi := hw.obj i ob hi'
      refine hoi.same hle rfl (by simp [setK, hid]) (by simp [setK, hid]) (fun _ _ => trivial) fun b hb => ?_
      have hlt := hoi.blk_lt hb
      have hne2 : (g.row id).ownBlock ≠ some b := fun e1 => hid (hw.apart i id _ _ b hi' ho hb e1)
      exact ⟨h3.block _ hlt fun e1 => hne2 e1.symm, fun o => rfl⟩
  · have back : ∀ (i : Nat) (oi : GObj) (b : Nat), ovr objs [(id, .stk e k (ver + 1) l')] i = some oi → oi.blk (setK g id v') i b → (i = id ∧ v'.ownBlock = some b) ∨ (i ≠ id ∧ objs i = some oi ∧ oi.blk g i b) := by
      intro i oi b h1 hb
      by_cases hid : i = id
      · subst hid
        have : oi = .stk e k (ver + 1) l' := by simp [ovr] at h1; exact h1.symm
        subst this
        exact .inl ⟨rfl, by simpa [GObj.blk, setK] using hb⟩
      · have hi' : objs i = some oi := by
          have : (i == id) = false := by simpa using hid
          simpa [ovr, List.lookup, this] using h1
        refine .inr ⟨hid, hi', ?_⟩
        rw [← blk_same (g := g) (g' := setK g id v') (i := i) rfl (by simp [setK, hid]) oi]; exact hb
    have blt : ∀ (i : Nat) (oi : GObj) (b : Nat), objs i = some oi → oi.blk g i b → b < w.heap.size := fun i oi b h1 hb => hw.blk_lt h1 hb
    intro i j oi oj b h1 h2' h3' h4'
    rcases back i oi b h1 h3' with ⟨e1, b1⟩ | ⟨n1, o1, b1⟩ <;> rcases back j oj b h2' h4' with ⟨e2, b2⟩ | ⟨n2, o2, b2⟩
    · rw [e1, e2]
    · exfalso
      rcases h4 with h4 | h4
      · exact n2 (hw.apart j id _ _ b o2 ho b2 (h4.symm.trans b1))
      · rw [h4] at b1; cases b1; exact Nat.lt_irrefl _ (blt j oj _ o2 b2)
    · exfalso
      rcases h4 with h4 | h4
      · exact n1 (hw.apart i id _ _ b o1 ho b1 (h4.symm.trans b2))
      · rw [h4] at b2; cases b2; exact Nat.lt_irrefl _ (blt i oi _ o1 b1)
    · exact hw.apart i j oi oj b o1 o2 b1 b2
  · refine ⟨h3.os.trans hw.fr.os, h3.tape.trans hw.fr.tape, h3.output.trans hw.fr.output, Nat.le_trans hw.fr.size h3.size, fun b hb hx => ?_⟩
    refine (h3.block b (Nat.lt_of_lt_of_le hb hw.fr.size) fun e1 => ?_).trans (hw.fr.block b hb hx)
    rcases (hS b e1.symm).1 with h | h
    · omega
    · exact hx h
  · exact fun b o hb hx => hw.old b o hb hx
  · exact hw.ext.trans (hle.weak fun _ _ => trivial)
theorem t_stk_nil {x : Operand} {c k e : Nat} (ho : o.op = .assign x) (hx : opT σ x = .d (.v (.slice none 0 0))) : Tri P o σ [(c, .vac)] (.stk c 0 .all) [(c, .stk e k 0 [])] := by
  intro Γ g objs a w Q hr hp hw
  have e1 := rep_op hr (x := x) (by rw [ho]; simp [Op.operands])
  rw [hx] at e1
  have hv := inv_v e1
  obtain ⟨h1, h2⟩ := hw.turn (g' := setR g c (.slice none 0 0) 0) (ob := .stk e k 0 []) (hp _ (List.mem_singleton.2 rfl)) (by simp [setR]) rfl (fun _ _ => rfl) (fun i hi => by simp [setR, hi]) (fun i hi => by simp [setR, hi])
    ⟨[], by simp [setR], by simpa [setR] using World.ownsRow_nil w 0 e k, .nil, fun b hb => by simp [setR, Value.ownBlock] at hb⟩ (fun j oj b _ _ _ h => by simp [GObj.blk, setR, Value.ownBlock] at h)
  unfold Oper.wp execOp
  rw [ho]
  refine ⟨_, _, rfl, h1, ?_, h2⟩
  rw [hv]
  exact .stk rfl (by simp [setR]) fun _ => by simp [setR, stkV]
theorem t_stk_push {s x : Operand} {t e : TypeId} {k b id ver : Nat} {l m : List D} (ho : o.op = .call { callee := .builtin .append, args := #[s, x], argTypes := #[t, t] }) (hT : rowT? P t = some (e, k, b)) (hs : opT σ s = .stk id ver .all) (hx : TLe (opT σ x) (.d (.sl k m)))
    (hn : l.length + m.length ≤ 10000000) : Tri P o σ [(id, .stk e k ver l)] (.stk id (ver + 1) .all) [(id, .stk e k (ver + 1) (l ++ m))] := by
  intro Γ g objs a w Q hr hp hw
  have e1 := rep_op hr (x := s) (by rw [ho]; simp [Op.operands, Call.operands])
  have e2 := hx g _ (rep_op hr (x := x) (by rw [ho]; simp [Op.operands, Call.operands]))
  rw [hs] at e1
  have hid := hp _ (List.mem_singleton.2 rfl)
  obtain ⟨xs, hlen, hown, hrep, hS⟩ := hw.obj id _ hid
  generalize hy : a.eval s = y at e1
  cases e1 with
  | stk h1 h2 h3 =>
    have hyr := h3 hlen
    subst hyr
    generalize hz : a.eval x = z at e2
    cases e2 with
    | d h4 =>
      cases h4 with
      | @sl _ _ p cap ys hm hrow hc hb hnil =>
        have hmlen := hm.len
        obtain ⟨v', w', hrun, a1, a2, a3, a4, a5⟩ := run_append_all w t o.type e k b hT (g.row id) l.length xs hown g.S hw.imm p m.length cap ys hrow hmlen hm.one (fun e3 => by have := hnil e3; omega) hn
        rw [← List.length_append] at a1
        obtain ⟨c1, c2⟩ := WI.stk hw hid a1 a2 a3 (hrep.app hm)
        unfold Oper.wp execOp
        have hy' : a.eval s = g.row id := hy
        simp only [ho, resolve, invoke, builtin, Sem.run_bind, Sem.run_pure, Result.andThen_ok, List.map_toArray, List.map_cons, List.map_nil, hy', hz, hrun]
        refine ⟨_, _, rfl, c1, ?_, c2⟩
        refine RepT.stk ?_ (by simp [setK, hlen]) (fun _ => by simp [setK, stkV])
        rcases a1.2 with ⟨e4, -⟩ | ⟨gb, cap2, cur, e4, -⟩ <;> rw [e4] <;> rfl
theorem own_take {w : World} {e : TypeId} {k n m : Nat} {v : Value} {xs : List Value} (h : w.ownsRow 0 e k v n xs) (hm : m ≤ n) :
    ∃ p cap, v = .slice p n cap ∧ m ≤ cap ∧ (p = none → cap = 0) ∧ (∀ a, p = some a → a.add 0 = a) ∧ w.ownsRow 0 e k (.slice p m cap) m (xs.take (m * k)) := by
  have hmk : m * k ≤ n * k := Nat.mul_le_mul_right _ hm
  rcases h.2 with ⟨e1, e2⟩ | ⟨gb, cap, cur, e1, h2, h3, h4, h5, h6, h7⟩
  · subst e2
    obtain rfl : m = 0 := by omega
    exact ⟨none, 0, e1, Nat.le_refl _, fun _ => rfl, (fun a h => by cases h), by simp, .inl ⟨rfl, rfl⟩⟩
  · refine ⟨some ⟨gb, 0, none⟩, cap, e1, by omega, (fun h => by cases h), fun a h => by cases h; simp [Addr.add], ?_, .inr ⟨gb, cap, cur, rfl, h2, h3, by omega, h5, h6, ?_⟩⟩
    · rw [List.length_take, h.1]; omega
    · rw [← h7, List.take_take, Nat.min_eq_left hmk]
theorem t_stk_pop {t e e' : TypeId} {x hi : Operand} {k k' m id ver : Nat} {l : List D} {kd : IntKind} (ho : o.op = .slice t x none (some hi) none) (ht : elemOf? P t = some (e', k')) (hx : opT σ x = .stk id ver .all) (hh : opT σ hi = .d (.v (.int kd m))) (hm : m ≤ l.length) :
    Tri P o σ [(id, .stk e k ver l)] (.stk id (ver + 1) .all) [(id, .stk e k (ver + 1) (l.take m))] := by
  intro Γ g objs ac w Q hr hp hw
  have e1 := rep_op hr (x := x) (by rw [ho]; simp [Op.operands])
  have e2 := rep_op hr (x := hi) (by rw [ho]; simp [Op.operands])
  rw [hx] at e1
  rw [hh] at e2
  have hid := hp _ (List.mem_singleton.2 rfl)
  obtain ⟨xs, hlen, hown, hrep, hS⟩ := hw.obj id _ hid
  obtain ⟨hu, inf, hinf, hsz⟩ := elem_spec ht
  generalize he : ac.eval x = y at e1
  cases e1 with
  | stk h1 h2 h3 =>
    have hyr : y = g.row id := h3 hlen
    obtain ⟨p, cap, hv, hmc, hpn, hpa, htk⟩ := own_take hown hm
    have hb : (Value.slice p m cap).ownBlock = (g.row id).ownBlock := by rw [hv]; cases p <;> rfl
    have hlt : (l.take m).length = m := by rw [List.length_take]; omega
    obtain ⟨c1, c2⟩ := WI.stk (l' := l.take m) hw hid (by rw [hlt]; exact htk) (World.grownBy.refl _ _) (.inl hb) (hrep.take m)
    have hpp : (if cap = 0 then p else p.map (fun a => a.add 0)) = p := by
      split
      · rfl
      · cases p with
        | none => rfl
        | some a => simp [hpa a rfl]
    have hrun : (execOp ac.eval o).run P w = .ok (.value (.slice p m cap)) w := by
      unfold execOp; rw [ho]
      simp [Instr.sliceAt, run_underlying hu, Instr.slice, Instr.sliceBounds, Instr.sliceBound, asIntOf, inv_v e2, he, hyr, hv, hmc, sizeOf, typeInfo, hinf]
      simpa using hpp
    unfold Oper.wp
    rw [hrun]
    exact ⟨_, _, rfl, c1, .stk rfl (by simp [setK, hlen]) (fun _ => by simp [setK, stkV]), c2⟩
theorem t_stk_len {t e e' : TypeId} {x : Operand} {k k' id ver : Nat} {l : List D} (ho : o.op = .call { callee := .builtin .len, args := #[x], argTypes := #[t] }) (ht : elemOf? P t = some (e', k')) (hx : opT σ x = .stk id ver .all) :
    Tri P o σ [(id, .stk e k ver l)] (.d (.v (.int .i64 l.length))) [] :=
  .val fun Γ g objs ac w hrp hp hw => by
    have e1 := hrp x (by rw [ho]; simp [Op.operands, Call.operands])
    rw [hx] at e1
    have hid := hp _ (List.mem_singleton.2 rfl)
    obtain ⟨xs, hlen, hown, hrep, hS⟩ := hw.obj id _ hid
    obtain ⟨hu, inf, hinf, hsz⟩ := elem_spec ht
    generalize he : ac.eval x = y at e1
    cases e1 with
    | stk h1 h2 h3 =>
      have hyr : y = g.row id := h3 hlen
      obtain ⟨p, cap, hv, -⟩ := own_take hown (Nat.le_refl _)
      refine ⟨.int .i64 l.length, ?_, rep_v rfl⟩
      unfold execOp; rw [ho]
      simp [resolve, invoke, builtin, Builtin.len_, he, hyr, hv, run_underlying hu, goInt]
theorem t_stk_addr {t e e' : TypeId} {x i : Operand} {k j id ver : Nat} {l : List D} {kd : IntKind} (ho : o.op = .indexAddr t x i) (ht : elemOf? P t = some (e', k)) (hx : opT σ x = .stk id ver .all) (hi : opT σ i = .d (.v (.int kd j))) (hj : j < l.length) :
    Tri P o σ [(id, .stk e k ver l)] (.stk id ver (.el (j * k))) [] :=
  .val fun Γ g objs ac w hrp hp hw => by
    have e1 := hrp x (by rw [ho]; simp [Op.operands])
    have e2 := hrp i (by rw [ho]; simp [Op.operands])
    rw [hx] at e1
    rw [hi] at e2
    have hid := hp _ (List.mem_singleton.2 rfl)
    obtain ⟨xs, hlen, hown, hrep, hS⟩ := hw.obj id _ hid
    obtain ⟨hu, inf, hinf, hsz⟩ := elem_spec ht
    generalize he : ac.eval x = y at e1
    cases e1 with
    | stk h1 h2 h3 =>
      have hyr : y = g.row id := h3 hlen
      rcases hown.2 with ⟨e3, e4⟩ | ⟨gb, cap, cur, e3, h5, h6, h7, h8, h9, h10⟩
      · omega
      · refine ⟨.pointer (some ⟨gb, j * k, none⟩), ?_, .stk rfl (by omega) fun _ => by rw [e3]; rfl⟩
        unfold execOp; rw [ho]
        simp [Instr.indexAt, he, hyr, e3, inv_v e2, asIntOf, run_underlying hu, hj, Instr.sureAddr, sizeOf, typeInfo, hinf, hsz, add_lit']
theorem t_stk_load {t e : TypeId} {x : Operand} {k j id ver : Nat} {l : List D} {d : D} (ho : o.op = .load t x) (ht : aggOf? P t = some (false, k)) (hx : opT σ x = .stk id ver (.el j)) (hd : l[j]? = some d) (hlv : d.lv = [d]) :
    Tri P o σ [(id, .stk e 1 ver l)] (.d d) [] :=
  .val fun Γ g objs ac w hrp hp hw => by
    have e1 := hrp x (by rw [ho]; simp [Op.operands])
    rw [hx] at e1
    have hid := hp _ (List.mem_singleton.2 rfl)
    obtain ⟨xs, hlen, hown, hrep, hS⟩ := hw.obj id _ hid
    have hj := (List.getElem?_eq_some_iff.1 hd).1
    have hr := hrep.at_ hd
    rw [hlv, Nat.mul_one] at hr
    generalize hq : (xs.drop j).take 1 = q at hr
    generalize he : ac.eval x = y at e1
    cases e1 with
    | stk h1 h2 h3 =>
      have hyr := h3 hlen
      rcases hown.2 with ⟨e3, e4⟩ | ⟨gb, cap, cur, e3, -⟩
      · omega
      · rw [e3] at hyr
        have hyr : y = .pointer (some ⟨gb, j, none⟩) := hyr
        cases hr with
        | @cons _ _ u us hu hone ht2 =>
          have hxj : xs[j]? = some u := by
            have := congrArg (fun z => z[0]?) hq
            simpa [List.getElem?_take, List.getElem?_drop] using this
          have hc := own_get hown (b := gb) (by rw [e3]; rfl) hxj
          exact ⟨u, by unfold execOp; rw [ho]; simp [he, hyr, load_run ht hc], .d hu⟩
end
end Go.Proofs.YtenlhfmchhljdaaDoor
