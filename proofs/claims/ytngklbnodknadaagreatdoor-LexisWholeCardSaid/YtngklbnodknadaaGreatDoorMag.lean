/-
  Gk, Gm, Gn, in one.
-/
import Derived.Test.YtngklbnodknadaaGreatDoorMaf
import Derived.Test.YtngklbnodknadaaGreatDoorMad
section
namespace Go.Proofs.YtngklbnodknadaaGreatDoor
open Go.RowKit

def setK (g : Gh) (id : Nat) (v : Value) : Gh := ⟨g.S, g.blk, fun i => if i = id then v else g.row i, fun i => if i = id then g.len id + 1 else g.len i⟩
section
variable {P : Program} {Γ : Cx} {o : Oper} {σ : Nat → T}
theorem WI.stk {g : Gh} {objs : Objs} {w w' : World} {id e k ver : Nat} {l l' : List D} {v' : Value} {xs' : List Value} (hw : WI Γ g objs w) (ho : objs id = some (.stk e k ver l))
    (h2 : w'.ownsRow 0 e k v' l'.length xs') (h3 : w.grownBy w' (g.row id).ownBlock) (h4 : v'.ownBlock = (g.row id).ownBlock ∨ v'.ownBlock = some w.heap.size) (hm : RepLv g.S k l' xs') :
    GLe (fun _ => True) g (setK g id v') ∧ WI Γ (setK g id v') (ovr objs [(id, .stk e k (ver + 1) l')]) w' := by
  obtain ⟨xs, hlen, hown, hrep, hS⟩ := hw.obj id _ ho
  have hcs : ∀ b o x, g.S b o = some x → b < w.heap.size := fun b o x h => World.block_lt_of_cell? w ⟨b, o, none⟩ (hw.imm b o x h)
  have hle : GLe (fun _ => True) g (setK g id v') := by
    refine ⟨SLe.refl _, fun _ _ _ => rfl, fun i _ => ?_, fun i _ e1 => ?_⟩
    · simp only [setK]
      split
      · next e1 => rw [e1]; omega
      · exact Nat.le_refl _
    · simp only [setK] at e1 ⊢
      split
      · next e2 => rw [if_pos e2, e2] at e1; omega
      · rfl
  have hmine : ∀ b, v'.ownBlock = some b → Mine Γ b ∧ ∀ o, g.S b o = none := fun b hb => by
    rcases h4 with h4 | h4
    · exact hS b (h4 ▸ hb)
    · rw [h4] at hb; cases hb
      refine ⟨.inl hw.fr.size, fun o => ?_⟩
      cases h : g.S w.heap.size o with
      | none => rfl
      | some x => exact absurd (hcs _ _ _ h) (Nat.lt_irrefl _)
  refine ⟨hle, ⟨?_, ?_, ?_, ?_, ?_, ?_⟩⟩
  · intro b o x h
    have hlt := hcs b o x h
    have hb : (g.row id).ownBlock ≠ some b := fun hb => by
      have h : g.S b o = some x := h
      rw [(hS b hb).2 o] at h; cases h
    have := h3.block b hlt (fun e2 => hb e2.symm)
    rw [World.cell?_of_block (w := w) this]
    exact hw.imm b o x h
  · intro i ob hi
    by_cases hid : i = id
    · subst hid
      have : ob = .stk e k (ver + 1) l' := by
        simp [ovr] at hi
        exact hi.symm
      subst this
      exact ⟨xs', by simp [setK, hlen], by simpa [setK] using h2, hm, fun b hb => hmine b (by simpa [setK] using hb)⟩
    · have hi' : objs i = some ob := by
        have : (i == id) = false := by simpa using hid
        simpa [ovr, List.lookup, this] using hi
      have hoi := hw.obj i ob hi'
      refine hoi.same hle rfl (by simp [setK, hid]) (by simp [setK, hid]) (fun _ _ => trivial) fun b hb => ?_
      have hlt := hoi.blk_lt hb
      have hne2 : (g.row id).ownBlock ≠ some b := fun e1 => hid (hw.apart i id _ _ b hi' ho hb e1)
      exact ⟨h3.block _ hlt fun e1 => hne2 e1.symm, fun o => rfl⟩
  · have back : ∀ (i : Nat) (oi : GObj) (b : Nat), ovr objs [(id, .stk e k (ver + 1) l')] i = some oi → oi.blk (setK g id v') i b → (i = id ∧ v'.ownBlock = some b) ∨ (i ≠ id ∧ objs i = some oi ∧ oi.blk g i b) := by
      intro i oi b h1 hb
      by_cases hid : i = id
      · subst hid
        have : oi = .stk e k (ver + 1) l' := by simp [ovr] at h1; exact h1.symm
        subst this
        exact .inl ⟨rfl, by simpa [GObj.blk, setK] using hb⟩
      · have hi' : objs i = some oi := by
          have : (i == id) = false := by simpa using hid
          simpa [ovr, List.lookup, this] using h1
        refine .inr ⟨hid, hi', ?_⟩
        rw [← blk_same (g := g) (g' := setK g id v') (i := i) rfl (by simp [setK, hid]) oi]; exact hb
    have blt : ∀ (i : Nat) (oi : GObj) (b : Nat), objs i = some oi → oi.blk g i b → b < w.heap.size := fun i oi b h1 hb => hw.blk_lt h1 hb
    intro i j oi oj b h1 h2' h3' h4'
    rcases back i oi b h1 h3' with ⟨e1, b1⟩ | ⟨n1, o1, b1⟩ <;> rcases back j oj b h2' h4' with ⟨e2, b2⟩ | ⟨n2, o2, b2⟩
    · rw [e1, e2]
    · exfalso
      rcases h4 with h4 | h4
      · exact n2 (hw.apart j id _ _ b o2 ho b2 (h4.symm.trans b1))
      · rw [h4] at b1; cases b1; exact Nat.lt_irrefl _ (blt j oj _ o2 b2)
    · exfalso
      rcases h4 with h4 | h4
      · exact n1 (hw.apart i id _ _ b o1 ho b1 (h4.symm.trans b2))
      · rw [h4] at b2; cases b2; exact Nat.lt_irrefl _ (blt i oi _ o1 b1)
    · exact hw.apart i j oi oj b o1 o2 b1 b2
  · refine ⟨h3.os.trans hw.fr.os, h3.tape.trans hw.fr.tape, h3.output.trans hw.fr.output, Nat.le_trans hw.fr.size h3.size, fun b hb hx => ?_⟩
    refine (h3.block b (Nat.lt_of_lt_of_le hb hw.fr.size) fun e1 => ?_).trans (hw.fr.block b hb hx)
    rcases (hS b e1.symm).1 with h | h
    · omega
    · exact hx h
  · exact fun b o hb hx => hw.old b o hb hx
  · exact hw.ext.trans (hle.weak fun _ _ => trivial)
theorem t_stk_nil {x : Operand} {c k e : Nat} (ho : o.op = .assign x) (hx : opT σ x = .d (.v (.slice none 0 0))) : Tri P o σ [(c, .vac)] (.stk c 0 .all) [(c, .stk e k 0 [])] := by
  intro Γ g objs a w Q hr hp hw
  have e1 := rep_op hr (x := x) (by rw [ho]; simp [Op.operands])
  rw [hx] at e1
  have hv := inv_v e1
  obtain ⟨h1, h2⟩ := hw.turn (g' := setR g c (.slice none 0 0) 0) (ob := .stk e k 0 []) (hp _ (List.mem_singleton.2 rfl)) (by simp [setR]) rfl (fun _ _ => rfl) (fun i hi => by simp [setR, hi]) (fun i hi => by simp [setR, hi])
    ⟨[], by simp [setR], by simpa [setR] using World.ownsRow_nil w 0 e k, .nil, fun b hb => by simp [setR, Value.ownBlock] at hb⟩ (fun j oj b _ _ _ h => by simp [GObj.blk, setR, Value.ownBlock] at h)
  unfold Oper.wp execOp
  rw [ho]
  refine ⟨_, _, rfl, h1, ?_, h2⟩
  rw [hv]
  exact .stk rfl (by simp [setR]) fun _ => by simp [setR, stkV]
theorem t_stk_push {s x : Operand} {t e : TypeId} {k b id ver : Nat} {l m : List D} (ho : o.op = .call { callee := .builtin .append, args := #[s, x], argTypes := #[t, t] }) (hT : rowT? P t = some (e, k, b)) (hs : opT σ s = .stk id ver .all) (hx : TLe (opT σ x) (.d (.sl k m)))
    (hn : l.length + m.length ≤ 10000000) : Tri P o σ [(id, .stk e k ver l)] (.stk id (ver + 1) .all) [(id, .stk e k (ver + 1) (l ++ m))] := by
  intro Γ g objs a w Q hr hp hw
  have e1 := rep_op hr (x := s) (by rw [ho]; simp [Op.operands, Call.operands])
  have e2 := hx g _ (rep_op hr (x := x) (by rw [ho]; simp [Op.operands, Call.operands]))
  rw [hs] at e1
  have hid := hp _ (List.mem_singleton.2 rfl)
  obtain ⟨xs, hlen, hown, hrep, hS⟩ := hw.obj id _ hid
  generalize hy : a.eval s = y at e1
  cases e1 with
  | stk h1 h2 h3 =>
    have hyr := h3 hlen
    subst hyr
    generalize hz : a.eval x = z at e2
    cases e2 with
    | d h4 =>
      cases h4 with
      | @sl _ _ p cap ys hm hrow hc hb hnil =>
        have hmlen := hm.len
        obtain ⟨v', w', hrun, a1, a2, a3, a4, a5⟩ := run_append_all w t o.type e k b hT (g.row id) l.length xs hown g.S hw.imm p m.length cap ys hrow hmlen hm.one (fun e3 => by have := hnil e3; omega) hn
        rw [← List.length_append] at a1
        obtain ⟨c1, c2⟩ := WI.stk hw hid a1 a2 a3 (hrep.app hm)
        unfold Oper.wp execOp
        have hy' : a.eval s = g.row id := hy
        simp only [ho, resolve, invoke, builtin, Sem.run_bind, Sem.run_pure, Result.andThen_ok, List.map_toArray, List.map_cons, List.map_nil, hy', hz, hrun]
        refine ⟨_, _, rfl, c1, ?_, c2⟩
        refine RepT.stk ?_ (by simp [setK, hlen]) (fun _ => by simp [setK, stkV])
        rcases a1.2 with ⟨e4, -⟩ | ⟨gb, cap2, cur, e4, -⟩ <;> rw [e4] <;> rfl
theorem own_take {w : World} {e : TypeId} {k n m : Nat} {v : Value} {xs : List Value} (h : w.ownsRow 0 e k v n xs) (hm : m ≤ n) :
    ∃ p cap, v = .slice p n cap ∧ m ≤ cap ∧ (p = none → cap = 0) ∧ (∀ a, p = some a → a.add 0 = a) ∧ w.ownsRow 0 e k (.slice p m cap) m (xs.take (m * k)) := by
  have hmk : m * k ≤ n * k := Nat.mul_le_mul_right _ hm
  rcases h.2 with ⟨e1, e2⟩ | ⟨gb, cap, cur, e1, h2, h3, h4, h5, h6, h7⟩
  · subst e2
    obtain rfl : m = 0 := by omega
    exact ⟨none, 0, e1, Nat.le_refl _, fun _ => rfl, (fun a h => by cases h), by simp, .inl ⟨rfl, rfl⟩⟩
  · refine ⟨some ⟨gb, 0, none⟩, cap, e1, by omega, (fun h => by cases h), fun a h => by cases h; simp [Addr.add], ?_, .inr ⟨gb, cap, cur, rfl, h2, h3, by omega, h5, h6, ?_⟩⟩
    · rw [List.length_take, h.1]; omega
    · rw [← h7, List.take_take, Nat.min_eq_left hmk]
theorem t_stk_pop {t e e' : TypeId} {x hi : Operand} {k k' m id ver : Nat} {l : List D} {kd : IntKind} (ho : o.op = .slice t x none (some hi) none) (ht : elemOf? P t = some (e', k')) (hx : opT σ x = .stk id ver .all) (hh : opT σ hi = .d (.v (.int kd m))) (hm : m ≤ l.length) :
    Tri P o σ [(id, .stk e k ver l)] (.stk id (ver + 1) .all) [(id, .stk e k (ver + 1) (l.take m))] := by
  intro Γ g objs ac w Q hr hp hw
  have e1 := rep_op hr (x := x) (by rw [ho]; simp [Op.operands])
  have e2 := rep_op hr (x := hi) (by rw [ho]; simp [Op.operands])
  rw [hx] at e1
  rw [hh] at e2
  have hid := hp _ (List.mem_singleton.2 rfl)
  obtain ⟨xs, hlen, hown, hrep, hS⟩ := hw.obj id _ hid
  obtain ⟨hu, inf, hinf, hsz⟩ := elem_spec ht
  generalize he : ac.eval x = y at e1
  cases e1 with
  | stk h1 h2 h3 =>
    have hyr : y = g.row id := h3 hlen
    obtain ⟨p, cap, hv, hmc, hpn, hpa, htk⟩ := own_take hown hm
    have hb : (Value.slice p m cap).ownBlock = (g.row id).ownBlock := by rw [hv]; cases p <;> rfl
    have hlt : (l.take m).length = m := by rw [List.length_take]; omega
    obtain ⟨c1, c2⟩ := WI.stk (l' := l.take m) hw hid (by rw [hlt]; exact htk) (World.grownBy.refl _ _) (.inl hb) (hrep.take m)
    have hpp : (if cap = 0 then p else p.map (fun a => a.add 0)) = p := by
      split
      · rfl
      · cases p with
        | none => rfl
        | some a => simp [hpa a rfl]
    have hrun : (execOp ac.eval o).run P w = .ok (.value (.slice p m cap)) w := by
      unfold execOp; rw [ho]
      simp [Instr.sliceAt, run_underlying hu, Instr.slice, Instr.sliceBounds, Instr.sliceBound, asIntOf, inv_v e2, he, hyr, hv, hmc, sizeOf, typeInfo, hinf]
      simpa using hpp
    unfold Oper.wp
    rw [hrun]
    exact ⟨_, _, rfl, c1, .stk rfl (by simp [setK, hlen]) (fun _ => by simp [setK, stkV]), c2⟩
theorem t_stk_len {t e e' : TypeId} {x : Operand} {k k' id ver : Nat} {l : List D} (ho : o.op = .call { callee := .builtin .len, args := #[x], argTypes := #[t] }) (ht : elemOf? P t = some (e', k')) (hx : opT σ x = .stk id ver .all) :
    Tri P o σ [(id, .stk e k ver l)] (.d (.v (.int .i64 l.length))) [] :=
  .val fun Γ g objs ac w hrp hp hw => by
    have e1 := hrp x (by rw [ho]; simp [Op.operands, Call.operands])
    rw [hx] at e1
    have hid := hp _ (List.mem_singleton.2 rfl)
    obtain ⟨xs, hlen, hown, hrep, hS⟩ := hw.obj id _ hid
    obtain ⟨hu, inf, hinf, hsz⟩ := elem_spec ht
    generalize he : ac.eval x = y at e1
    cases e1 with
    | stk h1 h2 h3 =>
      have hyr : y = g.row id := h3 hlen
      obtain ⟨p, cap, hv, -⟩ := own_take hown (Nat.le_refl _)
      refine ⟨.int .i64 l.length, ?_, rep_v rfl⟩
      unfold execOp; rw [ho]
      simp [resolve, invoke, builtin, Builtin.len_, he, hyr, hv, run_underlying hu, goInt]
theorem t_stk_addr {t e e' : TypeId} {x i : Operand} {k j id ver : Nat} {l : List D} {kd : IntKind} (ho : o.op = .indexAddr t x i) (ht : elemOf? P t = some (e', k)) (hx : opT σ x = .stk id ver .all) (hi : opT σ i = .d (.v (.int kd j))) (hj : j < l.length) :
    Tri P o σ [(id, .stk e k ver l)] (.stk id ver (.el (j * k))) [] :=
  .val fun Γ g objs ac w hrp hp hw => by
    have e1 := hrp x (by rw [ho]; simp [Op.operands])
    have e2 := hrp i (by rw [ho]; simp [Op.operands])
    rw [hx] at e1
    rw [hi] at e2
    have hid := hp _ (List.mem_singleton.2 rfl)
    obtain ⟨xs, hlen, hown, hrep, hS⟩ := hw.obj id _ hid
    obtain ⟨hu, inf, hinf, hsz⟩ := elem_spec ht
    generalize he : ac.eval x = y at e1
    cases e1 with
    | stk h1 h2 h3 =>
      have hyr : y = g.row id := h3 hlen
      rcases hown.2 with ⟨e3, e4⟩ | ⟨gb, cap, cur, e3, h5, h6, h7, h8, h9, h10⟩
      · omega
      · refine ⟨.pointer (some ⟨gb, j * k, none⟩), ?_, .stk rfl (by omega) fun _ => by rw [e3]; rfl⟩
        unfold execOp; rw [ho]
        simp [Instr.indexAt, he, hyr, e3, inv_v e2, asIntOf, run_underlying hu, hj, Instr.sureAddr, sizeOf, typeInfo, hinf, hsz, add_lit']
theorem t_stk_load {t e : TypeId} {x : Operand} {k j id ver : Nat} {l : List D} {d : D} (ho : o.op = .load t x) (ht : aggOf? P t = some (false, k)) (hx : opT σ x = .stk id ver (.el j)) (hd : l[j]? = some d) (hlv : d.lv = [d]) :
    Tri P o σ [(id, .stk e 1 ver l)] (.d d) [] :=
  .val fun Γ g objs ac w hrp hp hw => by
    have e1 := hrp x (by rw [ho]; simp [Op.operands])
    rw [hx] at e1
    have hid := hp _ (List.mem_singleton.2 rfl)
    obtain ⟨xs, hlen, hown, hrep, hS⟩ := hw.obj id _ hid
    have hj := (List.getElem?_eq_some_iff.1 hd).1
    have hr := hrep.at_ hd
    rw [hlv, Nat.mul_one] at hr
    generalize hq : (xs.drop j).take 1 = q at hr
    generalize he : ac.eval x = y at e1
    cases e1 with
    | stk h1 h2 h3 =>
      have hyr := h3 hlen
      rcases hown.2 with ⟨e3, e4⟩ | ⟨gb, cap, cur, e3, -⟩
      · omega
      · rw [e3] at hyr
        have hyr : y = .pointer (some ⟨gb, j, none⟩) := hyr
        cases hr with
        | @cons _ _ u us hu hone ht2 =>
          have hxj : xs[j]? = some u := by
            have := congrArg (fun z => z[0]?) hq
            simpa [List.getElem?_take, List.getElem?_drop] using this
          have hc := own_get hown (b := gb) (by rw [e3]; rfl) hxj
          exact ⟨u, by unfold execOp; rw [ho]; simp [he, hyr, load_run ht hc], .d hu⟩
end
end Go.Proofs.YtngklbnodknadaaGreatDoor
end

section
namespace Go.Proofs.YtngklbnodknadaaGreatDoor
open Go.RowKit
open Go.MapKept (IsKey Stamped)

/-! ### As lists -/
def keq : Value → Value → Bool
  | .int k a, .int k' b => k == k' && a == b
  | .bool a, .bool b => a == b
  | .string a, .string b => a == b
  | _, _ => false
theorem keq_iff {d : TypeDesc} {a b : Value} (ha : IsKey d a) (hb : IsKey d b) : keq a b = true ↔ a = b := by
  cases d <;> cases a <;> cases b <;> simp_all [IsKey, keq, Go.MapKept.bytes_beq]
theorem keq_refl {d : TypeDesc} {a : Value} (ha : IsKey d a) : keq a a = true := (keq_iff ha ha).2 rfl
section
variable {α : Type}
def mfind : List (Value × α) → Value → Option α
  | [], _ => none
  | (x, y) :: M, k => bif keq k x then some y else mfind M k
def mput : List (Value × α) → Value → α → List (Value × α)
  | [], k, v => [(k, v)]
  | (x, y) :: M, k, v => bif keq k x then (x, v) :: M else (x, y) :: mput M k v
def mdel : List (Value × α) → Value → List (Value × α)
  | [], _ => []
  | (x, y) :: M, k => bif keq k x then M else (x, y) :: mdel M k
end
theorem now_step {d : TypeDesc} {k : Value} {e : MapEntry} (hk : IsKey d k) (he : IsKey d e.key) (es : List MapEntry) (i : Nat) : Instr.findNow d k (e :: es) i = if keq k e.key = true then some (some (i, e.val)) else Instr.findNow d k es (i + 1) := by
  obtain ⟨r, hr, hiff⟩ := Go.MapKept.sameNow_of_keys hk he
  have h2 := keq_iff hk he
  have hr2 : Instr.findNow d k (e :: es) i = match Instr.sameNow d k e.key with
    | some true => some (some (i, e.val))
    | some false => Instr.findNow d k es (i + 1)
    | none => none := rfl
  rw [hr2, hr]
  cases r with
  | true => rw [if_pos (h2.2 (hiff.1 rfl))]
  | false =>
    rw [if_neg]
    intro h
    have := hiff.2 (h2.1 h)
    cases this
theorem modify_zero {e : MapEntry} {es : List MapEntry} (f : MapEntry → MapEntry) : (e :: es).modify 0 f = f e :: es := rfl
theorem repM_find {S : Sm} {d : TypeDesc} {k : Value} (hk : IsKey d k) : ∀ {M : List (Value × D)} {es : List MapEntry}, RepM S d M es → ∀ i,
    (Instr.findNow d k es i = some none ∧ mfind M k = none ∧ (∀ x ∈ es, x.key ≠ k) ∧ (∀ (y : D) (v : Value) (c : Nat), RepD S y v → RepM S d (mput M k y) (es ++ [⟨k, v, c⟩])) ∧ mdel M k = M) ∨
    ∃ j e y, Instr.findNow d k es i = some (some (i + j, e.val)) ∧ es[j]? = some e ∧ e.key = k ∧ mfind M k = some y ∧ RepD S y e.val ∧
      (∀ (y' : D) (v : Value), RepD S y' v → RepM S d (mput M k y') (es.modify j fun e => { e with key := k, val := v })) ∧ RepM S d (mdel M k) (es.eraseIdx j)
  | _, _, .nil, i => .inl ⟨rfl, rfl, fun x hx => (by cases hx), fun y v c h => .cons rfl hk h .nil, rfl⟩
  | _, _, @RepM.cons _ _ x y e M es he hi h ht, i => by
    subst he
    rw [now_step hk hi]
    cases hq : keq k e.key with
    | true =>
      have hke := (keq_iff hk hi).1 hq
      refine .inr ⟨0, e, y, by simp, rfl, hke.symm, by unfold mfind; rw [hq]; rfl, h, fun y' v h' => ?_, ?_⟩
      · unfold mput; rw [hq]; exact .cons hke hi h' ht
      · unfold mdel; rw [hq]; exact ht
    | false =>
      have hne : e.key ≠ k := fun e1 => by rw [← e1, keq_refl hi] at hq; cases hq
      rcases repM_find hk ht (i + 1) with ⟨h1, h2, h3, h4, h5⟩ | ⟨j, e', y', h1, h2, h3, h4, h5, h6, h7⟩
      · refine .inl ⟨by simpa using h1, by unfold mfind; rw [hq]; exact h2, fun x hx => ?_, fun y v c h' => ?_, ?_⟩
        · rcases List.mem_cons.1 hx with rfl | hx
          · exact hne
          · exact h3 x hx
        · unfold mput; rw [hq]; exact .cons rfl hi h (h4 y v c h')
        · unfold mdel; rw [hq]; show (_ :: _) = _; rw [h5]
      · refine .inr ⟨j + 1, e', y', by rw [if_neg (by simp), h1, show i + 1 + j = i + (j + 1) from by omega], by simpa using h2, h3, by unfold mfind; rw [hq]; exact h4, h5, fun y'' v h' => ?_, ?_⟩
        · unfold mput; rw [hq]; exact .cons rfl hi h (h6 y'' v h')
        · unfold mdel; rw [hq]; exact .cons rfl hi h h7

/-! ### In the world -/
section
variable {P : Program} {S : Sm} {d : TypeDesc} {k : Value} {M : List (Value × D)} {es : List MapEntry} {w : World} {b : Nat} {mt kt et : TypeId}
theorem run_look (hm : P.underlying mt = some (.map kt et)) (hd : P.underlying kt = some d) (hk : IsKey d k) (hM : RepM S d M es) (hb : MapAt w b es) {z : Value} (hz : ∀ w, (zeroValue et).run P w = .ok z w) (c : Bool) :
    ∃ v, (Instr.lookup mt (.map (some b)) k c).run P w = .ok (if c then .tuple #[v, .bool (mfind M k).isSome] else v) w ∧ (match mfind M k with | some y => RepD S y v | none => v = z) := by
  obtain ⟨cl, hb, hs⟩ := hb
  rcases repM_find hk hM 0 with ⟨h1, h2, -⟩ | ⟨j, e, y, h1, h2, h3, h4, h5, -⟩
  · refine ⟨z, ?_, by rw [h2]⟩
    simp [Instr.lookup, run_underlying hm, Go.MapKept.run_getObj_map hb, Go.MapKept.run_checkKey hd hk, Go.MapKept.run_findKey hd h1, hz, h2, Result.andThen]
  · refine ⟨e.val, ?_, by rw [h4]; exact h5⟩
    simp [Instr.lookup, run_underlying hm, Go.MapKept.run_getObj_map hb, Go.MapKept.run_checkKey hd hk, Go.MapKept.run_findKey hd h1, h4, Result.andThen]
def setB (w : World) (b : Nat) (o : Obj) : World := { w with heap := w.heap.setIfInBounds b o }
theorem grown_setB {o o' : Obj} (hb : w.heap[b]? = some o) : w.grownBy (setB w b o') (some b) := ⟨rfl, rfl, rfl, by simp [setB], fun k _ hk => (Go.MapKept.heap_set hb).2 k fun e => hk (by rw [e])⟩
theorem run_put (hm : P.underlying mt = some (.map kt et)) (hd : P.underlying kt = some d) (hk : IsKey d k) (hM : RepM S d M es) (hb : MapAt w b es) {y : D} {v : Value} (hv : RepD S y v) :
    ∃ es' o, (Instr.mapUpdate mt (.map (some b)) k v).run P w = .ok () (setB w b o) ∧ MapAt (setB w b o) b es' ∧ RepM S d (mput M k y) es' := by
  obtain ⟨cl, hb, hs⟩ := hb
  rcases repM_find hk hM 0 with ⟨h1, h2, h3, h4, -⟩ | ⟨j, e, y', h1, h2, h3, h4, h5, h6, -⟩
  · refine ⟨es ++ [⟨k, v, cl⟩], .map (es.toArray.push ⟨k, v, cl⟩) (cl + 1), ?_, ⟨cl + 1, by rw [← List.push_toArray]; exact (Go.MapKept.heap_set hb).1, by rw [← List.push_toArray]; exact Go.MapKept.stamped_push hs (by simpa using h3)⟩, h4 y v cl hv⟩
    simp [Instr.mapUpdate, run_underlying hm, Go.MapKept.run_getObj_map hb, Go.MapKept.run_checkKey hd hk, Go.MapKept.run_findKey hd h1, Go.MapKept.run_setObj_map _ hb, Result.andThen, setB]
  · have hj : es.toArray[j]? = some e := by simpa using h2
    have hkey : ∀ e', es.toArray[j]? = some e' → ({ e' with key := k, val := v } : MapEntry).key = e'.key := fun e' he' => by rw [hj] at he'; cases he'; exact h3.symm
    have ha : (es.modify j fun e => { e with key := k, val := v }).toArray = es.toArray.modify j fun e => { e with key := k, val := v } := by simp
    refine ⟨es.modify j fun e => { e with key := k, val := v }, .map (es.toArray.modify j fun e => { e with key := k, val := v }) cl, ?_, ⟨cl, by rw [ha]; exact (Go.MapKept.heap_set hb).1, by rw [ha]; exact Go.MapKept.stamped_modify hs _ _ (fun _ _ => rfl) (fun e' _ he' => hkey e' he')⟩, h6 y v hv⟩
    simp [Instr.mapUpdate, run_underlying hm, Go.MapKept.run_getObj_map hb, Go.MapKept.run_checkKey hd hk, Go.MapKept.run_findKey hd h1, h2, h3, Go.MapKept.run_keyThatStays hk, Go.MapKept.run_setObj_map _ hb, Result.andThen, setB]
theorem run_del {ty : TypeId} (hm : P.underlying mt = some (.map kt et)) (hd : P.underlying kt = some d) (hk : IsKey d k) (hM : RepM S d M es) (hb : MapAt w b es) :
    ∃ es' o, (Builtin.delete_ #[mt, kt] ty #[.map (some b), k]).run P w = .ok (.tuple #[]) (setB w b o) ∧ MapAt (setB w b o) b es' ∧ RepM S d (mdel M k) es' := by
  obtain ⟨cl, hb, hs⟩ := hb
  rcases repM_find hk hM 0 with ⟨h1, h2, h3, -, h5⟩ | ⟨j, e, y', h1, h2, h3, h4, h5, -, h7⟩
  · refine ⟨es, .map es.toArray cl, ?_, ⟨cl, (Go.MapKept.heap_set hb).1, hs⟩, h5.symm ▸ hM⟩
    simp [Builtin.delete_, run_underlying hm, Go.MapKept.run_getObj_map hb, Go.MapKept.run_checkKey hd hk, Go.MapKept.run_findKey hd h1, Go.MapKept.run_setObj_map _ hb, Result.andThen, setB]
  · have hjl : j < es.length := (List.getElem?_eq_some_iff.1 h2).1
    have ha : (es.eraseIdx j).toArray = es.toArray.eraseIdxIfInBounds j := by simp [Array.eraseIdxIfInBounds, hjl]
    refine ⟨es.eraseIdx j, .map (es.toArray.eraseIdxIfInBounds j) cl, ?_, ⟨cl, by rw [ha]; exact (Go.MapKept.heap_set hb).1, by rw [ha]; exact Go.MapKept.stamped_erase hs j⟩, h7⟩
    simp [Builtin.delete_, run_underlying hm, Go.MapKept.run_getObj_map hb, Go.MapKept.run_checkKey hd hk, Go.MapKept.run_findKey hd h1, Go.MapKept.run_setObj_map _ hb, Result.andThen, setB]
end
/-! ### As objects -/
section
variable {P : Program} {Γ : Cx} {o : Oper} {σ : Nat → T} {objs : Objs}
/-- One block of an object turns. -/
theorem WI.touch {g : Gh} {w w' : World} {id b0 : Nat} {ob ob' : GObj} (hw : WI Γ g objs w) (ho : objs id = some ob) (hg : w.grownBy w' (some b0)) (hb0 : ob.blk g id b0) (hS : ∀ o, g.S b0 o = none) (hob : ObjAt Γ g w' id ob') (hsub : ∀ b, ob'.blk g id b → ob.blk g id b) :
    WI Γ g (ovr objs [(id, ob')]) w' := by
  have hblk : ∀ k, k < w.heap.size → k ≠ b0 → w'.heap[k]? = w.heap[k]? := fun k hk hne => hg.block k hk fun e1 => hne (by simpa using e1)
  have back : ∀ (i : Nat) (oi : GObj), ovr objs [(id, ob')] i = some oi → (i = id ∧ oi = ob') ∨ (i ≠ id ∧ objs i = some oi) := by
    intro i oi h
    by_cases hid : i = id
    · subst hid; left; simp [ovr] at h; exact ⟨rfl, h.symm⟩
    · have : (i == id) = false := by simpa using hid
      exact .inr ⟨hid, by simpa [ovr, List.lookup, this] using h⟩
  have key : ∀ (i : Nat) (oi : GObj) (b : Nat), ovr objs [(id, ob')] i = some oi → oi.blk g i b → ∃ oi', objs i = some oi' ∧ oi'.blk g i b := fun i oi b hi hb => by
    rcases back i oi hi with ⟨rfl, rfl⟩ | ⟨-, hi'⟩
    · exact ⟨_, ho, hsub b hb⟩
    · exact ⟨oi, hi', hb⟩
  refine ⟨fun b o x h => ?_, fun i oi hi => ?_, fun i j oi oj b h3 h4 h5 h6 => ?_, ?_, hw.old, hw.ext⟩
  · have hb : b ≠ b0 := fun e1 => by rw [e1, hS o] at h; cases h
    have hlt := World.block_lt_of_cell? w ⟨b, o, none⟩ (hw.imm b o x h)
    rw [World.cell?_of_block (w := w) (hblk b hlt hb)]
    exact hw.imm b o x h
  · rcases back i oi hi with ⟨rfl, rfl⟩ | ⟨hne, hi'⟩
    · exact hob
    · have h3 := hw.obj i oi hi'
      exact h3.same (GLe.refl (fun _ => True) g) rfl rfl rfl (fun _ _ => trivial) fun b hb => ⟨hblk b (h3.blk_lt hb) fun e1 => hne (hw.apart i id _ _ b hi' ho hb (e1 ▸ hb0)), fun _ => rfl⟩
  · obtain ⟨oi', c1, c2⟩ := key i oi b h3 h5
    obtain ⟨oj', c3, c4⟩ := key j oj b h4 h6
    exact hw.apart i j oi' oj' b c1 c3 c2 c4
  · refine ⟨hg.os.trans hw.fr.os, hg.tape.trans hw.fr.tape, hg.output.trans hw.fr.output, Nat.le_trans hw.fr.size hg.size, fun k hk hx => ?_⟩
    refine (hblk k (Nat.lt_of_lt_of_le hk hw.fr.size) fun e1 => ?_).trans (hw.fr.block k hk hx)
    subst e1
    rcases (hw.obj id ob ho).mine hb0 with h | h
    · omega
    · exact hx h
/-- A map's type: the key's kind, the element. -/
def mapT? (P : Program) (t : TypeId) : Option (TypeId × TypeDesc × TypeId) := match P.underlying t with
  | some (.map k e) => (P.underlying k).map fun d => (k, d, e)
  | _ => none
theorem mapT_spec {t kt et : TypeId} {d : TypeDesc} (h : mapT? P t = some (kt, d, et)) : P.underlying t = some (.map kt et) ∧ P.underlying kt = some d := by
  unfold mapT? at h
  split at h
  · next k e hu =>
    cases hk : P.underlying k with
    | none => rw [hk] at h; cases h
    | some d' => rw [hk] at h; cases h; exact ⟨hu, hk⟩
  · cases h
theorem t_makemap {t c : Nat} {d : TypeDesc} (ho : o.op = .makeMap t none) : Tri P o σ [(c, .vac)] (.mp c) [(c, .map d [])] := by
  intro Γ g objs a w Q hr hp hw
  have hc := hp _ (List.mem_singleton.2 rfl)
  have h0 : g.len c = 0 := hw.obj c _ hc
  have hb := (Below.refl w.heap.size w).alloc (Nat.le_refl _) (.map #[] 0)
  have hw2 : WI Γ ⟨g.S, g.blk, g.row, g.len⟩ objs (w.alloc (.map #[] 0)) := hw.call (SLe.refl _) (fun _ _ _ _ => rfl) (fun b o x h => by
    have h2 := hw.imm b o x h
    rw [hb.cell (p := ⟨b, o, none⟩) (World.block_lt_of_cell? w ⟨b, o, none⟩ h2)]; exact h2) hb
  have hob : ObjAt Γ (setC g c w.heap.size) (w.alloc (.map #[] 0)) c (.map d []) := by
    refine ⟨[], by simp [setC], .inl ?_, ⟨0, ?_, Go.MapKept.stamped_empty 0⟩, .nil, fun o => ?_⟩
    · simp only [setC, if_true]; exact hw.fr.size
    · simp only [setC, if_true]; exact (Go.MapKept.heap_alloc w _).1
    · simp only [setC, if_true]
      cases h3 : g.S w.heap.size o with
      | none => rfl
      | some x => exact absurd (World.block_lt_of_cell? w ⟨_, o, none⟩ (hw.imm _ _ _ h3)) (Nat.lt_irrefl _)
  obtain ⟨k1, k2⟩ := hw2.turn (g' := setC g c w.heap.size) hc (by simp [setC]) rfl (fun i hi => by simp [setC, hi]) (fun _ _ => rfl) (fun i hi => by simp [setC, hi]) hob (fun j oj b _ h2 h3 h4 => by
    have hlt := hw.blk_lt h2 h3
    simp only [GObj.blk, setC, if_true] at h4
    exact absurd h4 (Nat.ne_of_gt hlt))
  unfold Oper.wp execOp
  simp only [ho, Sem.run_bind, Sem.run_pure]
  refine ⟨_, _, rfl, k1, ?_, k2⟩
  have : RepT (setC g c w.heap.size) (.mp c) (.map (some ((setC g c w.heap.size).blk c))) := .mp (by simp [setC])
  simpa [setC] using this
/-- What a look-up yields. -/
def lookD (z : Value) : Option D → T
  | some y => .d y
  | none => constT z
theorem look_rep {g : Gh} {z v : Value} {r : Option D} (h : match r with | some y => RepD g.S y v | none => v = z) : RepT g (lookD z r) v := by
  cases r with
  | some y => exact .d h
  | none => show RepT g (constT z) v; rw [show v = z from h]; exact rep_const g z
theorem t_look {t kt et : TypeId} {d : TypeDesc} {m x : Operand} {id : Nat} {k z : Value} {M : List (Value × D)} (ho : o.op = .lookup t m x false) (hT : mapT? P t = some (kt, d, et)) (hz : ∀ w, (zeroValue et).run P w = .ok z w) (hm : opT σ m = .mp id) (hx : opT σ x = .d (.v k)) (hk : IsKey d k) :
    Tri P o σ [(id, .map d M)] (lookD z (mfind M k)) [] :=
  .val fun _ g _ a w hr hp hw => by
    obtain ⟨hu, hd⟩ := mapT_spec hT
    have e1 := hr m (by rw [ho]; simp [Op.operands])
    have e2 := hr x (by rw [ho]; simp [Op.operands])
    rw [hm] at e1
    rw [hx] at e2
    obtain ⟨es, -, -, hb, hM, -⟩ := hw.obj id _ (hp _ (List.mem_singleton.2 rfl))
    obtain ⟨v, hv, hr⟩ := run_look hu hd hk hM hb hz false
    generalize hy : a.eval m = y at e1
    cases e1 with
    | mp ha => exact ⟨v, by unfold execOp; rw [ho]; simp [hy, inv_v e2, hv], look_rep hr⟩
theorem t_lookok {t kt et : TypeId} {d : TypeDesc} {m x : Operand} {id : Nat} {k z : Value} {M : List (Value × D)} (ho : o.op = .lookup t m x true) (hT : mapT? P t = some (kt, d, et)) (hz : ∀ w, (zeroValue et).run P w = .ok z w) (hm : opT σ m = .mp id) (hx : opT σ x = .d (.v k)) (hk : IsKey d k) :
    Tri P o σ [(id, .map d M)] (.tup [lookD z (mfind M k), .d (.v (.bool (mfind M k).isSome))]) [] :=
  .val fun _ g _ a w hr hp hw => by
    obtain ⟨hu, hd⟩ := mapT_spec hT
    have e1 := hr m (by rw [ho]; simp [Op.operands])
    have e2 := hr x (by rw [ho]; simp [Op.operands])
    rw [hm] at e1
    rw [hx] at e2
    obtain ⟨es, -, -, hb, hM, -⟩ := hw.obj id _ (hp _ (List.mem_singleton.2 rfl))
    obtain ⟨v, hv, hr⟩ := run_look hu hd hk hM hb hz true
    generalize hy : a.eval m = y at e1
    cases e1 with
    | mp ha => exact ⟨.tuple #[v, .bool (mfind M k).isSome], by unfold execOp; rw [ho]; simp [hy, inv_v e2, hv], .tup (.cons (look_rep hr) (.cons (rep_v rfl) .nil))⟩
theorem t_put {t kt et : TypeId} {d : TypeDesc} {m x v : Operand} {id : Nat} {k : Value} {y : D} {M : List (Value × D)} (ho : o.op = .mapUpdate t m x v) (hT : mapT? P t = some (kt, d, et)) (hm : opT σ m = .mp id) (hx : opT σ x = .d (.v k)) (hv : TLe (opT σ v) (.d y)) (hk : IsKey d k) :
    Tri P o σ [(id, .map d M)] .und [(id, .map d (mput M k y))] := by
  intro Γ g objs a w Q hr hp hw
  obtain ⟨hu, hd⟩ := mapT_spec hT
  have e1 := rep_op hr (x := m) (by rw [ho]; simp [Op.operands])
  have e2 := rep_op hr (x := x) (by rw [ho]; simp [Op.operands])
  have e3 := hv g _ (rep_op hr (x := v) (by rw [ho]; simp [Op.operands]))
  rw [hm] at e1
  rw [hx] at e2
  have hid := hp _ (List.mem_singleton.2 rfl)
  obtain ⟨es, a0, a1, hb, hM, a5⟩ := hw.obj id _ hid
  generalize hy : a.eval m = u at e1
  generalize hz : a.eval v = z at e3
  cases e1 with
  | mp ha =>
    cases e3 with
    | d e3 =>
      obtain ⟨es', ob, hrun, h1, h2⟩ := run_put hu hd hk hM hb e3
      unfold Oper.wp execOp
      simp only [ho, hy, hz, inv_v e2, Sem.run_bind, hrun, Result.andThen_ok, Sem.run_pure]
      obtain ⟨c, hb1, -⟩ := hb
      exact ⟨g, undef, rfl, GLe.refl _ _, .und, hw.touch hid (grown_setB hb1) rfl a5 ⟨es', a0, a1, h1, h2, a5⟩ fun b hb => hb⟩
theorem t_del {t kt et : TypeId} {d : TypeDesc} {m x : Operand} {id : Nat} {k : Value} {M : List (Value × D)} (ho : o.op = .call { callee := .builtin .delete, args := #[m, x], argTypes := #[t, kt] }) (hT : mapT? P t = some (kt, d, et)) (hm : opT σ m = .mp id) (hx : opT σ x = .d (.v k)) (hk : IsKey d k) :
    Tri P o σ [(id, .map d M)] .und [(id, .map d (mdel M k))] := by
  intro Γ g objs a w Q hr hp hw
  obtain ⟨hu, hd⟩ := mapT_spec hT
  have e1 := rep_op hr (x := m) (by rw [ho]; simp [Op.operands, Call.operands])
  have e2 := rep_op hr (x := x) (by rw [ho]; simp [Op.operands, Call.operands])
  rw [hm] at e1
  rw [hx] at e2
  have hid := hp _ (List.mem_singleton.2 rfl)
  obtain ⟨es, a0, a1, hb, hM, a5⟩ := hw.obj id _ hid
  generalize hy : a.eval m = u at e1
  cases e1 with
  | mp ha =>
    obtain ⟨es', ob, hrun, h1, h2⟩ := run_del (ty := o.type) hu hd hk hM hb
    unfold Oper.wp execOp
    simp only [ho, resolve, invoke, builtin, Sem.run_bind, Sem.run_pure, Result.andThen_ok, List.map_toArray, List.map_cons, List.map_nil, hy, inv_v e2, hrun]
    obtain ⟨c, hb1, -⟩ := hb
    exact ⟨g, _, rfl, GLe.refl _ _, .und, hw.touch hid (grown_setB hb1) rfl a5 ⟨es', a0, a1, h1, h2, a5⟩ fun b hb => hb⟩
end
end Go.Proofs.YtngklbnodknadaaGreatDoor
end

section
namespace Go.Proofs.YtngklbnodknadaaGreatDoor
open Go.RowKit
open Go.MapKept (IsKey Stamped)

theorem repR_find {w : World} {S : Sm} {d : TypeDesc} {et n : Nat} {k : Value} (hk : IsKey d k) : ∀ {M : List (Value × Option (List D))} {es : List MapEntry} {vs : List Value}, RepR w S d et n M es vs → ∀ i,
    (Instr.findNow d k es i = some none ∧ mfind M k = none ∧ (∀ x ∈ es, x.key ≠ k) ∧
      (∀ (v : Value) (l : List D) (xs : List Value) (c : Nat), w.ownsRow 0 et n v l.length xs → RepLv S n l xs → (∀ b, v.ownBlock = some b → ∀ o, S b o = xs[o]?) → RepR w S d et n (mput M k (some l)) (es ++ [⟨k, v, c⟩]) (vs ++ [v])) ∧ mdel M k = M) ∨
    ∃ j e r u, Instr.findNow d k es i = some (some (i + j, e.val)) ∧ es[j]? = some e ∧ e.key = k ∧ mfind M k = some r ∧ vs[j]? = some u ∧
      (match r with | some l => u = e.val ∧ ∃ xs, w.ownsRow 0 et n e.val l.length xs ∧ RepLv S n l xs ∧ ∀ b, e.val.ownBlock = some b → ∀ o, S b o = xs[o]? | none => u = undef) ∧
      (∀ (v : Value) (l : List D) (xs : List Value), w.ownsRow 0 et n v l.length xs → RepLv S n l xs → (∀ b, v.ownBlock = some b → ∀ o, S b o = xs[o]?) → RepR w S d et n (mput M k (some l)) (es.modify j fun e => { e with key := k, val := v }) (vs.set j v)) ∧
      RepR w S d et n (mput M k none) es (vs.set j undef) ∧ RepR w S d et n (mdel M k) (es.eraseIdx j) (vs.eraseIdx j)
  | _, _, _, .nil, i => .inl ⟨rfl, rfl, fun x hx => (by cases hx), fun v l xs c h1 h2 h3 => .row rfl hk h1 h2 h3 .nil, rfl⟩
  | _, _, _, @RepR.row _ _ _ _ _ x l xs e M es vs he hi ho hl hS ht, i => by
    subst he
    rw [now_step hk hi]
    cases hq : keq k e.key with
    | true =>
      have hke := (keq_iff hk hi).1 hq
      refine .inr ⟨0, e, some l, e.val, by simp, rfl, hke.symm, by unfold mfind; rw [hq]; rfl, rfl, ⟨rfl, xs, ho, hl, hS⟩, fun v l' xs' h1 h2 h3 => ?_, ?_, ?_⟩
      · unfold mput; rw [hq]; exact .row hke hi h1 h2 h3 ht
      · unfold mput; rw [hq]; exact .out rfl hi ht
      · unfold mdel; rw [hq]; exact ht
    | false =>
      have hne : e.key ≠ k := fun e1 => by rw [← e1, keq_refl hi] at hq; cases hq
      rcases repR_find hk ht (i + 1) with ⟨h1, h2, h3, h4, h5⟩ | ⟨j, e', r, u, h1, h2, h3, h4, h5, h6, h7, h8, h9⟩
      · refine .inl ⟨by simpa using h1, by unfold mfind; rw [hq]; exact h2, fun x hx => ?_, fun v l' xs' c a1 a2 a3 => ?_, ?_⟩
        · rcases List.mem_cons.1 hx with rfl | hx
          · exact hne
          · exact h3 x hx
        · unfold mput; rw [hq]; exact .row rfl hi ho hl hS (h4 v l' xs' c a1 a2 a3)
        · unfold mdel; rw [hq]; show (_ :: _) = _; rw [h5]
      · refine .inr ⟨j + 1, e', r, u, by rw [if_neg (by simp), h1, show i + 1 + j = i + (j + 1) from by omega], by simpa using h2, h3, by unfold mfind; rw [hq]; exact h4, by simpa using h5, h6, fun v l' xs' a1 a2 a3 => ?_, ?_, ?_⟩
        · unfold mput; rw [hq]; exact .row rfl hi ho hl hS (h7 v l' xs' a1 a2 a3)
        · unfold mput; rw [hq]; exact .row rfl hi ho hl hS h8
        · unfold mdel; rw [hq]; exact .row rfl hi ho hl hS h9
  | _, _, _, @RepR.out _ _ _ _ _ x e M es vs he hi ht, i => by
    subst he
    rw [now_step hk hi]
    cases hq : keq k e.key with
    | true =>
      have hke := (keq_iff hk hi).1 hq
      refine .inr ⟨0, e, none, undef, by simp, rfl, hke.symm, by unfold mfind; rw [hq]; rfl, rfl, rfl, fun v l' xs' h1 h2 h3 => ?_, ?_, ?_⟩
      · unfold mput; rw [hq]; exact .row hke hi h1 h2 h3 ht
      · unfold mput; rw [hq]; exact .out rfl hi ht
      · unfold mdel; rw [hq]; exact ht
    | false =>
      have hne : e.key ≠ k := fun e1 => by rw [← e1, keq_refl hi] at hq; cases hq
      rcases repR_find hk ht (i + 1) with ⟨h1, h2, h3, h4, h5⟩ | ⟨j, e', r, u, h1, h2, h3, h4, h5, h6, h7, h8, h9⟩
      · refine .inl ⟨by simpa using h1, by unfold mfind; rw [hq]; exact h2, fun x hx => ?_, fun v l' xs' c a1 a2 a3 => ?_, ?_⟩
        · rcases List.mem_cons.1 hx with rfl | hx
          · exact hne
          · exact h3 x hx
        · unfold mput; rw [hq]; exact .out rfl hi (h4 v l' xs' c a1 a2 a3)
        · unfold mdel; rw [hq]; show (_ :: _) = _; rw [h5]
      · refine .inr ⟨j + 1, e', r, u, by rw [if_neg (by simp), h1, show i + 1 + j = i + (j + 1) from by omega], by simpa using h2, h3, by unfold mfind; rw [hq]; exact h4, by simpa using h5, h6, fun v l' xs' a1 a2 a3 => ?_, ?_, ?_⟩
        · unfold mput; rw [hq]; exact .out rfl hi (h7 v l' xs' a1 a2 a3)
        · unfold mput; rw [hq]; exact .out rfl hi h8
        · unfold mdel; rw [hq]; exact .out rfl hi h9
section
variable {P : Program} {Γ : Cx} {o : Oper} {σ : Nat → T} {objs : Objs}
/-- Some objects turn, in one block at most, and what they own goes from one to another. -/
theorem WI.re {g g' : Gh} {w w' : World} {post : List (Nat × GObj)} {b0 : Option Nat} (hw : WI Γ g objs w) (hS : g'.S = g.S) (hle : GLe (fun _ => True) g g') (hout : ∀ i, post.lookup i = none → g'.blk i = g.blk i ∧ g'.row i = g.row i ∧ g'.len i = g.len i)
    (hg : w.grownBy w' b0) (hb0 : ∀ b, b0 = some b → (∃ i ob, (post.lookup i).isSome = true ∧ objs i = some ob ∧ ob.blk g i b) ∧ ∀ o, g.S b o = none) (hob : ∀ i ob, post.lookup i = some ob → ObjAt Γ g' w' i ob)
    (hsub : ∀ i ob b, post.lookup i = some ob → ob.blk g' i b → ∃ j oj, (post.lookup j).isSome = true ∧ objs j = some oj ∧ oj.blk g j b) (hin : ∀ i j oi oj b, post.lookup i = some oi → post.lookup j = some oj → oi.blk g' i b → oj.blk g' j b → i = j) : WI Γ g' (ovr objs post) w' := by
  have back : ∀ (i : Nat) (oi : GObj), ovr objs post i = some oi → post.lookup i = some oi ∨ (post.lookup i = none ∧ objs i = some oi) := fun i oi h => by
    unfold ovr at h
    cases hl : post.lookup i with
    | none => rw [hl] at h; exact .inr ⟨rfl, h⟩
    | some x => rw [hl] at h; exact .inl h
  have hb : ∀ (i : Nat) (oi : GObj), post.lookup i = none → oi.blk g' i = oi.blk g i := fun i oi h => blk_same (hout i h).1 (hout i h).2.1 oi
  refine ⟨fun b o x h => ?_, fun i oi hi => ?_, fun i j oi oj b h3 h4 h5 h6 => ?_, ?_, fun b o h1 h2 => by rw [hS]; exact hw.old b o h1 h2, hw.ext.trans (hle.weak fun _ _ => trivial)⟩
  · rw [hS] at h
    have hlt := World.block_lt_of_cell? w ⟨b, o, none⟩ (hw.imm b o x h)
    rw [World.cell?_of_block (w := w) (hg.block b hlt fun e1 => by rw [(hb0 b e1.symm).2 o] at h; cases h)]
    exact hw.imm b o x h
  · rcases back i oi hi with h | ⟨hn, h⟩
    · exact hob i oi h
    · have h3 := hw.obj i oi h
      refine h3.same hle (hout i hn).1 (hout i hn).2.1 (hout i hn).2.2 (fun _ _ => trivial) fun b hbk => ⟨hg.block b (h3.blk_lt hbk) fun e1 => ?_, fun o => by rw [hS]⟩
      obtain ⟨⟨j, oj, k1, k2, k3⟩, -⟩ := hb0 b e1.symm
      have := hw.apart i j oi oj b h k2 hbk k3
      subst this
      rw [hn] at k1; cases k1
  · rcases back i oi h3 with h | ⟨hn, h⟩ <;> rcases back j oj h4 with h' | ⟨hn', h'⟩
    · exact hin i j oi oj b h h' h5 h6
    · exfalso
      rw [hb j oj hn'] at h6
      obtain ⟨i2, oi2, k1, k2, k3⟩ := hsub i oi b h h5
      have := hw.apart i2 j oi2 oj b k2 h' k3 h6
      subst this
      rw [hn'] at k1; cases k1
    · exfalso
      rw [hb i oi hn] at h5
      obtain ⟨j2, oj2, k1, k2, k3⟩ := hsub j oj b h' h6
      have := hw.apart i j2 oi oj2 b h k2 h5 k3
      subst this
      rw [hn] at k1; cases k1
    · rw [hb i oi hn] at h5
      rw [hb j oj hn'] at h6
      exact hw.apart i j oi oj b h h' h5 h6
  · refine ⟨hg.os.trans hw.fr.os, hg.tape.trans hw.fr.tape, hg.output.trans hw.fr.output, Nat.le_trans hw.fr.size hg.size, fun k hk hx => ?_⟩
    refine (hg.block k (Nat.lt_of_lt_of_le hk hw.fr.size) fun e1 => ?_).trans (hw.fr.block k hk hx)
    obtain ⟨⟨i, ob, -, k2, k3⟩, -⟩ := hb0 k e1.symm
    rcases (hw.obj i ob k2).mine k3 with h | h
    · omega
    · exact hx h
theorem own_rep {w : World} {S : Sm} {e k : Nat} {v : Value} {l : List D} {xs : List Value} (h : w.ownsRow 0 e k v l.length xs) (hl : RepLv S k l xs) (hS : ∀ b, v.ownBlock = some b → ∀ o, S b o = xs[o]?) : RepD S (.sl k l) v := by
  obtain ⟨p, c, rfl, h1, h2⟩ := own_slice h
  refine .sl hl ?_ h1 h2 fun hp => ?_
  · rcases h.2 with ⟨e1, e2⟩ | ⟨gb, cap, cur, e1, -⟩
    · have : xs = [] := List.eq_nil_of_length_eq_zero (by rw [h.1, e2]; simp)
      rw [this]; exact RowS.nil _ _
    · simp only [Value.slice.injEq, true_and] at e1
      obtain ⟨rfl, rfl⟩ := e1
      exact ⟨gb, 0, fun _ => rfl, fun i _ => by rw [Nat.zero_add]; exact hS gb rfl i⟩
  · rcases h.2 with ⟨e1, -⟩ | ⟨gb, cap, cur, e1, -⟩
    · simp only [Value.slice.injEq] at e1; exact e1.2.2
    · simp only [Value.slice.injEq] at e1; rw [e1.1] at hp; cases hp
/-- The row of a key. -/
def rowD : Option (Option (List D)) → List D
  | some (some l) => l
  | _ => []
theorem run_lookN {mt kt et : TypeId} {d : TypeDesc} {k z : Value} {es : List MapEntry} {w : World} {b cl : Nat} (hm : P.underlying mt = some (.map kt et)) (hd : P.underlying kt = some d) (hk : IsKey d k) (hb : w.heap[b]? = some (.map es.toArray cl)) (hz : ∀ w, (zeroValue et).run P w = .ok z w) (h1 : Instr.findNow d k es 0 = some none) :
    (Instr.lookup mt (.map (some b)) k false).run P w = .ok z w := by
  simp [Instr.lookup, run_underlying hm, Go.MapKept.run_getObj_map hb, Go.MapKept.run_checkKey hd hk, Go.MapKept.run_findKey hd h1, hz, Result.andThen]
theorem run_lookS {mt kt et : TypeId} {d : TypeDesc} {k v : Value} {es : List MapEntry} {w : World} {b cl j : Nat} (hm : P.underlying mt = some (.map kt et)) (hd : P.underlying kt = some d) (hk : IsKey d k) (hb : w.heap[b]? = some (.map es.toArray cl)) (h1 : Instr.findNow d k es 0 = some (some (j, v))) :
    (Instr.lookup mt (.map (some b)) k false).run P w = .ok v w := by
  simp [Instr.lookup, run_underlying hm, Go.MapKept.run_getObj_map hb, Go.MapKept.run_checkKey hd hk, Go.MapKept.run_findKey hd h1, Result.andThen]
theorem t_rlook {t kt et e n : Nat} {d : TypeDesc} {m x : Operand} {id : Nat} {k : Value} {M : List (Value × Option (List D))} (ho : o.op = .lookup t m x false) (hT : mapT? P t = some (kt, d, et)) (hz : ∀ w, (zeroValue et).run P w = .ok (.slice none 0 0) w) (hm : opT σ m = .mp id) (hx : opT σ x = .d (.v k)) (hk : IsKey d k) (hM : mfind M k ≠ some none) :
    Tri P o σ [(id, .rmap d e n M)] (.d (.sl n (rowD (mfind M k)))) [] :=
  .val fun _ g _ a w hr hp hw => by
    obtain ⟨hu, hd⟩ := mapT_spec hT
    have e1 := hr m (by rw [ho]; simp [Op.operands])
    have e2 := hr x (by rw [ho]; simp [Op.operands])
    rw [hm] at e1
    rw [hx] at e2
    obtain ⟨es, vs, -, -, ⟨c, hb, -⟩, -, hR, -⟩ := hw.obj id _ (hp _ (List.mem_singleton.2 rfl))
    generalize hy : a.eval m = y at e1
    cases e1 with
    | mp ha =>
      rcases repR_find hk hR 0 with ⟨h1, h2, -⟩ | ⟨j, en, r, u, h1, -, -, h4, -, h6, -⟩
      · refine ⟨.slice none 0 0, by unfold execOp; rw [ho]; simp [hy, inv_v e2, run_lookN hu hd hk hb hz h1], ?_⟩
        rw [h2]
        exact .d (RepD.sl .nil (RowS.nil _ _) (Nat.le_refl _) (Nat.zero_le _) fun _ => rfl)
      · cases r with
        | none => exact absurd h4 hM
        | some l =>
          obtain ⟨-, xs, q1, q2, q3⟩ := h6
          refine ⟨en.val, by unfold execOp; rw [ho]; simp [hy, inv_v e2, run_lookS hu hd hk hb h1], ?_⟩
          rw [h4]
          exact .d (own_rep q1 q2 q3)
/-- A map of rows whose rows lie otherwise. -/
def setM (g : Gh) (m : Nat) (v : Value) : Gh := ⟨g.S, g.blk, fun i => if i = m then v else g.row i, fun i => if i = m then g.len i + 1 else g.len i⟩
theorem setM_le (g : Gh) (m : Nat) (v : Value) : GLe (fun _ => True) g (setM g m v) := by
  refine ⟨SLe.refl _, fun _ _ _ => rfl, fun i _ => ?_, fun i _ h => ?_⟩
  · simp only [setM]; split <;> omega
  · simp only [setM] at h ⊢
    by_cases e : i = m
    · rw [if_pos e] at h; omega
    · rw [if_neg e]
/-- Struck from: the row is no one's. -/
theorem t_rdel {t kt et e n : Nat} {d : TypeDesc} {m x : Operand} {id : Nat} {k : Value} {M : List (Value × Option (List D))} (ho : o.op = .call { callee := .builtin .delete, args := #[m, x], argTypes := #[t, kt] }) (hT : mapT? P t = some (kt, d, et)) (hm : opT σ m = .mp id) (hx : opT σ x = .d (.v k)) (hk : IsKey d k) :
    Tri P o σ [(id, .rmap d e n M)] .und [(id, .rmap d e n (mdel M k))] := by
  intro Γ g objs a w Q hr hp hw
  obtain ⟨hu, hd⟩ := mapT_spec hT
  have e1 := rep_op hr (x := m) (by rw [ho]; simp [Op.operands, Call.operands])
  have e2 := rep_op hr (x := x) (by rw [ho]; simp [Op.operands, Call.operands])
  rw [hm] at e1
  rw [hx] at e2
  have hid := hp _ (List.mem_singleton.2 rfl)
  obtain ⟨es, vs, a0, a1, ⟨cl, hb, hst⟩, a4, hR, a6, a7, a8⟩ := hw.obj id _ hid
  generalize hy : a.eval m = u at e1
  cases e1 with
  | mp ha =>
    have key : ∃ es' vs' ob, (Builtin.delete_ #[t, kt] o.type #[.map (some (g.blk id)), k]).run P w = .ok (.tuple #[]) (setB w (g.blk id) ob) ∧ MapAt (setB w (g.blk id) ob) (g.blk id) es' ∧ RepR w g.S d e n (mdel M k) es' vs' ∧ vs'.Sublist vs := by
      rcases repR_find hk hR 0 with ⟨h1, h2, h3, -, h5⟩ | ⟨j, en, r, u, h1, h2, h3, h4, h5, -, -, -, h7⟩
      · refine ⟨es, vs, .map es.toArray cl, ?_, ⟨cl, (Go.MapKept.heap_set hb).1, hst⟩, h5.symm ▸ hR, List.Sublist.refl _⟩
        simp [Builtin.delete_, run_underlying hu, Go.MapKept.run_getObj_map hb, Go.MapKept.run_checkKey hd hk, Go.MapKept.run_findKey hd h1, Go.MapKept.run_setObj_map _ hb, Result.andThen, setB]
      · have hjl : j < es.length := (List.getElem?_eq_some_iff.1 h2).1
        have ha : (es.eraseIdx j).toArray = es.toArray.eraseIdxIfInBounds j := by simp [Array.eraseIdxIfInBounds, hjl]
        refine ⟨es.eraseIdx j, vs.eraseIdx j, .map (es.toArray.eraseIdxIfInBounds j) cl, ?_, ⟨cl, by rw [ha]; exact (Go.MapKept.heap_set hb).1, by rw [ha]; exact Go.MapKept.stamped_erase hst j⟩, h7, List.eraseIdx_sublist _ _⟩
        simp [Builtin.delete_, run_underlying hu, Go.MapKept.run_getObj_map hb, Go.MapKept.run_checkKey hd hk, Go.MapKept.run_findKey hd h1, Go.MapKept.run_setObj_map _ hb, Result.andThen, setB]
    obtain ⟨es', vs', ob, hrun, h1, h2, h3⟩ := key
    unfold Oper.wp execOp
    simp only [ho, resolve, invoke, builtin, Sem.run_bind, Sem.run_pure, Result.andThen_ok, List.map_toArray, List.map_cons, List.map_nil, hy, inv_v e2, hrun]
    have hmem : ∀ v ∈ vs', ∀ b, v.ownBlock = some b → (setB w (g.blk id) ob).heap[b]? = w.heap[b]? := fun v hv b hbk => (Go.MapKept.heap_set hb).2 b (a7 v (h3.subset hv) b hbk).2
    have hob : ObjAt Γ (setM g id (.tuple vs'.toArray)) (setB w (g.blk id) ob) id (.rmap d e n (mdel M k)) :=
      ⟨es', vs', by simp [setM], a1, h1, by simp [setM], h2.same (SLe.refl _) fun v hv b hbk => ⟨hmem v hv b hbk, fun _ => rfl⟩, a6, fun v hv => a7 v (h3.subset hv), a8.sublist h3⟩
    have hl : ∀ i, ([(id, GObj.rmap d e n (mdel M k))] : List (Nat × GObj)).lookup i = if i = id then some (.rmap d e n (mdel M k)) else none := fun i => by
      by_cases hi : i = id
      · subst hi; simp
      · have : (i == id) = false := by simpa using hi
        simp [List.lookup, this, hi]
    refine ⟨setM g id (.tuple vs'.toArray), _, rfl, setM_le g id _, .und, hw.re (b0 := some (g.blk id)) rfl (setM_le g id _) (fun i hi => ?_) (grown_setB hb) (fun b hb => ?_) (fun i oi hi => ?_) (fun i oi b hi hbk => ?_) (fun i j oi oj b hi hj _ _ => ?_)⟩
    · rw [hl] at hi
      have : ¬ i = id := fun e1 => by rw [if_pos e1] at hi; cases hi
      simp [setM, this]
    · cases hb; exact ⟨⟨id, _, by rw [hl, if_pos rfl]; rfl, hid, .inl rfl⟩, a6⟩
    · rw [hl] at hi
      by_cases e1 : i = id
      · subst e1; rw [if_pos rfl] at hi; cases hi; exact hob
      · rw [if_neg e1] at hi; cases hi
    · rw [hl] at hi
      by_cases e1 : i = id
      · subst e1; rw [if_pos rfl] at hi; cases hi
        refine ⟨i, _, by rw [hl, if_pos rfl]; rfl, hid, ?_⟩
        rcases hbk with hbk | ⟨v, hv, hbk⟩
        · exact .inl hbk
        · exact .inr ⟨v, by rw [a4]; simp [setM, rowsOf] at hv ⊢; exact h3.subset hv, hbk⟩
      · rw [if_neg e1] at hi; cases hi
    · rw [hl] at hi hj
      by_cases e1 : i = id <;> by_cases e2 : j = id
      · rw [e1, e2]
      · rw [if_neg e2] at hj; cases hj
      · rw [if_neg e1] at hi; cases hi
      · rw [if_neg e1] at hi; cases hi
end
end Go.Proofs.YtngklbnodknadaaGreatDoor
end
