/-
  Ghost values: maps of rows that grow.
-/
import Derived.Test.YtenlhfmchhljdaaDoorGm
namespace Go.Proofs.YtenlhfmchhljdaaDoor
open Go.RowKit
open Go.MapKept (IsKey Stamped)

theorem repR_find {w : World} {S : Sm} {d : TypeDesc} {et n : Nat} {k : Value} (hk : IsKey d k) : ∀ {M : List (Value × Option (List D))} {es : List MapEntry} {vs : List Value}, RepR w S d et n M es vs → ∀ i,
    (Instr.findNow d k es i = some none ∧ mfind M k = none ∧ (∀ x ∈ es, x.key ≠ k) ∧
      (∀ (v : Value) (l : List D) (xs : List Value) (c : Nat), w.ownsRow 0 et n v l.length xs → RepLv S n l xs → (∀ b, v.ownBlock = some b → ∀ o, S b o = xs[o]?) → RepR w S d et n (mput M k (some l)) (es ++ [⟨k, v, c⟩]) (vs ++ [v])) ∧ mdel M k = M) ∨
    ∃ j e r u, Instr.findNow d k es i = some (some (i + j, e.val)) ∧ es[j]? = some e ∧ e.key = k ∧ mfind M k = some r ∧ vs[j]? = some u ∧
      (match r with | some l => u = e.val ∧ ∃ xs, w.ownsRow 0 et n e.val l.length xs ∧ RepLv S n l xs ∧ ∀ b, e.val.ownBlock = some b → ∀ o, S b o = xs[o]? | none => u = undef) ∧
      (∀ (v : Value) (l : List D) (xs : List Value), w.ownsRow 0 et n v l.length xs → RepLv S n l xs → (∀ b, v.ownBlock = some b → ∀ o, S b o = xs[o]?) → RepR w S d et n (mput M k (some l)) (es.modify j fun e => { e with key := k, val := v }) (vs.set j v)) ∧
      RepR w S d et n (mput M k none) es (vs.set j undef) ∧ RepR w S d et n (mdel M k) (es.eraseIdx j) (vs.eraseIdx j)
  | _, _, _, .nil, i => .inl ⟨rfl, rfl, fun x hx => (by cases hx), fun v l xs c h1 h2 h3 => .row rfl hk h1 h2 h3 .nil, rfl⟩
  | _, _, _, @RepR.row _ _ _ _ _ x l xs e M es vs he hi ho hl hS ht, i => by
    subst he
    rw [now_step hk hi]
    cases hq : keq k e.key with
    | true =>
      have hke := (keq_iff hk hi).1 hq
      refine .inr ⟨0, e, some l, e.val, by simp, rfl, hke.symm, by unfold mfind; rw [hq]; rfl, rfl, ⟨rfl, xs, ho, hl, hS⟩, fun v l' xs' h1 h2 h3 => ?_, ?_, ?_⟩
      · unfold mput; rw [hq]; exact .row hke hi h1 h2 h3 ht
      · unfold mput; rw [hq]; exact .out rfl hi ht
      · unfold mdel; rw [hq]; exact ht
    | false =>
      have hne : e.key ≠ k := fun e1 => by rw [← e1, keq_refl hi] at hq; cases hq
      rcases repR_find hk ht (i + 1) with ⟨h1, h2, h3, h4, h5⟩ | ⟨j, e', r, u, h1, h2, h3, h4, h5, h6, h7, h8, h9⟩
      · refine .inl ⟨by simpa using h1, by unfold mfind; rw [hq]; exact h2, fun x hx => ?_, fun v l' xs' c a1 a2 a3 => ?_, ?_⟩
        · rcases List.mem_cons.1 hx with rfl | hx
          · exact hne
          · exact h3 x hx
        · unfold mput; rw [hq]; exact .row rfl hi ho hl hS (h4 v l' xs' c a1 a2 a3)
        · unfold mdel; rw [hq]; show (_ :: _) = _; rw [h5]
      · refine .inr ⟨j + 1, e', r, u, by rw [if_neg (by simp), h1, show i + 1 + j = i + (j + 1) from by omega], by simpa using h2, h3, by unfold mfind; rw [hq]; exact h4, by simpa using h5, h6, fun v l' xs' a1 a2 a3 => ?_, ?_, ?_⟩
        · unfold mput; rw [hq]; exact .row rfl hi ho hl hS (h7 v l' xs' a1 a2 a3)
        · unfold mput; rw [hq]; exact .row rfl hi ho hl hS h8
        · unfold mdel; rw [hq]; exact .row rfl hi ho hl hS h9
  | _, _, _, @RepR.out _ _ _ _ _ x e M es vs he hi ht, i => by
    subst he
    rw [now_step hk hi]
    cases hq : keq k e.key with
    | true =>
      have hke := (keq_iff hk hi).1 hq
      refine .inr ⟨0, e, none, undef, by simp, rfl, hke.symm, by unfold mfind; rw [hq]; rfl, rfl, rfl, fun v l' xs' h1 h2 h3 => ?_, ?_, ?_⟩
      · unfold mput; rw [hq]; exact .row hke hi h1 h2 h3 ht
      · unfold mput; rw [hq]; exact .out rfl hi ht
      · unfold mdel; rw [hq]; exact ht
    | false =>
      have hne : e.key ≠ k := fun e1 => by rw [← e1, keq_refl hi] at hq; cases hq
      rcases repR_find hk ht (i + 1) with ⟨h1, h2, h3, h4, h5⟩ | ⟨j, e', r, u, h1, h2, h3, h4, h5, h6, h7, h8, h9⟩
      · refine .inl ⟨by simpa using h1, by unfold mfind; rw [hq]; exact h2, fun x hx => ?_, fun v l' xs' c a1 a2 a3 => ?_, ?_⟩
        · rcases List.mem_cons.1 hx with rfl | hx
          · exact hne
          · exact h3 x hx
        · unfold mput; rw [hq]; exact .out rfl hi (h4 v l' xs' c a1 a2 a3)
        · unfold mdel; rw [hq]; show (_ :: _) = _; rw [h5]
      · refine .inr ⟨j + 1, e', r, u, by rw [if_neg (by simp), h1, show i + 1 + j = i + (j + 1) from by omega], by simpa using h2, h3, by unfold mfind; rw [hq]; exact h4, by simpa using h5, h6, fun v l' xs' a1 a2 a3 => ?_, ?_, ?_⟩
        · unfold mput; rw [hq]; exact .out rfl hi (h7 v l' xs' a1 a2 a3)
        · unfold mput; rw [hq]; exact .out rfl hi h8
        · unfold mdel; rw [hq]; exact .out rfl hi h9
section
variable {P : Program} {Γ : Cx} {o : Oper} {σ : Nat → T} {objs : Objs}
/-- Some objects turn, in one block at most, and what they own goes from one to another. -/
theorem WI.re {g g' : Gh} {w w' : World} {post : List (Nat × GObj)} {b0 : Option Nat} (hw : WI Γ g objs w) (hS : g'.S = g.S) (hle : GLe (fun _ => True) g g') (hout : ∀ i, post.lookup i = none → g'.blk i = g.blk i ∧ g'.row i = g.row i ∧ g'.len i = g.len i)
    (hg : w.grownBy w' b0) (hb0 : ∀ b, b0 = some b → (∃ i ob, (post.lookup i).isSome = true ∧ objs i = some ob ∧ ob.blk g i b) ∧ ∀ o, g.S b o = none) (hob : ∀ i ob, post.lookup i = some ob → ObjAt Γ g' w' i ob)
    (hsub : ∀ i ob b, post.lookup i = some ob → ob.blk g' i b → ∃ j oj, (post.lookup j).isSome = true ∧ objs j = some oj ∧ oj.blk g j b) (hin : ∀ i j oi oj b, post.lookup i = some oi → post.lookup j = some oj → oi.blk g' i b → oj.blk g' j b → i = j) : WI Γ g' (ovr objs post) w' := by
  have back : ∀ (i : Nat) (oi : GObj), ovr objs post i = some oi → post.lookup i = some oi ∨ (post.lookup i = none ∧ objs i = some oi) := fun i oi h => by
    unfold ovr at h
    cases hl : post.lookup i with
    | none => rw [hl] at h; exact .inr ⟨rfl, h⟩
    | some x => rw [hl] at h; exact .inl h
  have hb : ∀ (i : Nat) (oi : GObj), post.lookup i = none → oi.blk g' i = oi.blk g i := fun i oi h => blk_same (hout i h).1 (hout i h).2.1 oi
  refine ⟨fun b o x h => ?_, fun i oi hi => ?_, fun i j oi oj b h3 h4 h5 h6 => ?_, ?_, fun b o h1 h2 => by rw [hS]; exact hw.old b o h1 h2, hw.ext.trans (hle.weak fun _ _ => trivial)⟩
  · rw [hS] at h
    have hlt := World.block_lt_of_cell? w ⟨b, o, none⟩ (hw.imm b o x h)
    rw [World.cell?_of_block (w := w) (hg.block b hlt fun e1 => by rw [(hb0 b e1.symm).2 o] at h; cases h)]
    exact hw.imm b o x h
  · rcases back i oi hi with h | ⟨hn, h⟩
    · exact hob i oi h
    · have h3 := hw.obj i oi h
      refine h3.same hle (hout i hn).1 (hout i hn).2.1 (hout i hn).2.2 (fun _ _ => trivial) fun b hbk => ⟨hg.block b (h3.blk_lt hbk) fun e1 => ?_, fun o => by rw [hS]⟩
      obtain ⟨⟨j, oj, k1, k2, k3⟩, -⟩ := hb0 b e1.symm
      have := hw.apart i j oi oj b h k2 hbk k3
      subst this
      rw [hn] at k1; cases k1
  · rcases back i oi h3 with h | ⟨hn, h⟩ <;> rcases back j oj h4 with h' | ⟨hn', h'⟩
    · exact hin i j oi oj b h h' h5 h6
    · exfalso
      rw [hb j oj hn'] at h6
      obtain ⟨i2, oi2, k1, k2, k3⟩ := hsub i oi b h h5
      have := hw.apart i2 j oi2 oj b k2 h' k3 h6
      subst this
      rw [hn'] at k1; cases k1
    · exfalso
      rw [hb i oi hn] at h5
      obtain ⟨j2, oj2, k1, k2, k3⟩ := hsub j oj b h' h6
      have := hw.apart i j2 oi oj2 b h k2 h5 k3
      subst this
      rw [hn] at k1; cases k1
    · rw [hb i oi hn] at h5
      rw [hb j oj hn'] at h6
      exact hw.apart i j oi oj b h h' h5 h6
  · refine ⟨hg.os.trans hw.fr.os, hg.tape.trans hw.fr.tape, hg.output.trans hw.fr.output, Nat.le_trans hw.fr.size hg.size, fun k hk hx => ?_⟩
    refine (hg.block k (Nat.lt_of_lt_of_le hk hw.fr.size) fun e1 => ?_).trans (hw.fr.block k hk hx)
    obtain ⟨⟨i, ob, -, k2, k3⟩, -⟩ := hb0 k e1.symm
    rcases (hw.obj i ob k2).mine k3 with h | h
    · omega
    · exact hx h
theorem own_rep {w : World} {S : Sm} {e k : Nat} {v : Value} {l : List D} {xs : List Value} (h : w.ownsRow 0 e k v l.length xs) (hl : RepLv S k l xs) (hS : ∀ b, v.ownBlock = some b → ∀ o, S b o = xs[o]?) : RepD S (.sl k l) v := by
  obtain ⟨p, c, rfl, h1, h2⟩ := own_slice h
  refine .sl hl ?_ h1 h2 fun hp => ?_
  · rcases h.2 with ⟨e1, e2⟩ | ⟨gb, cap, cur, e1, -⟩
    · have : xs = [] := List.eq_nil_of_length_eq_zero (by rw [h.1, e2]; simp)
      rw [this]; exact RowS.nil _ _
    · simp only [Value.slice.injEq, true_and] at e1
      obtain ⟨rfl, rfl⟩ := e1
      exact ⟨gb, 0, fun _ => rfl, fun i _ => by rw [Nat.zero_add]; exact hS gb rfl i⟩
  · rcases h.2 with ⟨e1, -⟩ | ⟨gb, cap, cur, e1, -⟩
    · simp only [Value.slice.injEq] at e1; exact e1.2.2
    · simp only [Value.slice.injEq] at e1; rw [e1.1] at hp; cases hp
/-- The row of a key. -/
def rowD : Option (Option (List D)) → List D
  | some (some l) => l
  | _ => []
theorem run_lookN {mt kt et : TypeId} {d : TypeDesc} {k z : Value} {es : List MapEntry} {w : World} {b cl : Nat} (hm : P.underlying mt = some (.map kt et)) (hd : P.underlying kt = some d) (hk : IsKey d k) (hb : w.heap[b]? = some (.map es.toArray cl)) (hz : ∀ w, (zeroValue et).run P w = .ok z w) (h1 : Instr.findNow d k es 0 = some none) :
    (Instr.lookup mt (.map (some b)) k false).run P w = .ok z w := by
  simp [Instr.lookup, run_underlying hm, Go.MapKept.run_getObj_map hb, Go.MapKept.run_checkKey hd hk, Go.MapKept.run_findKey hd h1, hz, Result.andThen]
theorem run_lookS {mt kt et : TypeId} {d : TypeDesc} {k v : Value} {es : List MapEntry} {w : World} {b cl j : Nat} (hm : P.underlying mt = some (.map kt et)) (hd : P.underlying kt = some d) (hk : IsKey d k) (hb : w.heap[b]? = some (.map es.toArray cl)) (h1 : Instr.findNow d k es 0 = some (some (j, v))) :
    (Instr.lookup mt (.map (some b)) k false).run P w = .ok v w := by
  simp [Instr.lookup, run_underlying hm, Go.MapKept.run_getObj_map hb, Go.MapKept.run_checkKey hd hk, Go.MapKept.run_findKey hd h1, Result.andThen]
theorem t_rlook {t kt et e n : Nat} {d : TypeDesc} {m x : Operand} {id : Nat} {k : Value} {M : List (Value × Option (List D))} (ho : o.op = .lookup t m x false) (hT : mapT? P t = some (kt, d, et)) (hz : ∀ w, (zeroValue et).run P w = .ok (.slice none 0 0) w) (hm : opT σ m = .mp id) (hx : opT σ x = .d (.v k)) (hk : IsKey d k) (hM : mfind M k ≠ some none) :
    Tri P o σ [(id, .rmap d e n M)] (.d (.sl n (rowD (mfind M k)))) [] :=
  .val fun _ g _ a w hr hp hw => by
    obtain ⟨hu, hd⟩ := mapT_spec hT
    have e1 := hr m (by rw [ho]; simp [Op.operands])
    have e2 := hr x (by rw [ho]; simp [Op.operands])
    rw [hm] at e1
    rw [hx] at e2
    obtain ⟨es, vs, -, -, ⟨c, hb, -⟩, -, hR, -⟩ := hw.obj id _ (hp _ (List.mem_singleton.2 rfl))
    generalize hy : a.eval m = y at e1
    cases e1 with
    | mp ha =>
      rcases repR_find hk hR 0 with ⟨h1, h2, -⟩ | ⟨j, en, r, u, h1, -, -, h4, -, h6, -⟩
      · refine ⟨.slice none 0 0, by unfold execOp; rw [ho]; simp [hy, inv_v e2, run_lookN hu hd hk hb hz h1], ?_⟩
        rw [h2]
        exact .d (RepD.sl .nil (RowS.nil _ _) (Nat.le_refl _) (Nat.zero_le _) fun _ => rfl)
      · cases r with
        | none => exact absurd h4 hM
        | some l =>
          obtain ⟨-, xs, q1, q2, q3⟩ := h6
          refine ⟨en.val, by unfold execOp; rw [ho]; simp [hy, inv_v e2, run_lookS hu hd hk hb h1], ?_⟩
          rw [h4]
          exact .d (own_rep q1 q2 q3)
/-- A map of rows whose rows lie otherwise. -/
def setM (g : Gh) (m : Nat) (v : Value) : Gh := ⟨g.S, g.blk, fun i => if i = m then v else g.row i, fun i => if i = m then g.len i + 1 else g.len i⟩
theorem setM_le (g : Gh) (m : Nat) (v : Value) : GLe (fun _ => True) g (setM g m v) := by
  refine ⟨SLe.refl _, fun _ _ _ => rfl, fun i _ => ?_, fun i _ h => ?_⟩
  · simp only [setM]; split <;> omega
  · simp only [setM] at h ⊢
    by_cases e : i = m
    · rw [if_pos e] at h; omega
    · rw [if_neg e]
/-- Struck from: the row is no one's. -/
theorem t_rdel {t kt et e n : Nat} {d : TypeDesc} {m x : Operand} {id : Nat} {k : Value} {M : List (Value × Option (List D))} (ho : o.op = .call { callee := .builtin .delete, args := #[m, x], argTypes := #[t, kt] }) (hT : mapT? P t = some (kt, d, et)) (hm : opT σ m = .mp id) (hx : opT σ x = .d (.v k)) (hk : IsKey d k) :
    Tri P o σ [(id, .rmap d e n M)] .und [(id, .rmap d e n (mdel M k))] := by
  intro Γ g objs a w Q hr hp hw
  obtain ⟨hu, hd⟩ := mapT_spec hT
  have e1 := rep_op hr (x := m) (by rw [ho]; simp [Op.operands, Call.operands])
  have e2 := rep_op hr (x := x) (by rw [ho]; simp [Op.operands, Call.operands])
  rw [hm] at e1
  rw [hx] at e2
  have hid := hp _ (List.mem_singleton.2 rfl)
  obtain ⟨es, vs, a0, a1, ⟨cl, hb, hst⟩, a4, hR, a6, a7, a8⟩ := hw.obj id _ hid
  generalize hy : a.eval m = u at e1
  cases e1 with
  | mp ha =>
    have key : ∃ es' vs' ob, (Builtin.delete_ #[t, kt] o.type #[.map (some (g.blk id)), k]).run P w = .ok (.tuple #[]) (setB w (g.blk id) ob) ∧ MapAt (setB w (g.blk id) ob) (g.blk id) es' ∧ RepR w g.S d e n (mdel M k) es' vs' ∧ vs'.Sublist vs := by
      rcases repR_find hk hR 0 with ⟨h1, h2, h3, -, h5⟩ | ⟨j, en, r, u, h1, h2, h3, h4, h5, -, -, -, h7⟩
      · refine ⟨es, vs, .map es.toArray cl, ?_, ⟨cl, (Go.MapKept.heap_set hb).1, hst⟩, h5.symm ▸ hR, List.Sublist.refl _⟩
        simp [Builtin.delete_, run_underlying hu, Go.MapKept.run_getObj_map hb, Go.MapKept.run_checkKey hd hk, Go.MapKept.run_findKey hd h1, Go.MapKept.run_setObj_map _ hb, Result.andThen, setB]
      · have hjl : j < es.length := (List.getElem?_eq_some_iff.1 h2).1
        have ha : (es.eraseIdx j).toArray = es.toArray.eraseIdxIfInBounds j := by simp [Array.eraseIdxIfInBounds, hjl]
        refine ⟨es.eraseIdx j, vs.eraseIdx j, .map (es.toArray.eraseIdxIfInBounds j) cl, ?_, ⟨cl, by rw [ha]; exact (Go.MapKept.heap_set hb).1, by rw [ha]; exact Go.MapKept.stamped_erase hst j⟩, h7, List.eraseIdx_sublist _ _⟩
        simp [Builtin.delete_, run_underlying hu, Go.MapKept.run_getObj_map hb, Go.MapKept.run_checkKey hd hk, Go.MapKept.run_findKey hd h1, Go.MapKept.run_setObj_map _ hb, Result.andThen, setB]
    obtain ⟨es', vs', ob, hrun, h1, h2, h3⟩ := key
    unfold Oper.wp execOp
    simp only [ho, resolve, invoke, builtin, Sem.run_bind, Sem.run_pure, Result.andThen_ok, List.map_toArray, List.map_cons, List.map_nil, hy, inv_v e2, hrun]
    have hmem : ∀ v ∈ vs', ∀ b, v.ownBlock = some b → (setB w (g.blk id) ob).heap[b]? = w.heap[b]? := fun v hv b hbk => (Go.MapKept.heap_set hb).2 b (a7 v (h3.subset hv) b hbk).2
    have hob : ObjAt Γ (setM g id (.tuple vs'.toArray)) (setB w (g.blk id) ob) id (.rmap d e n (mdel M k)) :=
      ⟨es', vs', by simp [setM], a1, h1, by simp [setM], h2.same (SLe.refl _) fun v hv b hbk => ⟨hmem v hv b hbk, fun _ => rfl⟩, a6, fun v hv => a7 v (h3.subset hv), a8.sublist h3⟩
    have hl : ∀ i, ([(id, GObj.rmap d e n (mdel M k))] : List (Nat × GObj)).lookup i = if i = id then some (.rmap d e n (mdel M k)) else none := fun i => by
      by_cases hi : i = id
      · subst hi; simp
      · have : (i == id) = false := by simpa using hi
        simp [List.lookup, this, hi]
    refine ⟨setM g id (.tuple vs'.toArray), _, rfl, setM_le g id _, .und, hw.re (b0 := some (g.blk id)) rfl (setM_le g id _) (fun i hi => ?_) (grown_setB hb) (fun b hb => ?_) (fun i oi hi => ?_) (fun i oi b hi hbk => ?_) (fun i j oi oj b hi hj _ _ => ?_)⟩
    · rw [hl] at hi
      have : ¬ i = id := fun e1 => by rw [if_pos e1] at hi; cases hi
      simp [setM, this]
    · cases hb; exact ⟨⟨id, _, by rw [hl, if_pos rfl]; rfl, hid, .inl rfl⟩, a6⟩
    · rw [hl] at hi
      by_cases e1 : i = id
      · subst e1; rw [if_pos rfl] at hi; cases hi; exact hob
      · rw [if_neg e1] at hi; cases hi
    · rw [hl] at hi
      by_cases e1 : i = id
      · subst e1; rw [if_pos rfl] at hi; cases hi
        refine ⟨i, _, by rw [hl, if_pos rfl]; rfl, hid, ?_⟩
        rcases hbk with hbk | ⟨v, hv, hbk⟩
        · exact .inl hbk
        · exact .inr ⟨v, by rw [a4]; simp [setM, rowsOf] at hv ⊢; exact h3.subset hv, hbk⟩
      · rw [if_neg e1] at hi; cases hi
    · rw [hl] at hi hj
      by_cases e1 : i = id <;> by_cases e2 : j = id
      · rw [e1, e2]
      · rw [if_neg e2] at hj; cases hj
      · rw [if_neg e1] at hi; cases hi
      · rw [if_neg e1] at hi; cases hi
end
end Go.Proofs.YtenlhfmchhljdaaDoor
