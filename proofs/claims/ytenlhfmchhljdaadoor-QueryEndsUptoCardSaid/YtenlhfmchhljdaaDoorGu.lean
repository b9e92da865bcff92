/-
  Ghost memory: maps of rows: made; a row taken out, and put back.
-/
import Derived.Test.YtenlhfmchhljdaaDoorGr
namespace Go.Proofs.YtenlhfmchhljdaaDoor
open Go.RowKit
open Go.MapKept (IsKey Stamped)

/-- Without its row. -/
def mtake : List (Value × Option (List D)) → Value → List (Value × Option (List D))
  | [], _ => []
  | (x, y) :: M, k => bif keq k x then (x, none) :: M else (x, y) :: mtake M k
theorem mtake_some {M : List (Value × Option (List D))} {k : Value} : ∀ {r : Option (List D)}, mfind M k = some r → mtake M k = mput M k none := by
  induction M with
  | nil => intro r h; cases h
  | cons p M ih =>
    intro r h
    obtain ⟨x, y⟩ := p
    rw [mtake, mput]
    cases e : keq k x with
    | true => rfl
    | false =>
      rw [mfind, e] at h
      simp only [cond_false]
      rw [ih h]
theorem mtake_none {M : List (Value × Option (List D))} {k : Value} : mfind M k = none → mtake M k = M := by
  induction M with
  | nil => intro h; rfl
  | cons p M ih =>
    intro h
    obtain ⟨x, y⟩ := p
    rw [mtake]
    rw [mfind] at h
    cases e : keq k x with
    | true => rw [e] at h; cases h
    | false => rw [e] at h; simp only [cond_false]; rw [ih h]
theorem mput_mtake (M : List (Value × Option (List D))) (k : Value) (r : Option (List D)) : mput (mtake M k) k r = mput M k r := by
  induction M with
  | nil => rfl
  | cons p M ih =>
    obtain ⟨x, y⟩ := p
    rw [mtake, mput]
    cases e : keq k x with
    | true => simp only [cond_true]; rw [mput, e]; rfl
    | false => simp only [cond_false]; rw [mput, e]; simp only [cond_false]; rw [ih]
theorem mtake_no (M : List (Value × Option (List D))) (k : Value) (r : List D) : mfind (mtake M k) k ≠ some (some r) := by
  induction M with
  | nil => intro h; cases h
  | cons p M ih =>
    obtain ⟨x, y⟩ := p
    rw [mtake]
    cases e : keq k x with
    | true => simp only [cond_true]; rw [mfind, e]; intro h; cases h
    | false => simp only [cond_false]; rw [mfind, e]; exact ih
/-- A map's type: the key's, its kind, the element, its zero. -/
def mapZ? (P : Program) (t : TypeId) : Option (TypeId × TypeDesc × TypeId × Value) := match mapT? P t with
  | some (kt, d, et) => match P.info? et with
    | some i => i.zero.map fun z => (kt, d, et, z)
    | none => none
  | none => none
theorem mapZ_spec {P : Program} {t kt et : TypeId} {d : TypeDesc} {z : Value} (h : mapZ? P t = some (kt, d, et, z)) : mapT? P t = some (kt, d, et) ∧ ∀ w, (zeroValue et).run P w = .ok z w := by
  unfold mapZ? at h
  split at h
  · next kt' d' et' hm =>
    split at h
    · next i hi =>
      cases hz : i.zero with
      | none => rw [hz] at h; cases h
      | some z' =>
        rw [hz] at h; cases h
        exact ⟨hm, fun w => by simp [zeroValue, typeInfo, hi, hz]⟩
    · cases h
  · cases h
section
variable {P : Program} {Γ : Cx} {o : Oper} {σ : Nat → T} {objs : Objs}
theorem t_makermap {t c e n : Nat} {d : TypeDesc} (ho : o.op = .makeMap t none) : Tri P o σ [(c, .vac)] (.mp c) [(c, .rmap d e n [])] := by
  intro Γ g objs a w Q hr hp hw
  have hc := hp _ (List.mem_singleton.2 rfl)
  have hob : ObjAt Γ (setG g c w.heap.size (.tuple #[])) (w.alloc (.map #[] 0)) c (.rmap d e n []) := by
    refine ⟨[], [], by simp [setG], ?_, ⟨0, ?_, Go.MapKept.stamped_empty 0⟩, by simp [setG], .nil, fun o => ?_, fun v hv => (by cases hv), .nil⟩
    · simp only [setG, if_true]; exact .inl hw.fr.size
    · simp only [setG, if_true]; exact (Go.MapKept.heap_alloc w _).1
    · simp only [setG, if_true]; exact S_new hw o
  obtain ⟨k1, k2⟩ := (hw.alloc (.map #[] 0)).turn (g' := setG g c w.heap.size (.tuple #[])) hc (by simp [setG]) rfl (fun i hi => by simp [setG, hi]) (fun i hi => by simp [setG, hi]) (fun i hi => by simp [setG, hi]) hob (fun j oj b _ h2 h3 h4 => by
    have hlt := hw.blk_lt h2 h3
    simp only [GObj.blk, setG, if_true] at h4
    rcases h4 with h4 | ⟨v, hv, h4⟩
    · omega
    · simp [rowsOf] at hv)
  unfold Oper.wp execOp
  simp only [ho, Sem.run_bind, Sem.run_pure]
  refine ⟨_, _, rfl, k1, ?_, k2⟩
  have : RepT (setG g c w.heap.size (.tuple #[])) (.mp c) (.map (some ((setG g c w.heap.size (.tuple #[])).blk c))) := .mp (by simp [setG])
  simpa [setG] using this
/-- m's row c apart; the rows of m lie otherwise. -/
def setT (g : Gh) (m c n : Nat) (v vc : Value) : Gh := ⟨g.S, g.blk, fun i => if i = m then v else if i = c then vc else g.row i, fun i => if i = m then g.len i + 1 else if i = c then n + 1 else g.len i⟩
theorem setT_le {g : Gh} {m c n : Nat} (hc : g.len c = 0) (v vc : Value) : GLe (fun _ => True) g (setT g m c n v vc) := by
  refine ⟨SLe.refl _, fun _ _ _ => rfl, fun i _ => ?_, fun i _ h => ?_⟩
  · simp only [setT]
    split
    · omega
    · split
      · next e => rw [e, hc]; omega
      · exact Nat.le_refl _
  · simp only [setT] at h ⊢
    by_cases e : i = m
    · rw [if_pos e] at h; omega
    · rw [if_neg e] at h ⊢
      by_cases e2 : i = c
      · rw [if_pos e2] at h; rw [e2] at h; omega
      · rw [if_neg e2]
theorem sub_out {vs : List Value} {j : Nat} {v : Value} {b : Nat} (hv : v ∈ vs.set j undef) (hb : v.ownBlock = some b) : v ∈ vs := by
  rcases List.mem_or_eq_of_mem_set hv with h | h
  · exact h
  · rw [h] at hb; cases hb
theorem not_out {vs : List Value} (hp : vs.Pairwise Apart2) {j : Nat} {u v : Value} {b : Nat} (hj : vs[j]? = some u) (hu : u.ownBlock = some b) (hv : v ∈ vs.set j undef) : v.ownBlock ≠ some b := by
  induction vs generalizing j with
  | nil => simp at hj
  | cons x xs ih =>
    rw [List.pairwise_cons] at hp
    cases j with
    | zero =>
      simp at hj; subst hj
      rw [List.set_cons_zero, List.mem_cons] at hv
      rcases hv with rfl | hv
      · intro h; cases h
      · exact hp.1 v hv b hu
    | succ j =>
      have hj' : xs[j]? = some u := by simpa using hj
      rw [List.set_cons_succ, List.mem_cons] at hv
      rcases hv with rfl | hv
      · exact fun h => hp.1 u (List.mem_of_getElem? hj') b h hu
      · exact ih hp.2 hj' hv
theorem t_rtake {t kt et e n c : Nat} {d : TypeDesc} {m x : Operand} {id : Nat} {k : Value} {M : List (Value × Option (List D))} (ho : o.op = .lookup t m x false) (hT : mapT? P t = some (kt, d, et)) (hz : ∀ w, (zeroValue et).run P w = .ok (.slice none 0 0) w) (hm : opT σ m = .mp id) (hx : opT σ x = .d (.v k)) (hk : IsKey d k) (hM : mfind M k ≠ some none) :
    Tri P o σ [(id, .rmap d e n M), (c, .vac)] (.own n (rowD (mfind M k)) c) [(id, .rmap d e n (mtake M k)), (c, .row e n (rowD (mfind M k)))] := by
  intro Γ g objs a w Q hr hp hw
  obtain ⟨hu, hd⟩ := mapT_spec hT
  have e1 := rep_op hr (x := m) (by rw [ho]; simp [Op.operands])
  have e2 := rep_op hr (x := x) (by rw [ho]; simp [Op.operands])
  rw [hm] at e1
  rw [hx] at e2
  have hid := hp (id, .rmap d e n M) (by simp)
  have hcc := hp (c, .vac) (by simp)
  have hne : id ≠ c := fun h => by rw [h] at hid; rw [hid] at hcc; cases hcc
  have hc0 : g.len c = 0 := hw.obj c _ hcc
  obtain ⟨es, vs, a0, a1, hmap, a4, hR, a6, a7, a8⟩ := hw.obj id _ hid
  have hb := hmap
  obtain ⟨cl, hb, hst⟩ := hb
  generalize hy : a.eval m = y at e1
  cases e1 with
  | mp ha =>
    rcases repR_find hk hR 0 with ⟨h1, h2, -⟩ | ⟨j, en, r, u, h1, -, -, h4, hj, h6, -, h8, -⟩
    · rw [mtake_none h2, h2]
      have hrun : (execOp a.eval o).run P w = .ok (.value (.slice none 0 0)) w := by
        unfold execOp; rw [ho]; simp [hy, inv_v e2, run_lookN hu hd hk hb hz h1]
      unfold Oper.wp
      rw [hrun]
      refine ⟨setT g id c 0 (.tuple vs.toArray) (.slice none 0 0), _, rfl, setT_le hc0 _ _, .own (RepD.sl .nil (RowS.nil _ _) (Nat.le_refl _) (Nat.zero_le _) fun _ => rfl) (by simp [setT, hne.symm, rowD]) (fun _ => by simp [setT, hne.symm]), ?_⟩
      refine hw.two (b0 := none) hne hid hcc rfl (setT_le hc0 _ _) (fun i h1 h2 => by simp [setT, h1, h2]) (World.grownBy.refl _ _) (fun b hb => by cases hb) ⟨es, vs, by simp [setT], a1, hmap, by simp [setT], hR, a6, a7, a8⟩
        ⟨[], by simp [setT, hne.symm, rowD], by simpa [setT, hne.symm, rowD] using World.ownsRow_nil w 0 e n, .nil, fun b hb => by simp [setT, hne.symm, Value.ownBlock] at hb⟩ (fun b hb => .inl ?_) (fun b hb => by simp [GObj.blk, setT, hne.symm, Value.ownBlock] at hb) (fun b _ hb => by simp [GObj.blk, setT, hne.symm, Value.ownBlock] at hb)
      rcases hb with hb | ⟨v, hv, hb⟩
      · exact .inl hb
      · exact .inr ⟨v, by rw [a4]; simpa [setT] using hv, hb⟩
    · cases r with
      | none => exact absurd h4 hM
      | some l =>
        obtain ⟨rfl, xs, q1, q2, q3⟩ := h6
        rw [mtake_some h4, h4]
        have hmem : en.val ∈ vs := List.mem_of_getElem? hj
        have hrun : (execOp a.eval o).run P w = .ok (.value en.val) w := by
          unfold execOp; rw [ho]; simp [hy, inv_v e2, run_lookS hu hd hk hb h1]
        unfold Oper.wp
        rw [hrun]
        refine ⟨setT g id c l.length (.tuple (vs.set j undef).toArray) en.val, _, rfl, setT_le hc0 _ _, .own (own_rep q1 q2 q3) (by simp [setT, hne.symm, rowD]) (fun _ => by simp [setT, hne.symm]), ?_⟩
        refine hw.two (b0 := none) hne hid hcc rfl (setT_le hc0 _ _) (fun i h1 h2 => by simp [setT, h1, h2]) (World.grownBy.refl _ _) (fun b hb => by cases hb) ⟨es, vs.set j undef, by simp [setT], a1, hmap, by simp [setT], h8, a6, fun v hv b hb => a7 v (sub_out hv hb) b hb, apart_set a8 (fun _ _ b hb => by cases hb) j⟩
          ⟨xs, by simp [setT, hne.symm, rowD], by simpa [setT, hne.symm, rowD] using q1, q2, fun b hb => ?_⟩ (fun b hb => .inl ?_) (fun b hb => .inl (.inr ⟨en.val, by rw [a4]; simpa [rowsOf] using hmem, by simpa [GObj.blk, setT, hne.symm] using hb⟩)) (fun b hb hb2 => ?_)
        · have hb : en.val.ownBlock = some b := by simpa [setT, hne.symm] using hb
          exact ⟨(a7 _ hmem b hb).1, q3 b hb⟩
        · rcases hb with hb | ⟨v, hv, hb⟩
          · exact .inl hb
          · exact .inr ⟨v, by rw [a4]; simpa [rowsOf] using sub_out (j := j) (by simpa [setT, rowsOf] using hv) hb, hb⟩
        · have hb2 : en.val.ownBlock = some b := by simpa [GObj.blk, setT, hne.symm] using hb2
          rcases hb with hb | ⟨v, hv, hb⟩
          · exact (a7 _ hmem b hb2).2 hb.symm
          · exact not_out a8 hj hb2 (by simpa [setT, rowsOf] using hv) hb
theorem t_rput {t kt et e n c : Nat} {d : TypeDesc} {m x v : Operand} {id : Nat} {k : Value} {l : List D} {M : List (Value × Option (List D))} (ho : o.op = .mapUpdate t m x v) (hT : mapT? P t = some (kt, d, et)) (hm : opT σ m = .mp id) (hx : opT σ x = .d (.v k)) (hv : opT σ v = .own n l c) (hk : IsKey d k) :
    Tri P o σ [(id, .rmap d e n M), (c, .row e n l)] .und [(id, .rmap d e n (mput M k (some l))), (c, .gone)] := by
  intro Γ g objs a w Q hr hp hw
  obtain ⟨hu, hd⟩ := mapT_spec hT
  have e1 := rep_op hr (x := m) (by rw [ho]; simp [Op.operands])
  have e2 := rep_op hr (x := x) (by rw [ho]; simp [Op.operands])
  have e3 := rep_op hr (x := v) (by rw [ho]; simp [Op.operands])
  rw [hm] at e1
  rw [hx] at e2
  rw [hv] at e3
  have hid := hp (id, .rmap d e n M) (by simp)
  have hcc := hp (c, .row e n l) (by simp)
  have hne : id ≠ c := fun h => by rw [h] at hid; rw [hid] at hcc; cases hcc
  obtain ⟨es, vs, a0, a1, ⟨cl, hb, hst⟩, a4, hR, a6, a7, a8⟩ := hw.obj id _ hid
  obtain ⟨xs, b0, b1, b2, b3⟩ := hw.obj c _ hcc
  have hap : ∀ b, (g.row c).ownBlock = some b → ¬ (GObj.rmap d e n M).blk g id b := fun b hb hk => hne (hw.apart id c _ _ b hid hcc hk hb)
  generalize hy : a.eval m = y at e1
  generalize hy3 : a.eval v = y3 at e3
  cases e1 with
  | mp ha =>
  cases e3 with
  | own q1 q2 q3 =>
    obtain rfl : g.row c = y3 := q3 b0
    have hS : ∀ b, (g.row c).ownBlock = some b → ∀ o, g.S b o = xs[o]? := fun b hb => (b3 b hb).2
    have key : ∃ es' vs' ob, (Instr.mapUpdate t (.map (some (g.blk id))) k (g.row c)).run P w = .ok () (setB w (g.blk id) ob) ∧ MapAt (setB w (g.blk id) ob) (g.blk id) es' ∧ RepR w g.S d e n (mput M k (some l)) es' vs' ∧ (∀ u ∈ vs', u ∈ vs ∨ u = g.row c) ∧ vs'.Pairwise Apart2 := by
      rcases repR_find hk hR 0 with ⟨h1, h2, h3, h4, -⟩ | ⟨j, en, r, u, h1, h2, h3, h4, h5, h6, h7, -, -⟩
      · refine ⟨es ++ [⟨k, g.row c, cl⟩], vs ++ [g.row c], .map (es.toArray.push ⟨k, g.row c, cl⟩) (cl + 1), ?_, ⟨cl + 1, by rw [← List.push_toArray]; exact (Go.MapKept.heap_set hb).1, by rw [← List.push_toArray]; exact Go.MapKept.stamped_push hst (by simpa using h3)⟩, h4 (g.row c) l xs cl b1 b2 hS, fun u hu => by simpa using hu, ?_⟩
        · simp [Instr.mapUpdate, run_underlying hu, Go.MapKept.run_getObj_map hb, Go.MapKept.run_checkKey hd hk, Go.MapKept.run_findKey hd h1, Go.MapKept.run_setObj_map _ hb, Result.andThen, setB]
        · rw [List.pairwise_append]
          refine ⟨a8, List.pairwise_singleton _ _, fun u hu v hv b hb hb2 => ?_⟩
          obtain rfl := List.mem_singleton.1 hv
          exact hap b hb2 (.inr ⟨u, by rw [a4]; simpa [rowsOf] using hu, hb⟩)
      · have hj : es.toArray[j]? = some en := by simpa using h2
        have hkey : ∀ e', es.toArray[j]? = some e' → ({ e' with key := k, val := g.row c } : MapEntry).key = e'.key := fun e' he' => by rw [hj] at he'; cases he'; exact h3.symm
        have hmod : (es.modify j fun e => { e with key := k, val := g.row c }).toArray = es.toArray.modify j fun e => { e with key := k, val := g.row c } := by simp
        refine ⟨es.modify j fun e => { e with key := k, val := g.row c }, vs.set j (g.row c), .map (es.toArray.modify j fun e => { e with key := k, val := g.row c }) cl, ?_, ⟨cl, by rw [hmod]; exact (Go.MapKept.heap_set hb).1, by rw [hmod]; exact Go.MapKept.stamped_modify hst _ _ (fun _ _ => rfl) (fun e' _ he' => hkey e' he')⟩, h7 (g.row c) l xs b1 b2 hS, fun u hu => List.mem_or_eq_of_mem_set hu, ?_⟩
        · simp [Instr.mapUpdate, run_underlying hu, Go.MapKept.run_getObj_map hb, Go.MapKept.run_checkKey hd hk, Go.MapKept.run_findKey hd h1, h2, h3, Go.MapKept.run_keyThatStays hk, Go.MapKept.run_setObj_map _ hb, Result.andThen, setB]
        · exact apart_set a8 (fun u hu b hb hb2 => hap b hb (.inr ⟨u, by rw [a4]; simpa [rowsOf] using hu, hb2⟩)) j
    obtain ⟨es', vs', ob, hrun, h1, h2, h3, h4⟩ := key
    unfold Oper.wp execOp
    simp only [ho, hy, hy3, inv_v e2, Sem.run_bind, hrun, Result.andThen_ok, Sem.run_pure]
    have hblk : ∀ u ∈ vs', ∀ b, u.ownBlock = some b → Mine Γ b ∧ b ≠ g.blk id := fun u hu b hbk => by
      rcases h3 u hu with hu | rfl
      · exact a7 u hu b hbk
      · exact ⟨(b3 b hbk).1, fun e3 => hap b hbk (.inl e3.symm)⟩
    refine ⟨setM g id (.tuple vs'.toArray), undef, rfl, setM_le g id _, .und, hw.two (b0 := some (g.blk id)) hne hid hcc rfl (setM_le g id _) (fun i h1 _ => by simp [setM, h1]) (grown_setB hb) (fun b hb => by cases hb; exact ⟨.inl rfl, a6⟩)
      ⟨es', vs', by simp [setM], a1, h1, by simp [setM], h2.same (SLe.refl _) fun u hu b hbk => ⟨(Go.MapKept.heap_set hb).2 b (hblk u hu b hbk).2, fun _ => rfl⟩, a6, hblk, h4⟩ trivial (fun b hbk => ?_) (fun b hbk => hbk.elim) (fun b _ hbk => hbk)⟩
    rcases hbk with hbk | ⟨u, hu, hbk⟩
    · exact .inl (.inl hbk)
    · rcases h3 u (by simpa [setM, rowsOf] using hu) with hu | rfl
      · exact .inl (.inr ⟨u, by rw [a4]; simpa [rowsOf] using hu, hbk⟩)
      · exact .inr hbk
end
end Go.Proofs.YtenlhfmchhljdaaDoor
