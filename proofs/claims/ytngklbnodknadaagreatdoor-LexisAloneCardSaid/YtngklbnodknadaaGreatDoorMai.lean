/-
  Gu, Ge, Gv, in one.
-/
import Derived.Test.YtngklbnodknadaaGreatDoorMah
import Derived.Test.YtngklbnodknadaaGreatDoorMaf
section
namespace Go.Proofs.YtngklbnodknadaaGreatDoor
open Go.RowKit
open Go.MapKept (IsKey Stamped)

/-- Without its row. -/
def mtake : List (Value × Option (List D)) → Value → List (Value × Option (List D))
  | [], _ => []
  | (x, y) :: M, k => bif keq k x then (x, none) :: M else (x, y) :: mtake M k
theorem mtake_some {M : List (Value × Option (List D))} {k : Value} : ∀ {r : Option (List D)}, mfind M k = some r → mtake M k = mput M k none := by
  induction M with
  | nil => intro r h; cases h
  | cons p M ih =>
    intro r h
    obtain ⟨x, y⟩ := p
    rw [mtake, mput]
    cases e : keq k x with
    | true => rfl
    | false =>
      rw [mfind, e] at h
      simp only [cond_false]
      rw [ih h]
theorem mtake_none {M : List (Value × Option (List D))} {k : Value} : mfind M k = none → mtake M k = M := by
  induction M with
  | nil => intro h; rfl
  | cons p M ih =>
    intro h
    obtain ⟨x, y⟩ := p
    rw [mtake]
    rw [mfind] at h
    cases e : keq k x with
    | true => rw [e] at h; cases h
    | false => rw [e] at h; simp only [cond_false]; rw [ih h]
theorem mput_mtake (M : List (Value × Option (List D))) (k : Value) (r : Option (List D)) : mput (mtake M k) k r = mput M k r := by
  induction M with
  | nil => rfl
  | cons p M ih =>
    obtain ⟨x, y⟩ := p
    rw [mtake, mput]
    cases e : keq k x with
    | true => simp only [cond_true]; rw [mput, e]; rfl
    | false => simp only [cond_false]; rw [mput, e]; simp only [cond_false]; rw [ih]
theorem mtake_no (M : List (Value × Option (List D))) (k : Value) (r : List D) : mfind (mtake M k) k ≠ some (some r) := by
  induction M with
  | nil => intro h; cases h
  | cons p M ih =>
    obtain ⟨x, y⟩ := p
    rw [mtake]
    cases e : keq k x with
    | true => simp only [cond_true]; rw [mfind, e]; intro h; cases h
    | false => simp only [cond_false]; rw [mfind, e]; exact ih
/-- A map's type: the key's, its kind, the element, its zero. -/
def mapZ? (P : Program) (t : TypeId) : Option (TypeId × TypeDesc × TypeId × Value) := match mapT? P t with
  | some (kt, d, et) => match P.info? et with
    | some i => i.zero.map fun z => (kt, d, et, z)
    | none => none
  | none => none
theorem mapZ_spec {P : Program} {t kt et : TypeId} {d : TypeDesc} {z : Value} (h : mapZ? P t = some (kt, d, et, z)) : mapT? P t = some (kt, d, et) ∧ ∀ w, (zeroValue et).run P w = .ok z w := by
  unfold mapZ? at h
  split at h
  · next kt' d' et' hm =>
    split at h
    · next i hi =>
      cases hz : i.zero with
      | none => rw [hz] at h; cases h
      | some z' =>
        rw [hz] at h; cases h
        exact ⟨hm, fun w => by simp [zeroValue, typeInfo, hi, hz]⟩
    · cases h
  · cases h
section
variable {P : Program} {Γ : Cx} {o : Oper} {σ : Nat → T} {objs : Objs}
theorem t_makermap {t c e n : Nat} {d : TypeDesc} (ho : o.op = .makeMap t none) : Tri P o σ [(c, .vac)] (.mp c) [(c, .rmap d e n [])] := by
  intro Γ g objs a w Q hr hp hw
  have hc := hp _ (List.mem_singleton.2 rfl)
  have hob : ObjAt Γ (setG g c w.heap.size (.tuple #[])) (w.alloc (.map #[] 0)) c (.rmap d e n []) := by
    refine ⟨[], [], by simp [setG], ?_, ⟨0, ?_, Go.MapKept.stamped_empty 0⟩, by simp [setG], .nil, fun o => ?_, fun v hv => (by cases hv), .nil⟩
    · simp only [setG, if_true]; exact .inl hw.fr.size
    · simp only [setG, if_true]; exact (Go.MapKept.heap_alloc w _).1
    · simp only [setG, if_true]; exact S_new hw o
  obtain ⟨k1, k2⟩ := (hw.alloc (.map #[] 0)).turn (g' := setG g c w.heap.size (.tuple #[])) hc (by simp [setG]) rfl (fun i hi => by simp [setG, hi]) (fun i hi => by simp [setG, hi]) (fun i hi => by simp [setG, hi]) hob (fun j oj b _ h2 h3 h4 => by
    have hlt := hw.blk_lt h2 h3
    simp only [GObj.blk, setG, if_true] at h4
    rcases h4 with h4 | ⟨v, hv, h4⟩
    · omega
    · simp [rowsOf] at hv)
  unfold Oper.wp execOp
  simp only [ho, Sem.run_bind, Sem.run_pure]
  refine ⟨_, _, rfl, k1, ?_, k2⟩
  have : RepT (setG g c w.heap.size (.tuple #[])) (.mp c) (.map (some ((setG g c w.heap.size (.tuple #[])).blk c))) := .mp (by simp [setG])
  simpa [setG] using this
/-- m's row c apart; the rows of m lie otherwise. -/
def setT (g : Gh) (m c n : Nat) (v vc : Value) : Gh := ⟨g.S, g.blk, fun i => if i = m then v else if i = c then vc else g.row i, fun i => if i = m then g.len i + 1 else if i = c then n + 1 else g.len i⟩
theorem setT_le {g : Gh} {m c n : Nat} (hc : g.len c = 0) (v vc : Value) : GLe (fun _ => True) g (setT g m c n v vc) := by
  refine ⟨SLe.refl _, fun _ _ _ => rfl, fun i _ => ?_, fun i _ h => ?_⟩
  · simp only [setT]
    split
    · omega
    · split
      · next e => rw [e, hc]; omega
      · exact Nat.le_refl _
  · simp only [setT] at h ⊢
    by_cases e : i = m
    · rw [if_pos e] at h; omega
    · rw [if_neg e] at h ⊢
      by_cases e2 : i = c
      · rw [if_pos e2] at h; rw [e2] at h; omega
      · rw [if_neg e2]
theorem sub_out {vs : List Value} {j : Nat} {v : Value} {b : Nat} (hv : v ∈ vs.set j undef) (hb : v.ownBlock = some b) : v ∈ vs := by
  rcases List.mem_or_eq_of_mem_set hv with h | h
  · exact h
  · rw [h] at hb; cases hb
theorem not_out {vs : List Value} (hp : vs.Pairwise Apart2) {j : Nat} {u v : Value} {b : Nat} (hj : vs[j]? = some u) (hu : u.ownBlock = some b) (hv : v ∈ vs.set j undef) : v.ownBlock ≠ some b := by
  induction vs generalizing j with
  | nil => simp at hj
  | cons x xs ih =>
    rw [List.pairwise_cons] at hp
    cases j with
    | zero =>
      simp at hj; subst hj
      rw [List.set_cons_zero, List.mem_cons] at hv
      rcases hv with rfl | hv
      · intro h; cases h
      · exact hp.1 v hv b hu
    | succ j =>
      have hj' : xs[j]? = some u := by simpa using hj
      rw [List.set_cons_succ, List.mem_cons] at hv
      rcases hv with rfl | hv
      · exact fun h => hp.1 u (List.mem_of_getElem? hj') b h hu
      · exact ih hp.2 hj' hv
theorem t_rtake {t kt et e n c : Nat} {d : TypeDesc} {m x : Operand} {id : Nat} {k : Value} {M : List (Value × Option (List D))} (ho : o.op = .lookup t m x false) (hT : mapT? P t = some (kt, d, et)) (hz : ∀ w, (zeroValue et).run P w = .ok (.slice none 0 0) w) (hm : opT σ m = .mp id) (hx : opT σ x = .d (.v k)) (hk : IsKey d k) (hM : mfind M k ≠ some none) :
    Tri P o σ [(id, .rmap d e n M), (c, .vac)] (.own n (rowD (mfind M k)) c) [(id, .rmap d e n (mtake M k)), (c, .row e n (rowD (mfind M k)))] := by
  intro Γ g objs a w Q hr hp hw
  obtain ⟨hu, hd⟩ := mapT_spec hT
  have e1 := rep_op hr (x := m) (by rw [ho]; simp [Op.operands])
  have e2 := rep_op hr (x := x) (by rw [ho]; simp [Op.operands])
  rw [hm] at e1
  rw [hx] at e2
  have hid := hp (id, .rmap d e n M) (by simp)
  have hcc := hp (c, .vac) (by simp)
  have hne : id ≠ c := fun h => by rw [h] at hid; rw [hid] at hcc; cases hcc
  have hc0 : g.len c = 0 := hw.obj c _ hcc
  obtain ⟨es, vs, a0, a1, hmap, a4, hR, a6, a7, a8⟩ := hw.obj id _ hid
  have hb := hmap
  obtain ⟨cl, hb, hst⟩ := hb
  generalize hy : a.eval m = y at e1
  cases e1 with
  | mp ha =>
    rcases repR_find hk hR 0 with ⟨h1, h2, -⟩ | ⟨j, en, r, u, h1, -, -, h4, hj, h6, -, h8, -⟩
    · rw [mtake_none h2, h2]
      have hrun : (execOp a.eval o).run P w = .ok (.value (.slice none 0 0)) w := by
        unfold execOp; rw [ho]; simp [hy, inv_v e2, run_lookN hu hd hk hb hz h1]
      unfold Oper.wp
      rw [hrun]
      refine ⟨setT g id c 0 (.tuple vs.toArray) (.slice none 0 0), _, rfl, setT_le hc0 _ _, .own (RepD.sl .nil (RowS.nil _ _) (Nat.le_refl _) (Nat.zero_le _) fun _ => rfl) (by simp [setT, hne.symm, rowD]) (fun _ => by simp [setT, hne.symm]), ?_⟩
      refine hw.two (b0 := none) hne hid hcc rfl (setT_le hc0 _ _) (fun i h1 h2 => by simp [setT, h1, h2]) (World.grownBy.refl _ _) (fun b hb => by cases hb) ⟨es, vs, by simp [setT], a1, hmap, by simp [setT], hR, a6, a7, a8⟩
        ⟨[], by simp [setT, hne.symm, rowD], by simpa [setT, hne.symm, rowD] using World.ownsRow_nil w 0 e n, .nil, fun b hb => by simp [setT, hne.symm, Value.ownBlock] at hb⟩ (fun b hb => .inl ?_) (fun b hb => by simp [GObj.blk, setT, hne.symm, Value.ownBlock] at hb) (fun b _ hb => by simp [GObj.blk, setT, hne.symm, Value.ownBlock] at hb)
      rcases hb with hb | ⟨v, hv, hb⟩
      · exact .inl hb
      · exact .inr ⟨v, by rw [a4]; simpa [setT] using hv, hb⟩
    · cases r with
      | none => exact absurd h4 hM
      | some l =>
        obtain ⟨rfl, xs, q1, q2, q3⟩ := h6
        rw [mtake_some h4, h4]
        have hmem : en.val ∈ vs := List.mem_of_getElem? hj
        have hrun : (execOp a.eval o).run P w = .ok (.value en.val) w := by
          unfold execOp; rw [ho]; simp [hy, inv_v e2, run_lookS hu hd hk hb h1]
        unfold Oper.wp
        rw [hrun]
        refine ⟨setT g id c l.length (.tuple (vs.set j undef).toArray) en.val, _, rfl, setT_le hc0 _ _, .own (own_rep q1 q2 q3) (by simp [setT, hne.symm, rowD]) (fun _ => by simp [setT, hne.symm]), ?_⟩
        refine hw.two (b0 := none) hne hid hcc rfl (setT_le hc0 _ _) (fun i h1 h2 => by simp [setT, h1, h2]) (World.grownBy.refl _ _) (fun b hb => by cases hb) ⟨es, vs.set j undef, by simp [setT], a1, hmap, by simp [setT], h8, a6, fun v hv b hb => a7 v (sub_out hv hb) b hb, apart_set a8 (fun _ _ b hb => by cases hb) j⟩
          ⟨xs, by simp [setT, hne.symm, rowD], by simpa [setT, hne.symm, rowD] using q1, q2, fun b hb => ?_⟩ (fun b hb => .inl ?_) (fun b hb => .inl (.inr ⟨en.val, by rw [a4]; simpa [rowsOf] using hmem, by simpa [GObj.blk, setT, hne.symm] using hb⟩)) (fun b hb hb2 => ?_)
        · have hb : en.val.ownBlock = some b := by simpa [setT, hne.symm] using hb
          exact ⟨(a7 _ hmem b hb).1, q3 b hb⟩
        · rcases hb with hb | ⟨v, hv, hb⟩
          · exact .inl hb
          · exact .inr ⟨v, by rw [a4]; simpa [rowsOf] using sub_out (j := j) (by simpa [setT, rowsOf] using hv) hb, hb⟩
        · have hb2 : en.val.ownBlock = some b := by simpa [GObj.blk, setT, hne.symm] using hb2
          rcases hb with hb | ⟨v, hv, hb⟩
          · exact (a7 _ hmem b hb2).2 hb.symm
          · exact not_out a8 hj hb2 (by simpa [setT, rowsOf] using hv) hb
theorem t_rput {t kt et e n c : Nat} {d : TypeDesc} {m x v : Operand} {id : Nat} {k : Value} {l : List D} {M : List (Value × Option (List D))} (ho : o.op = .mapUpdate t m x v) (hT : mapT? P t = some (kt, d, et)) (hm : opT σ m = .mp id) (hx : opT σ x = .d (.v k)) (hv : opT σ v = .own n l c) (hk : IsKey d k) :
    Tri P o σ [(id, .rmap d e n M), (c, .row e n l)] .und [(id, .rmap d e n (mput M k (some l))), (c, .gone)] := by
  intro Γ g objs a w Q hr hp hw
  obtain ⟨hu, hd⟩ := mapT_spec hT
  have e1 := rep_op hr (x := m) (by rw [ho]; simp [Op.operands])
  have e2 := rep_op hr (x := x) (by rw [ho]; simp [Op.operands])
  have e3 := rep_op hr (x := v) (by rw [ho]; simp [Op.operands])
  rw [hm] at e1
  rw [hx] at e2
  rw [hv] at e3
  have hid := hp (id, .rmap d e n M) (by simp)
  have hcc := hp (c, .row e n l) (by simp)
  have hne : id ≠ c := fun h => by rw [h] at hid; rw [hid] at hcc; cases hcc
  obtain ⟨es, vs, a0, a1, ⟨cl, hb, hst⟩, a4, hR, a6, a7, a8⟩ := hw.obj id _ hid
  obtain ⟨xs, b0, b1, b2, b3⟩ := hw.obj c _ hcc
  have hap : ∀ b, (g.row c).ownBlock = some b → ¬ (GObj.rmap d e n M).blk g id b := fun b hb hk => hne (hw.apart id c _ _ b hid hcc hk hb)
  generalize hy : a.eval m = y at e1
  generalize hy3 : a.eval v = y3 at e3
  cases e1 with
  | mp ha =>
  cases e3 with
  | own q1 q2 q3 =>
    obtain rfl : g.row c = y3 := q3 b0
    have hS : ∀ b, (g.row c).ownBlock = some b → ∀ o, g.S b o = xs[o]? := fun b hb => (b3 b hb).2
    have key : ∃ es' vs' ob, (Instr.mapUpdate t (.map (some (g.blk id))) k (g.row c)).run P w = .ok () (setB w (g.blk id) ob) ∧ MapAt (setB w (g.blk id) ob) (g.blk id) es' ∧ RepR w g.S d e n (mput M k (some l)) es' vs' ∧ (∀ u ∈ vs', u ∈ vs ∨ u = g.row c) ∧ vs'.Pairwise Apart2 := by
      rcases repR_find hk hR 0 with ⟨h1, h2, h3, h4, -⟩ | ⟨j, en, r, u, h1, h2, h3, h4, h5, h6, h7, -, -⟩
      · refine ⟨es ++ [⟨k, g.row c, cl⟩], vs ++ [g.row c], .map (es.toArray.push ⟨k, g.row c, cl⟩) (cl + 1), ?_, ⟨cl + 1, by rw [← List.push_toArray]; exact (Go.MapKept.heap_set hb).1, by rw [← List.push_toArray]; exact Go.MapKept.stamped_push hst (by simpa using h3)⟩, h4 (g.row c) l xs cl b1 b2 hS, fun u hu => by simpa using hu, ?_⟩
        · simp [Instr.mapUpdate, run_underlying hu, Go.MapKept.run_getObj_map hb, Go.MapKept.run_checkKey hd hk, Go.MapKept.run_findKey hd h1, Go.MapKept.run_setObj_map _ hb, Result.andThen, setB]
        · rw [List.pairwise_append]
          refine ⟨a8, List.pairwise_singleton _ _, fun u hu v hv b hb hb2 => ?_⟩
          obtain rfl := List.mem_singleton.1 hv
          exact hap b hb2 (.inr ⟨u, by rw [a4]; simpa [rowsOf] using hu, hb⟩)
      · have hj : es.toArray[j]? = some en := by simpa using h2
        have hkey : ∀ e', es.toArray[j]? = some e' → ({ e' with key := k, val := g.row c } : MapEntry).key = e'.key := fun e' he' => by rw [hj] at he'; cases he'; exact h3.symm
        have hmod : (es.modify j fun e => { e with key := k, val := g.row c }).toArray = es.toArray.modify j fun e => { e with key := k, val := g.row c } := by simp
        refine ⟨es.modify j fun e => { e with key := k, val := g.row c }, vs.set j (g.row c), .map (es.toArray.modify j fun e => { e with key := k, val := g.row c }) cl, ?_, ⟨cl, by rw [hmod]; exact (Go.MapKept.heap_set hb).1, by rw [hmod]; exact Go.MapKept.stamped_modify hst _ _ (fun _ _ => rfl) (fun e' _ he' => hkey e' he')⟩, h7 (g.row c) l xs b1 b2 hS, fun u hu => List.mem_or_eq_of_mem_set hu, ?_⟩
        · simp [Instr.mapUpdate, run_underlying hu, Go.MapKept.run_getObj_map hb, Go.MapKept.run_checkKey hd hk, Go.MapKept.run_findKey hd h1, h2, h3, Go.MapKept.run_keyThatStays hk, Go.MapKept.run_setObj_map _ hb, Result.andThen, setB]
        · exact apart_set a8 (fun u hu b hb hb2 => hap b hb (.inr ⟨u, by rw [a4]; simpa [rowsOf] using hu, hb2⟩)) j
    obtain ⟨es', vs', ob, hrun, h1, h2, h3, h4⟩ := key
    unfold Oper.wp execOp
    simp only [ho, hy, hy3, inv_v e2, Sem.run_bind, hrun, Result.andThen_ok, Sem.run_pure]
    have hblk : ∀ u ∈ vs', ∀ b, u.ownBlock = some b → Mine Γ b ∧ b ≠ g.blk id := fun u hu b hbk => by
      rcases h3 u hu with hu | rfl
      · exact a7 u hu b hbk
      · exact ⟨(b3 b hbk).1, fun e3 => hap b hbk (.inl e3.symm)⟩
    refine ⟨setM g id (.tuple vs'.toArray), undef, rfl, setM_le g id _, .und, hw.two (b0 := some (g.blk id)) hne hid hcc rfl (setM_le g id _) (fun i h1 _ => by simp [setM, h1]) (grown_setB hb) (fun b hb => by cases hb; exact ⟨.inl rfl, a6⟩)
      ⟨es', vs', by simp [setM], a1, h1, by simp [setM], h2.same (SLe.refl _) fun u hu b hbk => ⟨(Go.MapKept.heap_set hb).2 b (hblk u hu b hbk).2, fun _ => rfl⟩, a6, hblk, h4⟩ trivial (fun b hbk => ?_) (fun b hbk => hbk.elim) (fun b _ hbk => hbk)⟩
    rcases hbk with hbk | ⟨u, hu, hbk⟩
    · exact .inl (.inl hbk)
    · rcases h3 u (by simpa [setM, rowsOf] using hu) with hu | rfl
      · exact .inl (.inr ⟨u, by rw [a4]; simpa [rowsOf] using hu, hbk⟩)
      · exact .inr hbk
end
end Go.Proofs.YtngklbnodknadaaGreatDoor
end

section
namespace Go.Proofs.YtngklbnodknadaaGreatDoor
open Go.RowKit

/-! ### Slots and objects as lists -/
noncomputable def lk {α : Type} (l : List (Nat × α)) (i : Nat) : Option α := List.rec (motive := fun _ => Option α) none (fun p _ ih => bif Nat.beq i p.1 then some p.2 else ih) l
theorem lk_cons {α : Type} (p : Nat × α) (l : List (Nat × α)) (i : Nat) : lk (p :: l) i = bif Nat.beq i p.1 then some p.2 else lk l i := rfl
abbrev En := List (Nat × T)
abbrev Ob := List (Nat × GObj)
noncomputable def sl (E : En) (t : Nat) : T := match lk E t with | some v => v | none => .und
noncomputable def obE (L : Ob) : Objs := fun i => lk L i
def up (E : En) (d : Option Tmp) (v : T) : En := match d with | some d => (d, v) :: E | none => E
theorem sl_up (E : En) (d : Option Tmp) (v : T) : sl (up E d v) = updT (sl E) d v := by
  cases d with
  | none => rfl
  | some d =>
    funext t
    show (match lk ((d, v) :: E) t with | some v => v | none => .und) = _
    rw [lk_cons]
    simp only [updT]
    cases Nat.beq t d <;> rfl
theorem lk_app {α : Type} : ∀ (l m : List (Nat × α)) (i : Nat), lk (l ++ m) i = match lk l i with | some x => some x | none => lk m i
  | [], _, _ => rfl
  | p :: l, m, i => by
    rw [List.cons_append, lk_cons, lk_cons]
    cases Nat.beq i p.1 with
    | true => rfl
    | false => exact lk_app l m i
theorem lk_lookup {α : Type} : ∀ (l : List (Nat × α)) (i : Nat), l.lookup i = lk l i
  | [], _ => rfl
  | p :: l, i => by
    rw [List.lookup_cons, lk_cons]
    by_cases h : i = p.1
    · subst h; simp
    · have h1 : (i == p.1) = false := by simpa using h
      have h2 : Nat.beq i p.1 = false := by cases e : Nat.beq i p.1 with | false => rfl | true => exact absurd (Nat.eq_of_beq_eq_true e) h
      rw [h1, h2]; exact lk_lookup l i
theorem obE_app (post L : Ob) : obE (post ++ L) = ovr (obE L) post := by
  funext i
  unfold obE ovr
  rw [lk_app, lk_lookup]
  cases lk post i <;> rfl
theorem obE_obj (L : Ob) : obE L = objL L := by
  funext i
  unfold obE objL
  rw [lk_lookup]
theorem lk_mem {α : Type} : ∀ {l : List (Nat × α)} {i : Nat} {x : α}, lk l i = some x → (i, x) ∈ l
  | p :: l, i, x, h => by
    rw [lk_cons] at h
    cases e : Nat.beq i p.1 with
    | true => rw [e] at h; cases h; rw [Nat.eq_of_beq_eq_true e]; exact List.mem_cons_self
    | false => rw [e] at h; exact List.mem_cons_of_mem _ (lk_mem h)

/-! ### Facts on types -/
inductive UK where
  | i (k : IntKind)
  | s
  | b
  | x
structure Fax where
  el : List (Nat × Nat × Nat)
  ro : List (Nat × Nat × Nat × Nat)
  ag : List (Nat × Bool × Nat)
  fo : List (Nat × List (Nat × Nat))
  un : List (Nat × UK)
  ze : List (Nat × List Value × List D)
  pl : List (Nat × List (Nat × Nat))
  ar : List (Nat × Nat × Nat)
  mks : List (Nat × Nat × Value)
  mt : List (Nat × Nat × TypeDesc × Nat × Value)
def DLe (d d' : D) : Prop := ∀ (S : Sm) (x : Value), RepD S d x → RepD S d' x
theorem DLe.refl (d : D) : DLe d d := fun _ _ h => h
theorem DLe.nil {k : Nat} : DLe (.v (.slice none 0 0)) (.sl k []) := fun S x h => by cases h with | v h => exact .sl .nil (RowS.nil _ _) (Nat.le_refl _) (Nat.zero_le _) fun _ => rfl
theorem DLe.t {d d' : D} (h : DLe d d') : TLe (.d d) (.d d') := fun _ _ e => by cases e with | d e => exact .d (h _ _ e)
inductive DLes : List D → List D → Prop
  | nil : DLes [] []
  | cons {d d' : D} {l l' : List D} (h : DLe d d') (ht : DLes l l') : DLes (d :: l) (d' :: l')
theorem DLes.reps {S : Sm} : ∀ {l l' : List D} {xs : List Value}, DLes l l' → RepDs S l xs → RepDs S l' xs
  | _, _, _, .nil, .nil => .nil
  | _, _, _, .cons h ht, .cons h1 h2 h3 => .cons (h _ _ h1) h2 (ht.reps h3)
theorem DLe.agg {l l' : List D} (h : DLes l l') : DLe (.agg l) (.agg l') := fun _ _ e => by cases e with | agg e => exact .agg (h.reps e)
/-- An array's length, and how many cells an element has. -/
def arrOf? (P : Program) (t : TypeId) : Option (Nat × Nat) := match P.underlying t with
  | some (.array n e) => (P.info? e).map fun i => (n, i.size)
  | _ => none
structure FaxOK (P : Program) (F : Fax) : Prop where
  el : ∀ t e k, lk F.el t = some (e, k) → elemOf? P t = some (e, k)
  ro : ∀ t e k b, lk F.ro t = some (e, k, b) → rowT? P t = some (e, k, b)
  ag : ∀ t b k, lk F.ag t = some (b, k) → aggOf? P t = some (b, k)
  fo : ∀ t l f o, lk F.fo t = some l → lk l f = some o → fieldOff? P t f = some o
  ui : ∀ t k, lk F.un t = some (.i k) → P.underlying t = some (.int k)
  us : ∀ t, lk F.un t = some .s → P.underlying t = some .string
  ub : ∀ t, lk F.un t = some .b → P.underlying t = some .bool
  ze : ∀ t zs ds, lk F.ze t = some (zs, ds) → zeroOf? P t = some zs ∧ DLes (zs.map .v) ds
  pl : ∀ t l, lk F.pl t = some l → PlacesOK P t l
  ar : ∀ t n k, lk F.ar t = some (n, k) → arrOf? P t = some (n, k)
  mks : ∀ t e z, lk F.mks t = some (e, z) → mkT? P t = some (e, z)
  mt : ∀ t x, lk F.mt t = some x → mapZ? P t = some x
  mx : P.follows .mixedOrders = true

def AllL {α : Type} (p : Nat → α → Prop) : List (Nat × α) → Prop
  | [] => True
  | q :: l => p q.1 q.2 ∧ AllL p l
theorem lk_all {α : Type} {p : Nat → α → Prop} : ∀ {l : List (Nat × α)}, AllL p l → ∀ {t : Nat} {x : α}, lk l t = some x → p t x
  | [], _, t, x, h => by cases h
  | q :: l, h, t, x, e => by
    rw [lk_cons] at e
    cases e1 : Nat.beq t q.1 with
    | true => rw [e1] at e; cases e; rw [Nat.eq_of_beq_eq_true e1]; exact h.1
    | false => rw [e1] at e; exact lk_all h.2 e
def unOK (P : Program) (t : Nat) : UK → Prop
  | .i k => P.underlying t = some (.int k)
  | .s => P.underlying t = some .string
  | .b => P.underlying t = some .bool
  | .x => True
theorem FaxOK.mk' {P : Program} {F : Fax} (el : AllL (fun t x => elemOf? P t = some x) F.el) (ro : AllL (fun t x => rowT? P t = some x) F.ro) (ag : AllL (fun t x => aggOf? P t = some x) F.ag) (fo : AllL (fun t l => AllL (fun f o => fieldOff? P t f = some o) l) F.fo) (un : AllL (unOK P) F.un)
    (ze : AllL (fun t (x : List Value × List D) => zeroOf? P t = some x.1 ∧ DLes (x.1.map .v) x.2) F.ze) (pl : AllL (fun t l => PlacesOK P t l) F.pl) (ar : AllL (fun t x => arrOf? P t = some x) F.ar) (mk : AllL (fun t x => mkT? P t = some x) F.mks) (mt : AllL (fun t x => mapZ? P t = some x) F.mt) (mx : P.follows .mixedOrders = true) : FaxOK P F :=
  ⟨fun _ _ _ h => lk_all el h, fun _ _ _ _ h => lk_all ro h, fun _ _ _ h => lk_all ag h, fun _ _ _ _ h h' => lk_all (lk_all fo h) h', fun _ _ h => lk_all un h, fun _ h => lk_all un h, fun _ h => lk_all un h, fun _ _ _ h => lk_all ze h, fun _ _ h => lk_all pl h, fun _ _ _ h => lk_all ar h, fun _ _ _ h => lk_all mk h, fun _ _ h => lk_all mt h, mx⟩

/-! ### More operations -/
section
variable {P : Program} {o : Oper} {σ : Nat → T} {Γ : Cx} {n : Nat} {objs : Objs} {Q : GPost}
theorem Tri.le {pre post : List (Nat × GObj)} {v v' : T} (h : Tri P o σ pre v post) (hv : TLe v v') : Tri P o σ pre v' post := fun Γ g objs a w Q h1 h2 h3 =>
  Oper.wp_mono (fun _ _ ⟨g', x, e, k1, k2, k3⟩ => ⟨g', x, e, k1, hv _ _ k2, k3⟩) (h Γ g objs a w Q h1 h2 h3)
theorem t_nil {x : Operand} {v : T} (ho : o.op = .nilCheck x) (hx : opT σ x = v) (hv : (∃ i off, v = .ref i off) ∨ ∃ ds, v = .pi ds) : Tri P o σ [] v [] :=
  .val fun _ g _ a w hr _ _ => by
    have e := hr x (by rw [ho]; simp [Op.operands])
    rw [hx] at e
    have h2 : ∃ p, a.eval x = .pointer (some p) := by
      rcases hv with ⟨i, off, rfl⟩ | ⟨ds, rfl⟩
      · generalize a.eval x = y at e ⊢
        cases e; exact ⟨_, rfl⟩
      · generalize a.eval x = y at e ⊢
        cases e; exact ⟨_, rfl⟩
    obtain ⟨p, hp⟩ := h2
    exact ⟨a.eval x, by unfold execOp; rw [ho]; simp [hp], e⟩
theorem arr_spec {t : TypeId} {n k : Nat} (h : arrOf? P t = some (n, k)) : ∃ e i, P.underlying t = some (.array n e) ∧ P.info? e = some i ∧ i.size = k := by
  unfold arrOf? at h
  split at h
  · next n' e he =>
    cases hi : P.info? e with
    | none => rw [hi] at h; cases h
    | some i => rw [hi] at h; cases h; exact ⟨e, i, he, hi, rfl⟩
  · cases h
theorem t_index_aref {t : TypeId} {x i : Operand} {m k id off j : Nat} {kd : IntKind} (ho : o.op = .indexAddr t x i) (ht : arrOf? P t = some (m, k)) (hx : opT σ x = .ref id off) (hi : opT σ i = .d (.v (.int kd j))) (hj : j < m) : Tri P o σ [] (.ref id (off + j * k)) [] :=
  .val fun _ g _ ac w hrp _ _ => by
    have e1 := hrp x (by rw [ho]; simp [Op.operands])
    have e2 := hrp i (by rw [ho]; simp [Op.operands])
    rw [hx] at e1
    rw [hi] at e2
    obtain ⟨e, inf, hu, hinf, hsz⟩ := arr_spec ht
    generalize he : ac.eval x = y at e1
    cases e1 with
    | ref ha =>
      refine ⟨.pointer (some ⟨g.blk id, off + j * k, none⟩), ?_, RepT.ref ha⟩
      unfold execOp; rw [ho]
      simp [Instr.indexAt, he, inv_v e2, asIntOf, run_underlying hu, hj, Instr.sureAddr, sizeOf, typeInfo, hinf, hsz, add_lit']
theorem t_index_api {t : TypeId} {x i : Operand} {m k j : Nat} {ds : List D} {kd : IntKind} (ho : o.op = .indexAddr t x i) (ht : arrOf? P t = some (m, k)) (hx : opT σ x = .pi ds) (hi : opT σ i = .d (.v (.int kd j))) (hj : j < m) : Tri P o σ [] (.pi (ds.drop (j * k))) [] :=
  .val fun _ g _ ac w hrp _ _ => by
    have e1 := hrp x (by rw [ho]; simp [Op.operands])
    have e2 := hrp i (by rw [ho]; simp [Op.operands])
    rw [hx] at e1
    rw [hi] at e2
    obtain ⟨e, inf, hu, hinf, hsz⟩ := arr_spec ht
    generalize he : ac.eval x = y at e1
    cases e1 with
    | @pi _ xs b off h1 hr =>
      refine ⟨.pointer (some ⟨b, off + j * k, none⟩), ?_, RepT.pi (h1.drop (j * k)) fun q hq => ?_⟩
      · unfold execOp; rw [ho]
        simp [Instr.indexAt, he, inv_v e2, asIntOf, run_underlying hu, hj, Instr.sureAddr, sizeOf, typeInfo, hinf, hsz, add_lit']
      · simp at hq
        rw [Nat.add_assoc, hr _ (by omega), List.getElem?_drop]
theorem t_buildA {t : TypeId} {n kk : Nat} {ps : List (Nat × Operand)} {qs : List (Nat × Nat × D)} {zs : List Value} {ds : List D} (ho : o.op = .build t ps.toArray) (hz : zeroOf? P t = some zs) (ha : arrOf? P t = some (n, kk)) (hP : Parts σ (fun i => some (i * kk, kk)) ps qs) (hd : fillD qs (zs.map .v) = some ds) :
    Tri P o σ [] (.d (.agg ds)) [] :=
  .val fun _ g _ a w hr _ _ => by
    obtain ⟨e, inf, hu, hinf, hsz⟩ := arr_spec ha
    have hsz : (sizeOf e).run P w = .ok kk w := by simp [sizeOf, typeInfo, hinf, hsz]
    unfold zeroOf? at hz
    split at hz
    · next i hi =>
      split at hz
      · next z hzz =>
        split at hz
        · next hall =>
          cases hz
          obtain ⟨cs', e1, e2⟩ := fill_run (g := g) (a := a) (cs := z.cells.toList) hP (fun p hp => hr p.2 (by rw [ho]; simp [Op.operands]; exact ⟨p.1, hp⟩)) (reps_one fun x hx => Array.all_eq_true_iff_forall_mem.1 hall x (Array.mem_toList_iff.1 hx)) hd
          refine ⟨.agg cs'.toArray, ?_, .d (.agg e2)⟩
          have hb : (Instr.build t (ps.map fun p => (p.1, a.eval p.2)).toArray).run P w = .ok (.agg cs'.toArray) w := by
            unfold Instr.build
            simp only [zeroValue, typeInfo, program, Sem.run_bind, Sem.run, hi, Result.andThen_ok, Sem.run_pure, hzz, run_underlying hu, hsz]
            rw [Array.toArray_toList] at e1
            rw [e1]
            simp only [Sem.run_pure]
          unfold execOp; rw [ho]
          have hmap : ps.toArray.map (fun x => match x with | (i, x) => (i, a.eval x)) = (ps.map fun p => (p.1, a.eval p.2)).toArray := by simp
          simp only [hmap, Sem.run_bind, hb, Result.andThen_ok, Sem.run_pure]
        · cases hz
      · cases hz
    · cases hz
/-- A box whose cells never turn. -/
theorem t_boxpi {e : Nat} {x : Operand} {d : D} (ho : o.op = .box e x) (hx : TLe (opT σ x) (.d d)) : Tri P o σ [] (.pi d.lv) [] := by
  intro Γ g objs a w Q hr hp hw
  have e1 := hx g _ (rep_op hr (x := x) (by rw [ho]; simp [Op.operands]))
  cases e1 with
  | d h1 =>
    have h2 := rep_cells h1
    unfold Oper.wp execOp
    have hrun : (Instr.box e (a.eval x)).run P w = .ok (.pointer (some ⟨w.heap.size, 0, none⟩)) (w.alloc (.cells (a.eval x).cells.toList.toArray e)) := by
      unfold Instr.box
      simp only [newVar, newRow, newObj, Sem.run_bind, Sem.run, Result.andThen_ok, Sem.run_pure, Array.toArray_toList]
      rfl
    simp only [ho, Sem.run_bind, hrun, Result.andThen_ok, Sem.run_pure]
    have hle := new_le (S := g.S) (w := w) (xs := (a.eval x).cells.toList) hw.imm
    refine ⟨⟨newS g.S w.heap.size (a.eval x).cells.toList, g.blk, g.row, g.len⟩, _, rfl, ⟨hle, fun _ _ _ => rfl, fun _ _ => Nat.le_refl _, fun _ _ _ => rfl⟩, .pi (h2.mono hle) fun i hi => ?_, hw.lay⟩
    show (if w.heap.size = w.heap.size then (a.eval x).cells.toList[0 + i]? else g.S w.heap.size (0 + i)) = _
    rw [if_pos rfl, Nat.zero_add]
theorem t_max {x y : Operand} {k : IntKind} {a b : Int} {ts : Array TypeId} (ho : o.op = .call { callee := .builtin .max, args := #[x, y], argTypes := ts }) (hx : opT σ x = .d (.v (.int k a))) (hy : opT σ y = .d (.v (.int k b))) : Tri P o σ [] (.d (.v (.int k (if a < b then b else a)))) [] :=
  .val fun _ g _ ac w hrp _ _ => ⟨.int k (if a < b then b else a), by
    have e1 := hrp x (by rw [ho]; simp [Op.operands, Call.operands])
    have e2 := hrp y (by rw [ho]; simp [Op.operands, Call.operands])
    rw [hx] at e1
    rw [hy] at e2
    unfold execOp; rw [ho]
    simp [resolve, invoke, builtin, Builtin.max_, Builtin.max2, inv_v e1, inv_v e2], rep_v rfl⟩
/-- What reads as data. -/
def dOf : T → Option D
  | .d x => some x
  | .own k l _ => some (.sl k l)
  | _ => none
theorem dOf_le : ∀ {t : T} {d : D}, dOf t = some d → TLe t (.d d)
  | .d _, _, h => by cases h; exact TLe.refl _
  | .own _ _ _, _, h => by cases h; exact TLe.own
noncomputable def dsOf (l : List T) : Option (List D) := List.rec (motive := fun _ => Option (List D)) (some []) (fun t _ ih => match dOf t with | some d => (match ih with | some m => some (d :: m) | none => none) | none => none) l
theorem dsOf_cons (t : T) (l : List T) : dsOf (t :: l) = match dOf t with | some d => (match dsOf l with | some m => some (d :: m) | none => none) | none => none := rfl
theorem dsOf_reps {g : Gh} : ∀ {l : List T} {ds : List D} {xs : List Value}, dsOf l = some ds → Reps g l xs → Reps g (ds.map .d) xs
  | [], ds, xs, h, hr => by cases h; cases hr; exact .nil
  | t :: l, ds, xs, h, hr => by
    rw [dsOf_cons] at h
    cases e : dOf t with
    | none => rw [e] at h; cases h
    | some d =>
      rw [e] at h
      cases e2 : dsOf l with
      | none => rw [e2] at h; cases h
      | some m =>
        rw [e2] at h
        cases h
        cases hr with | cons h1 h2 => exact .cons (dOf_le e g _ h1) (dsOf_reps e2 h2)
theorem dsOf_len : ∀ {l : List T} {ds : List D}, dsOf l = some ds → ds.length = l.length
  | [], ds, h => by cases h; rfl
  | t :: l, ds, h => by
    rw [dsOf_cons] at h
    cases e : dOf t with
    | none => rw [e] at h; cases h
    | some d =>
      rw [e] at h
      cases e2 : dsOf l with
      | none => rw [e2] at h; cases h
      | some m => rw [e2] at h; cases h; simp [dsOf_len e2]
theorem t_load_refd {t : TypeId} {x : Operand} {k id off e : Nat} {ts : List T} {ds : List D} (ho : o.op = .load t x) (ht : aggOf? P t = some (true, k)) (hx : opT σ x = .ref id off) (hv : dsOf ((ts.drop off).take k) = some ds) (hk : ds.length = k) : Tri P o σ [(id, .cells e ts)] (.d (.agg ds)) [] :=
  .val fun _ g objs ac w hrp hp hw => by
    have e1 := hrp x (by rw [ho]; simp [Op.operands])
    rw [hx] at e1
    generalize he : ac.eval x = y at e1
    cases e1 with
    | ref ha =>
      obtain ⟨xs, -, a1, a2, a3, a4, a5⟩ := hw.obj id _ (hp _ (List.mem_singleton.2 rfl))
      have h3 := dsOf_reps hv ((a3.drop off).take k)
      have h4 := reps_dd h3 (fun x hx => a4 x (List.mem_of_mem_drop (List.mem_of_mem_take hx)))
      have hl := h4.len
      have := load_agg_run (P := P) (b := g.blk id) (off := off) (w := w) (xs := (xs.drop off).take k) ht (by rw [hl, hk]) (fun j hj => by
        have hj2 : off + j < xs.length := by
          have : ((xs.drop off).take k).length = k := by rw [hl, hk]
          rw [List.length_take, List.length_drop] at this
          omega
        unfold World.cell?
        dsimp only
        rw [a2, List.getElem?_take, if_pos hj, List.getElem?_drop]
        simp)
      exact ⟨_, by unfold execOp; rw [ho]; simp [he, this], .d (.agg h4)⟩
/-- Of an object less may be told. -/
theorem WI.less {g : Gh} {w : World} {id e : Nat} {ts ts' : List T} (hw : WI Γ g objs w) (ho : objs id = some (.cells e ts)) (h : ∀ xs, Reps g ts xs → (∀ x ∈ xs, x.oneCell' = true) → Reps g ts' xs) : WI Γ g (ovr objs [(id, .cells e ts')]) w := by
  have back : ∀ (i : Nat) (oi : GObj), ovr objs [(id, .cells e ts')] i = some oi → (i = id ∧ oi = .cells e ts') ∨ (i ≠ id ∧ objs i = some oi) := fun i oi hi => by
    by_cases hid : i = id
    · subst hid
      exact .inl ⟨rfl, by simpa [ovr, List.lookup] using hi.symm⟩
    · have hne : (i == id) = false := by simpa using hid
      exact .inr ⟨hid, by simpa [ovr, List.lookup, hne] using hi⟩
  have key : ∀ (i : Nat) (oi : GObj) (b : Nat), ovr objs [(id, .cells e ts')] i = some oi → oi.blk g i b → ∃ oi', objs i = some oi' ∧ oi'.blk g i b := fun i oi b hi hb => by
    rcases back i oi hi with ⟨rfl, rfl⟩ | ⟨-, hi'⟩
    · exact ⟨_, ho, hb⟩
    · exact ⟨oi, hi', hb⟩
  refine ⟨hw.imm, fun i ob hi => ?_, fun i j oi oj b q1 q2 q3 q4 => ?_, hw.fr, hw.old, hw.ext⟩
  · rcases back i ob hi with ⟨rfl, rfl⟩ | ⟨-, hi'⟩
    · obtain ⟨xs, b0, b1, b2, b3, b4, b5⟩ := hw.obj i _ ho
      exact ⟨xs, b0, b1, b2, h xs b3 b4, b4, b5⟩
    · exact hw.obj i ob hi'
  · obtain ⟨a1, c1, c2⟩ := key i oi b q1 q3
    obtain ⟨a2, c3, c4⟩ := key j oj b q2 q4
    exact hw.apart i j _ _ b c1 c3 c2 c4
theorem ovr_two (objs : Objs) (id : Nat) (x y : GObj) : ovr (ovr objs [(id, x)]) [(id, y)] = ovr objs [(id, y)] := by
  funext i
  by_cases hid : i = id
  · subst hid; simp [ovr, List.lookup]
  · have hne : (i == id) = false := by simpa using hid
    simp [ovr, List.lookup, hne]
theorem t_alloc_d {e c : Nat} {zs : List Value} {ds : List D} (ho : o.op = .alloc e) (hz : zeroOf? P e = some zs) (hd : DLes (zs.map .v) ds) : Tri P o σ [(c, .vac)] (.ref c 0) [(c, .cells e (ds.map .d))] := fun Γ g objs a w Q h1 h2 h3 =>
  Oper.wp_mono (fun _ _ ⟨g', x, e1, k1, k2, k3⟩ => ⟨g', x, e1, k1, k2, by
    have := k3.less (id := c) (e := e) (ts := zs.map fun x => .d (.v x)) (ts' := ds.map .d) (by simp [ovr, List.lookup]) fun xs b3 b4 => by
      have b5 : Reps g' ((zs.map D.v).map .d) xs := by rw [List.map_map]; exact b3
      exact reps_d (hd.reps (reps_dd b5 b4))
    rwa [ovr_two] at this⟩) (t_alloc ho hz Γ g objs a w Q h1 h2 h3)
end
end Go.Proofs.YtngklbnodknadaaGreatDoor
end

section
namespace Go.Proofs.YtngklbnodknadaaGreatDoor
open Go.RowKit
section
variable {P : Program} {o : Oper} {σ : Nat → T} {Γ : Cx} {objs : Nat → Option GObj}
theorem bytV_len (l : List UInt8) : (bytV l).length = l.length := by simp [bytV]
theorem bytV_get {l : List UInt8} {i : Nat} {b : UInt8} (h : l[i]? = some b) : (bytV l)[i]? = some (.int .u8 b.toNat) := by unfold bytV; rw [List.getElem?_map, h]; rfl
theorem barr_cell8 {g : Gh} {w : World} {id e off : Nat} {l : List UInt8} {ts : List T} {b : UInt8} (hw : WI Γ g objs w) (ho : objs id = some (.barr e l ts)) (hb : l[off]? = some b) : w.cell? ⟨g.blk id, off, none⟩ = some (.int .u8 b.toNat) := by
  obtain ⟨xs, -, a1, a2, a3, a4, a5⟩ := hw.obj id _ ho
  have hlt := (List.getElem?_eq_some_iff.1 hb).1
  have := bytV_get hb
  rw [← List.getElem?_append_left (l₂ := xs) (by rw [bytV_len]; exact hlt)] at this
  unfold World.cell?
  dsimp only
  rw [a2]
  simpa using this
theorem barr_cellT {g : Gh} {w : World} {id e j : Nat} {l : List UInt8} {ts : List T} {t : T} (hw : WI Γ g objs w) (ho : objs id = some (.barr e l ts)) (ht : ts[j]? = some t) : ∃ x, w.cell? ⟨g.blk id, l.length + j, none⟩ = some x ∧ RepT g t x := by
  obtain ⟨xs, -, a1, a2, a3, a4, a5⟩ := hw.obj id _ ho
  obtain ⟨x, hx, hrx⟩ := reps_at a3 ht
  refine ⟨x, ?_, hrx⟩
  have h2 : (bytV l ++ xs)[l.length + j]? = some x := by
    rw [List.getElem?_append_right (by rw [bytV_len]; omega), bytV_len, show l.length + j - l.length = j by omega, hx]
  unfold World.cell?
  dsimp only
  rw [a2]
  simpa using h2
theorem t_load_b8 {t : TypeId} {x : Operand} {k id off e : Nat} {l : List UInt8} {ts : List T} {b : UInt8} (ho : o.op = .load t x) (ht : aggOf? P t = some (false, k)) (hx : opT σ x = .ref id off) (hb : l[off]? = some b) : Tri P o σ [(id, .barr e l ts)] (.d (.v (.int .u8 b.toNat))) [] :=
  .val fun _ g objs ac w hrp hp hw => by
    have e1 := hrp x (by rw [ho]; simp [Op.operands])
    rw [hx] at e1
    generalize he : ac.eval x = y at e1
    cases e1 with
    | ref ha =>
      have hu := barr_cell8 hw (hp _ (List.mem_singleton.2 rfl)) hb
      exact ⟨_, by unfold execOp; rw [ho]; simp [he, load_run ht hu], rep_v rfl⟩
theorem t_load_bt {t : TypeId} {x : Operand} {k id off e j : Nat} {l : List UInt8} {ts : List T} {v : T} (ho : o.op = .load t x) (ht : aggOf? P t = some (false, k)) (hx : opT σ x = .ref id off) (hj : off = l.length + j) (hv : ts[j]? = some v) : Tri P o σ [(id, .barr e l ts)] v [] :=
  .val fun _ g objs ac w hrp hp hw => by
    have e1 := hrp x (by rw [ho]; simp [Op.operands])
    rw [hx] at e1
    generalize he : ac.eval x = y at e1
    cases e1 with
    | ref ha =>
      obtain ⟨u, hu, hru⟩ := barr_cellT hw (hp _ (List.mem_singleton.2 rfl)) hv
      rw [← hj] at hu
      exact ⟨u, by unfold execOp; rw [ho]; simp [he, load_run ht hu], hru⟩
theorem WI.storeB {g : Gh} {w w' : World} {id e : Nat} {l l' : List UInt8} {ts ts' : List T} {xs' : List Value} (hw : WI Γ g objs w) (ho : objs id = some (.barr e l ts)) (h2 : w'.heap[g.blk id]? = some (.cells (bytV l' ++ xs').toArray e (0, 0))) (hg : w.grownBy w' (some (g.blk id)))
    (hr : Reps g ts' xs') (h1 : ∀ x ∈ xs', x.oneCell' = true) : WI Γ g (ovr objs [(id, .barr e l' ts')]) w' := by
  obtain ⟨xs, a0, a1, a2, a3, a4, a5⟩ := hw.obj id _ ho
  have hblk : ∀ k, k < w.heap.size → k ≠ g.blk id → w'.heap[k]? = w.heap[k]? := fun k hk hne => hg.block k hk fun e1 => hne (by simpa using e1)
  have back : ∀ (i : Nat) (oi : GObj), ovr objs [(id, .barr e l' ts')] i = some oi → (i = id ∧ oi = .barr e l' ts') ∨ (i ≠ id ∧ objs i = some oi) := by
    intro i oi h
    by_cases hid : i = id
    · subst hid; left; simp [ovr] at h; exact ⟨rfl, h.symm⟩
    · have : (i == id) = false := by simpa using hid
      exact .inr ⟨hid, by simpa [ovr, List.lookup, this] using h⟩
  refine ⟨fun b o x h => ?_, fun i oi hi => ?_, fun i j oi oj b h3 h4 h5 h6 => ?_, ?_, hw.old, hw.ext⟩
  · have hb : b ≠ g.blk id := fun e1 => by rw [e1, a5 o] at h; cases h
    have hlt := World.block_lt_of_cell? w ⟨b, o, none⟩ (hw.imm b o x h)
    rw [World.cell?_of_block (w := w) (hblk b hlt hb)]
    exact hw.imm b o x h
  · rcases back i oi hi with ⟨rfl, rfl⟩ | ⟨hne, hi'⟩
    · exact ⟨xs', a0, a1, h2, hr, h1, a5⟩
    · have h3 := hw.obj i oi hi'
      refine h3.same (GLe.refl (fun _ => True) g) rfl rfl rfl (fun _ _ => trivial) fun b hb => ⟨hblk b (h3.blk_lt hb) fun e1 => hne (hw.apart i id _ _ b hi' ho hb e1.symm), fun _ => rfl⟩
  · have key : ∀ (i : Nat) (oi : GObj), ovr objs [(id, .barr e l' ts')] i = some oi → oi.blk g i b → ∃ oi', objs i = some oi' ∧ oi'.blk g i b := fun i oi hi hb => by
      rcases back i oi hi with ⟨rfl, rfl⟩ | ⟨-, hi'⟩
      · exact ⟨_, ho, hb⟩
      · exact ⟨oi, hi', hb⟩
    obtain ⟨oi', c1, c2⟩ := key i oi h3 h5
    obtain ⟨oj', c3, c4⟩ := key j oj h4 h6
    exact hw.apart i j oi' oj' b c1 c3 c2 c4
  · refine ⟨hg.os.trans hw.fr.os, hg.tape.trans hw.fr.tape, hg.output.trans hw.fr.output, Nat.le_trans hw.fr.size hg.size, fun k hk hx => ?_⟩
    refine (hblk k (Nat.lt_of_lt_of_le hk hw.fr.size) fun e1 => ?_).trans (hw.fr.block k hk hx)
    subst e1
    rcases a1 with h | h
    · omega
    · exact hx h
theorem set_tk {α : Type} {l : List α} {i : Nat} {a : α} (h : i < l.length) : l.take i ++ [a] ++ l.drop (i + 1) = l.set i a := by
  rw [List.set_eq_take_append_cons_drop, if_pos h]; simp
theorem t_store_b8 {t : TypeId} {x v : Operand} {bb : Bool} {id off e : Nat} {l : List UInt8} {ts : List T} {b : UInt8} (ho : o.op = .store t x v) (hx : opT σ x = .ref id off) (hv : opT σ v = .d (.v (.int .u8 b.toNat))) (ht : aggOf? P t = some (bb, 1)) (hl : off < l.length) :
    Tri P o σ [(id, .barr e l ts)] .und [(id, .barr e (l.set off b) ts)] := by
  intro Γ g objs a w Q hr hp hw
  have e1 := rep_op hr (x := x) (by rw [ho]; simp [Op.operands])
  have e2 := rep_op hr (x := v) (by rw [ho]; simp [Op.operands])
  rw [hx] at e1
  rw [hv] at e2
  have e3 := inv_v e2
  have hid := hp _ (List.mem_singleton.2 rfl)
  obtain ⟨xs, a0, a1, a2, a3, a4, a5⟩ := hw.obj id _ hid
  generalize hy : a.eval x = y at e1
  cases e1 with
  | ref ha =>
    have hcs : (a.eval v).cells.toList = [.int .u8 b.toNat] := by rw [e3]; rfl
    obtain ⟨w', r1, r2, r3, -⟩ := store_run (P := P) (off := off) (a.eval v).cells.toList 0 w (bytV l ++ xs) a2 (by rw [hcs, List.length_append, bytV_len, List.length_singleton]; omega) (by rw [hcs]; intro u hu; rw [List.mem_singleton.1 hu]; rfl)
    have hrun : (Instr.storeAt t (.pointer (some ⟨g.blk id, off, none⟩)) (a.eval v)).run P w = .ok () w' := by
      have hsz : (a.eval v).cells.size = 1 := by rw [← Array.length_toList, hcs]; rfl
      simp only [Instr.storeAt, Instr.sureAddr, storeVar, Sem.run_bind, Sem.run_pure, Result.andThen_ok, (agg_spec ht w).2, hsz, ne_eq, not_true_eq_false, if_false, r1]
    unfold Oper.wp execOp
    simp only [ho, hy, Sem.run_bind, hrun, Result.andThen_ok, Sem.run_pure]
    rw [hcs, Nat.add_zero, List.length_singleton, set_tk (by rw [List.length_append, bytV_len]; omega), List.set_append_left _ _ (by rw [bytV_len]; exact hl)] at r2
    have hset : (bytV l).set off (.int .u8 b.toNat) = bytV (l.set off b) := by unfold bytV; rw [List.map_set]
    rw [hset] at r2
    exact ⟨g, undef, rfl, GLe.refl _ _, .und, hw.storeB hid r2 r3 a3 a4⟩
theorem t_store_bt {t : TypeId} {x v : Operand} {bb : Bool} {id off e j : Nat} {l : List UInt8} {ts cv : List T} {tv : T} (ho : o.op = .store t x v) (hx : opT σ x = .ref id off) (hj : off = l.length + j) (hv : TLe (opT σ v) tv) (hc : tv.cv = some cv) (ht : aggOf? P t = some (bb, cv.length)) (hl : j + cv.length ≤ ts.length) :
    Tri P o σ [(id, .barr e l ts)] .und [(id, .barr e l (ts.take j ++ cv ++ ts.drop (j + cv.length)))] := by
  subst hj
  intro Γ g objs a w Q hr hp hw
  have e1 := rep_op hr (x := x) (by rw [ho]; simp [Op.operands])
  have e2 := hv g _ (rep_op hr (x := v) (by rw [ho]; simp [Op.operands]))
  rw [hx] at e1
  have hid := hp _ (List.mem_singleton.2 rfl)
  obtain ⟨xs, a0, a1, a2, a3, a4, a5⟩ := hw.obj id _ hid
  obtain ⟨c1, c2⟩ := cv_spec hc e2
  have hcl := c1.len
  have hxl := a3.len
  generalize hy : a.eval x = y at e1
  cases e1 with
  | ref ha =>
    obtain ⟨w', r1, r2, r3, -⟩ := store_run (P := P) (off := l.length + j) (a.eval v).cells.toList 0 w (bytV l ++ xs) a2 (by rw [hcl, List.length_append, bytV_len, hxl]; omega) c2
    have hrun : (Instr.storeAt t (.pointer (some ⟨g.blk id, l.length + j, none⟩)) (a.eval v)).run P w = .ok () w' := by
      have hsz : (a.eval v).cells.size = cv.length := by rw [← Array.length_toList, hcl]
      simp only [Instr.storeAt, Instr.sureAddr, storeVar, Sem.run_bind, Sem.run_pure, Result.andThen_ok, (agg_spec ht w).2, hsz, ne_eq, not_true_eq_false, if_false, r1]
    unfold Oper.wp execOp
    simp only [ho, hy, Sem.run_bind, hrun, Result.andThen_ok, Sem.run_pure]
    have k1 : (bytV l ++ xs).take (l.length + j) = bytV l ++ xs.take j := by
      rw [List.take_append, bytV_len, List.take_of_length_le (by rw [bytV_len]; omega), show l.length + j - l.length = j by omega]
    have k2 : (bytV l ++ xs).drop (l.length + j + cv.length) = xs.drop (j + cv.length) := by
      rw [List.drop_append, bytV_len, List.drop_of_length_le (by rw [bytV_len]; omega), show l.length + j + cv.length - l.length = j + cv.length by omega, List.nil_append]
    rw [Nat.add_zero, hcl, k1, k2, List.append_assoc, List.append_assoc, ← List.append_assoc (xs.take j)] at r2
    have hnew := ((a3.take j).app c1).app (a3.drop (j + cv.length))
    exact ⟨g, undef, rfl, GLe.refl _ _, .und, hw.storeB hid r2 r3 hnew (fun u hu => by
      rcases List.mem_append.1 hu with hu | hu
      · rcases List.mem_append.1 hu with hu | hu
        · exact a4 u (List.mem_of_mem_take hu)
        · exact c2 u hu
      · exact a4 u (List.mem_of_mem_drop hu))⟩
/-- The beginning of an array, as a slice that reads it. -/
theorem t_slice_arr {t : TypeId} {x : Operand} {lo hi : Option Operand} {n k id b : Nat} (ho : o.op = .slice t x lo hi none) (ht : arrOf? P t = some (n, k)) (hx : opT σ x = .ref id 0) (hlo : Lo σ lo 0) (hhi : Hi σ n hi b) (h2 : b ≤ n) (h3 : n ≤ 9223372036854775807) : Tri P o σ [] (.mrow id b) [] :=
  .val fun _ g _ ac w hrp _ _ => by
    have e1 := hrp x (by rw [ho]; simp [Op.operands])
    rw [hx] at e1
    obtain ⟨e, inf, hu, hinf, hsz⟩ := arr_spec ht
    have hB := bounds_run (P := P) (isS := false) (w := w) (cap := n) hlo hhi (Nat.zero_le _) h2 (Nat.le_refl _) (fun y hy => hrp y (by rw [ho]; rcases hy with rfl | rfl <;> simp [Op.operands]))
    generalize he : ac.eval x = y at e1
    cases e1 with
    | ref ha =>
      refine ⟨.slice (some ⟨g.blk id, 0, none⟩) b n, ?_, .mrow ha h2 h3⟩
      unfold execOp; rw [ho]
      simp only [he, Instr.sliceAt, Instr.sureAddr, Sem.run_bind, run_underlying hu, Result.andThen_ok, Option.map_none, hB, sizeOf, typeInfo, Sem.run_pure]
      simp [hinf, Addr.add]
/-- An object seen otherwise. -/
theorem WI.swap {g : Gh} {w : World} {c : Nat} {ob ob' : GObj} (h : WI Γ g (ovr objs [(c, ob)]) w) (h1 : ObjAt Γ g w c ob → ObjAt Γ g w c ob') (h2 : ∀ b, ob'.blk g c b → ob.blk g c b) : WI Γ g (ovr objs [(c, ob')]) w := by
  have key : ∀ (i : Nat) (oi : GObj), ovr objs [(c, ob')] i = some oi → (i = c ∧ oi = ob') ∨ (i ≠ c ∧ ovr objs [(c, ob)] i = some oi) := by
    intro i oi h
    by_cases hid : i = c
    · subst hid; left; simp [ovr] at h; exact ⟨rfl, h.symm⟩
    · have : (i == c) = false := by simpa using hid
      exact .inr ⟨hid, by simpa [ovr, List.lookup, this] using h⟩
  have hc : ovr objs [(c, ob)] c = some ob := by simp [ovr]
  refine ⟨h.imm, fun i oi hi => ?_, fun i j oi oj b a1 a2 a3 a4 => ?_, h.fr, h.old, h.ext⟩
  · rcases key i oi hi with ⟨rfl, rfl⟩ | ⟨-, hi⟩
    · exact h1 (h.obj _ _ hc)
    · exact h.obj i oi hi
  · have k2 : ∀ (i : Nat) (oi : GObj), ovr objs [(c, ob')] i = some oi → oi.blk g i b → ∃ oi', ovr objs [(c, ob)] i = some oi' ∧ oi'.blk g i b := fun i oi hi hb => by
      rcases key i oi hi with ⟨rfl, rfl⟩ | ⟨-, hi⟩
      · exact ⟨_, hc, h2 b hb⟩
      · exact ⟨_, hi, hb⟩
    obtain ⟨_, c1, c2⟩ := k2 i oi a1 a3
    obtain ⟨_, c3, c4⟩ := k2 j oj a2 a4
    exact h.apart i j _ _ b c1 c3 c2 c4
theorem reps_left {g : Gh} : ∀ {vs : List Value} {xs : List Value} {ts : List T}, Reps g (vs.map (fun x => .d (.v x)) ++ ts) xs → ∃ ys, xs = vs ++ ys ∧ Reps g ts ys
  | [], xs, ts, h => ⟨xs, rfl, h⟩
  | v :: vs, _, ts, .cons h1 h2 => by
    obtain ⟨ys, rfl, h3⟩ := reps_left h2
    exact ⟨ys, by rw [inv_v h1]; rfl, h3⟩
theorem t_alloc_barr {e c : Nat} {l : List UInt8} {vs : List Value} (ho : o.op = .alloc e) (hz : zeroOf? P e = some (bytV l ++ vs)) : Tri P o σ [(c, .vac)] (.ref c 0) [(c, .barr e l (vs.map fun x => .d (.v x)))] := by
  have h := t_alloc (P := P) (σ := σ) (c := c) ho hz
  intro Γ g objs a w Q hr hp hw
  refine Oper.wp_mono (fun _ _ ⟨g', x, e1, k1, k2, k3⟩ => ⟨g', x, e1, k1, k2, k3.swap (fun ⟨xs, a0, a1, a2, a3, a4, a5⟩ => ?_) fun b hb => hb⟩) (h Γ g objs a w Q hr hp hw)
  rw [List.map_append] at a3
  obtain ⟨ys, rfl, a6⟩ := reps_left a3
  exact ⟨ys, a0, a1, a2, a6, fun x hx => a4 x (List.mem_append.2 (.inr hx)), a5⟩
end
end Go.Proofs.YtngklbnodknadaaGreatDoor
end
