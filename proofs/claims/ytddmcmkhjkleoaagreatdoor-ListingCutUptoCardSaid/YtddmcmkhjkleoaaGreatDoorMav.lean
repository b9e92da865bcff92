/-
  Rk, Rl, Rg, in one.
-/
import Derived.Test.YtddmcmkhjkleoaaGreatDoorMal
import Derived.Test.YtddmcmkhjkleoaaGreatDoorMau
import Derived.Test.YtddmcmkhjkleoaaGreatDoorMat
import Derived.Test.YtddmcmkhjkleoaaGreatDoorMap
section
namespace Go.Proofs.YtddmcmkhjkleoaaGreatDoor
open Go.RowKit

theorem reps_app' {g : Gh} : ∀ {l m : List T} {xs ys : List Value}, Reps g l xs → Reps g m ys → Reps g (l ++ m) (xs ++ ys)
  | _, _, _, _, .nil, h => h
  | _, _, _, _, .cons h ht, h' => .cons h (reps_app' ht h')
theorem reps_split {g : Gh} : ∀ {l m : List T} {zs : List Value}, Reps g (l ++ m) zs → ∃ xs ys, zs = xs ++ ys ∧ Reps g l xs ∧ Reps g m ys
  | [], _, zs, h => ⟨[], zs, rfl, .nil, h⟩
  | _ :: _, _, _, .cons h ht => by
    obtain ⟨xs, ys, rfl, h1, h2⟩ := reps_split ht
    exact ⟨_ :: xs, ys, rfl, .cons h h1, h2⟩
theorem cells_rdr {Γ : Cx} {g : Gh} {w : World} {id e : Nat} {ts : List T} {b : Bool} (h : ObjAt Γ g w id (.cells e (ts ++ [boolT b]))) : ObjAt Γ g w id (.rdr e ts) := by
  obtain ⟨xs, a0, a1, a2, a3, a4, a5⟩ := h
  obtain ⟨ys, zs, rfl, h1, h2⟩ := reps_split a3
  cases h2 with | cons h2 h3 =>
  cases h3
  cases inv_v h2
  exact ⟨ys, b, by omega, a1, a2, h1, fun x hx => a4 x (List.mem_append_left _ hx), fun h => by omega, a5⟩
/-- Under any length of the name. -/
theorem rdr_cells {Γ Γ' : Cx} {g : Gh} {w : World} {id e : Nat} {ts : List T} {v : Value} (h : ObjAt Γ g w id (.rdr e ts)) (hM : ∀ b, Mine Γ b → b = g.blk id → Mine Γ' b) (hts : T.hass id ts = false) : ∃ b, ObjAt Γ' (setL g id 1 v) w id (.cells e (ts ++ [boolT b])) ∧ (2 ≤ g.len id → b = true) := by
  obtain ⟨xs, b, a0, a1, a2, a3, a4, a6, a5⟩ := h
  have hle : GLe (fun j => j ≠ id) g (setL g id 1 v) := ⟨SLe.refl _, fun _ _ _ => rfl, fun j h => by simp [setL, h], fun j h _ => by simp [setL, h]⟩
  refine ⟨b, ⟨xs ++ [Value.bool b], by simp [setL], hM _ a1 rfl, a2, reps_app' (a3.mono hle fun j hj e => by (subst e; rw [hts] at hj; cases hj)) (.cons (.d (.v rfl)) .nil), fun x hx => ?_, a5⟩, a6⟩
  rcases List.mem_append.1 hx with h | h
  · exact a4 x h
  · rw [List.mem_singleton.1 h]; rfl
theorem rdr_relen {Γ : Cx} {g : Gh} {w : World} {id e n : Nat} {v : Value} {ts : List T} {b : Bool} (h : ObjAt Γ g w id (.cells e (ts ++ [boolT b]))) (hn : 1 ≤ n) (hf : 2 ≤ n → b = true) (hts : T.hass id ts = false) : ObjAt Γ (setL g id n v) w id (.rdr e ts) := by
  obtain ⟨xs, a0, a1, a2, a3, a4, a5⟩ := h
  obtain ⟨ys, zs, rfl, h1, h2⟩ := reps_split a3
  cases h2 with | cons h2 h3 =>
  cases h3
  cases inv_v h2
  have hle : GLe (fun j => j ≠ id) g (setL g id n v) := ⟨SLe.refl _, fun _ _ _ => rfl, fun j h => by simp [setL, h], fun j h _ => by simp [setL, h]⟩
  exact ⟨ys, b, by simpa [setL] using hn, a1, a2, h1.mono hle fun j hj e => by (subst e; rw [hts] at hj; cases hj), fun x hx => a4 x (List.mem_append_left _ hx), by simpa [setL] using hf, a5⟩
/-- Of another beginning. -/
theorem WI.base {Γ Γ' : Cx} {g : Gh} {objs : Objs} {w : World} (hX : Γ.X = Γ'.X) (h0 : Γ.w0 = Γ'.w0) (hS : Γ.g0.S = Γ'.g0.S) (hext : GLe Γ'.A Γ'.g0 g) (h : WI Γ g objs w) (hobj : ∀ id ob, objs id = some ob → ObjAt Γ' g w id ob) : WI Γ' g objs w := by
  obtain ⟨X, w0, g0, A, t1, t2, ds⟩ := Γ
  obtain ⟨X', w0', g0', A', t1', t2', ds'⟩ := Γ'
  dsimp only at hX h0 hS hext
  subst hX h0
  exact ⟨h.imm, hobj, h.apart, ⟨h.fr.os, h.fr.tape, h.fr.output, h.fr.size, h.fr.block⟩, fun b o hb hx => (h.old b o hb hx).trans (by show g0.S b o = g0'.S b o; rw [hS]), hext⟩
theorem ObjAt.cx {Γ Γ' : Cx} {g : Gh} {w : World} {id : Nat} {ob : GObj} (hX : Γ.X = Γ'.X) (h0 : Γ.w0 = Γ'.w0) (h : ObjAt Γ g w id ob) : ObjAt Γ' g w id ob := by
  obtain ⟨X, w0, g0, A, t1, t2, ds⟩ := Γ
  obtain ⟨X', w0', g0', A', t1', t2', ds'⟩ := Γ'
  dsimp only at hX h0
  subst hX h0
  cases ob <;> exact h
/-- Whom nobody looks after. -/
def Cx.free (Γ : Cx) : Cx := ⟨Γ.X, Γ.w0, Γ.g0, fun _ => False, Γ.tab, Γ.tabX, Γ.ds⟩
theorem GLe.no {g g' : Gh} (h : SLe g.S g'.S) : GLe (fun _ => False) g g' := ⟨h, fun _ h => h.elim, fun _ h => h.elim, fun _ h => h.elim⟩
theorem WI.to {Γ Γ' : Cx} {g : Gh} {objs : Objs} {w : World} (hX : Γ.X = Γ'.X) (h0 : Γ.w0 = Γ'.w0) (hS : Γ.g0.S = Γ'.g0.S) (hext : GLe Γ'.A Γ'.g0 g) (h : WI Γ g objs w) : WI Γ' g objs w :=
  WI.base hX h0 hS hext h fun id ob ho => (h.obj id ob ho).cx hX h0
theorem WI.addS {Γ : Cx} {g : Gh} {w : World} {z c : Nat} {l : Ob} (hw : WI Γ g (objL l) w) (hA : ¬ Γ.A z) (hzc : z ≠ c) (hsp : speaks z l = false) (hz : objL l z = none) (h2 : 2 ≤ g.len c) : WI Γ (setL g z 1 undef) (objL ((z, .seen c) :: l)) w := by
  have hle : GLe (fun j => j ≠ z) g (setL g z 1 undef) := ⟨SLe.refl _, fun _ _ _ => rfl, fun j h => by simp [setL, h], fun j h _ => by simp [setL, h]⟩
  refine ⟨hw.imm, fun id ob h => ?_, fun j k oj ok bb h1 h2 h3 h4 => ?_, hw.fr, hw.old, hw.ext.trans (hle.weak fun j hj e => hA (e ▸ hj))⟩
  · rcases objL_cons h with ⟨rfl, rfl⟩ | ⟨h1, h3⟩
    · exact ⟨by simp [setL], by simpa [setL, Ne.symm hzc] using h2⟩
    · refine (hw.obj id ob h3).same (A := fun j => j ≠ z) hle rfl (by simp [setL, h1]) (by simp [setL, h1]) (fun j hj e => ?_) fun _ _ => ⟨rfl, fun _ => rfl⟩
      subst e
      have : speaks j l = true := List.any_eq_true.2 ⟨_, objL_mem h3, hj⟩
      rw [hsp] at this; cases this
  · have tr : ∀ j oj, objL ((z, GObj.seen c) :: l) j = some oj → oj.blk (setL g z 1 undef) j bb → objL l j = some oj ∧ oj.blk g j bb := fun j oj h hk => by
      rcases objL_cons h with ⟨rfl, rfl⟩ | ⟨h1, h2⟩
      · cases hk
      · exact ⟨h2, by rw [← blk_same (g := g) (g' := setL g z 1 undef) rfl (by simp [setL, h1]) oj]; exact hk⟩
    obtain ⟨e1, e2⟩ := tr j oj h1 h3
    obtain ⟨e3, e4⟩ := tr k ok h2 h4
    exact hw.apart j k oj ok bb e1 e3 e2 e4
section
variable (w : List UInt8) (hw : w.length ≤ 1000000000) (v1 : Nat) (dn : List D) (ts : List T) (cs tx : List D) (M : List (Value × D)) (v2 : Nat) (ca : List D) (v3 : Nat) (co : List D) (hts : Shape v2 v3 ts)
include hw hts
theorem number_rdr {w0 : World} {g : Gh} {vs : List Value} (ht : TabsIn w0) (hx : ∀ p ∈ tabs, ¬ lentX g (RR v1 dn ts cs tx M v2 ca v3 co) p.1) (hwi : WI (cxO w0 g (RR v1 dn ts cs tx M v2 ca v3 co) ht hx) g (objL (RR v1 dn ts cs tx M v2 ca v3 co)) w0) (hr : Reps g [.ref 1000 0, strT w] vs) :
    Calls Tryz.prog 74 vs.toArray w0 fun e w' => ∃ v g' b, e = .returned v ∧ RepT g' (intT (numV w)) v ∧ (2 ≤ g.len 1000 → b = true) ∧ (∀ n y, 1 ≤ n → g.len 1000 ≤ n → (n = g.len 1000 → y = g.row 1000) → (2 ≤ n → (b || numB w) = true) → WI (cxO w0 g (RR v1 dn ts cs tx M v2 ca v3 co) ht hx) (setL g' 1000 n y) (objL (RR v1 dn ts cs tx M v2 ca v3 co)) w') := by
  obtain ⟨b, hc, hf⟩ := rdr_cells (Γ' := (cxO w0 g (RR v1 dn ts cs tx M v2 ca v3 co) ht hx).free) (v := g.row 1000) (hwi.obj 1000 _ (objL_head _ _ _)) (fun _ h _ => h) rfl
  have hl1 := lent_eq (g := g) (i := 1000) (a := .rdr 63 (rdT v1 cs tx)) (b := .cells 63 (rdT v1 cs tx ++ [boolT b])) (tl := ROt v1 dn ts cs tx M v2 ca v3 co) fun _ => Iff.rfl
  have hl2 : lentX g (RO v1 dn ts cs tx M v2 ca v3 co b) = lentX (setL g 1000 1 (g.row 1000)) (RO v1 dn ts cs tx M v2 ca v3 co b) := by
    funext k
    refine propext ⟨?_, ?_⟩ <;> rintro ⟨j, ob, h1, h2⟩ <;> refine ⟨j, ob, h1, ?_⟩
    · rw [blk_same (g := g) (g' := setL g 1000 1 (g.row 1000)) rfl (by simp only [setL]; split <;> simp_all)]; exact h2
    · rw [blk_same (g := g) (g' := setL g 1000 1 (g.row 1000)) rfl (by simp only [setL]; split <;> simp_all)] at h2; exact h2
  have hl := hl1.trans hl2
  have hn := names_eq (i := 1000) (a := .rdr 63 (rdT v1 cs tx)) (b := .cells 63 (rdT v1 cs tx ++ [boolT b])) (tl := ROt v1 dn ts cs tx M v2 ca v3 co)
  have hx1 : ∀ p ∈ tabs, ¬ lentX (setL g 1000 1 (g.row 1000)) (RO v1 dn ts cs tx M v2 ca v3 co b) p.1 := fun p hp h => hx p hp (by rw [hl]; exact h)
  have hwf : WI (cxO w0 g (RR v1 dn ts cs tx M v2 ca v3 co) ht hx).free g (objL (RR v1 dn ts cs tx M v2 ca v3 co)) w0 := WI.to (Γ := cxO w0 g (RR v1 dn ts cs tx M v2 ca v3 co) ht hx) rfl rfl rfl (GLe.no (SLe.refl _)) hwi
  have hw1 : WI (cxO w0 g (RR v1 dn ts cs tx M v2 ca v3 co) ht hx).free (setL g 1000 1 (g.row 1000)) (objL (RO v1 dn ts cs tx M v2 ca v3 co b)) w0 := hwf.relen (speaks_no hts) hc (fun _ h => h) (GLe.no (SLe.refl _))
  have hw2 : WI (cxO w0 (setL g 1000 1 (g.row 1000)) (RO v1 dn ts cs tx M v2 ca v3 co b) ht hx1) (setL g 1000 1 (g.row 1000)) (objL (RO v1 dn ts cs tx M v2 ca v3 co b)) w0 := WI.to (Γ := (cxO w0 g (RR v1 dn ts cs tx M v2 ca v3 co) ht hx).free) hl rfl rfl (GLe.refl _ _) hw1
  have hr2 : Reps (setL g 1000 1 (g.row 1000)) [.ref 1000 0, strT w] vs := by
    cases hr with | cons q1 hr => cases hr with | cons q2 hr =>
    cases hr
    cases q1
    cases inv_v q2
    exact .cons (.ref (by simp [setL])) (.cons (.d (.v rfl)) .nil)
  refine ((number_fn w hw v1 dn ts cs tx M v2 ca v3 co b hts) w0 _ vs ht hx1 hw2 hr2).mono ?_
  rintro e w' ⟨v, g', he, hv, hw3⟩
  refine ⟨v, g', b, he, hv, hf, fun n y hn1 hn2 hn3 hn4 => ?_⟩
  have hw4 : WI (cxO w0 g (RR v1 dn ts cs tx M v2 ca v3 co) ht hx).free g' (objL (RO v1 dn ts cs tx M v2 ca v3 co (b || numB w))) w' := WI.to (Γ := cxO w0 (setL g 1000 1 (g.row 1000)) (RO v1 dn ts cs tx M v2 ca v3 co b) ht hx1) hl.symm rfl rfl (GLe.no hw3.ext.S) hw3
  have hw5 : WI (cxO w0 g (RR v1 dn ts cs tx M v2 ca v3 co) ht hx).free (setL g' 1000 n y) (objL (RR v1 dn ts cs tx M v2 ca v3 co)) w' := hw4.relen (speaks_no hts) (rdr_relen (ts := rdT v1 cs tx) (b := b || numB w) (hw4.obj 1000 _ (objL_head _ _ _)) hn1 hn4 rfl) (fun _ h => h) (GLe.no hw3.ext.S)
  have hA : ∀ j, (cxO w0 g (RR v1 dn ts cs tx M v2 ca v3 co) ht hx).A j → (cxO w0 (setL g 1000 1 (g.row 1000)) (RO v1 dn ts cs tx M v2 ca v3 co b) ht hx1).A j := fun j h => by
    have := congrFun hn j
    exact this.mp h
  refine WI.to (Γ := (cxO w0 g (RR v1 dn ts cs tx M v2 ca v3 co) ht hx).free) rfl rfl rfl ⟨hw3.ext.S, fun j hj h1 => ?_, fun j hj => ?_, fun j hj h1 => ?_⟩ hw5
  · refine hw3.ext.blk j (hA j hj) ?_
    show 1 ≤ (setL g 1000 1 (g.row 1000)).len j
    have h1 : 1 ≤ g.len j := h1
    simp only [setL]; split <;> omega
  · show g.len j ≤ (setL g' 1000 n y).len j
    have h2 := hw3.ext.len j (hA j hj)
    have h2 : (setL g 1000 1 (g.row 1000)).len j ≤ g'.len j := h2
    simp only [setL] at h2 ⊢
    by_cases e : j = 1000
    · subst e; rw [if_pos rfl]; exact hn2
    · rw [if_neg e] at h2 ⊢; exact h2
  · show (setL g' 1000 n y).row j = g.row j
    have h1 : (setL g' 1000 n y).len j = g.len j := h1
    simp only [setL] at h1 ⊢
    by_cases e : j = 1000
    · subst e; rw [if_pos rfl] at h1 ⊢; exact hn3 h1
    · rw [if_neg e] at h1 ⊢
      have h2 := hw3.ext.row j (hA j hj) (by show g'.len j = (setL g 1000 1 (g.row 1000)).len j; simp only [setL, if_neg e]; exact h1)
      have h2 : g'.row j = (setL g 1000 1 (g.row 1000)).row j := h2
      simpa only [setL, if_neg e] using h2
theorem number_good (hB : numB w = false) : FnO Tryz.prog 74 [.ref 1000 0, strT w] (RR v1 dn ts cs tx M v2 ca v3 co) (intT (numV w)) (RR v1 dn ts cs tx M v2 ca v3 co) := by
  intro w0 g vs ht hx hwi hr
  refine (number_rdr w hw v1 dn ts cs tx M v2 ca v3 co hts ht hx hwi hr).mono ?_
  rintro e w' ⟨v, g', b, he, hv, hf, hk⟩
  have hlen : 1 ≤ g.len 1000 := by obtain ⟨_, _, h, -⟩ := hwi.obj 1000 _ (objL_head _ _ _); exact h
  rw [hB, Bool.or_false] at hk
  refine ⟨v, _, he, ?_, hk (g.len 1000) (g.row 1000) hlen (Nat.le_refl _) (fun _ => rfl) hf⟩
  cases hv with | d h => cases h with | v h => exact .d (.v h)
theorem number_bad (hB : numB w = true) : FnO Tryz.prog 74 [.ref 1000 0, strT w] (RR v1 dn ts cs tx M v2 ca v3 co) (intT (numV w)) ((1007, .seen 1000) :: RR v1 dn ts cs tx M v2 ca v3 co) := by
  intro w0 g vs ht hx hwi hr
  refine (number_rdr w hw v1 dn ts cs tx M v2 ca v3 co hts ht hx hwi hr).mono ?_
  rintro e w' ⟨v, g', b, he, hv, hf, hk⟩
  have hlen : 1 ≤ g.len 1000 := by obtain ⟨_, _, h, -⟩ := hwi.obj 1000 _ (objL_head _ _ _); exact h
  rw [hB, Bool.or_true] at hk
  have hw5 := hk (g.len 1000 + 1) undef (by omega) (by omega) (fun h => by omega) (fun _ => rfl)
  refine ⟨v, _, he, ?_, hw5.addS (z := 1007) (c := 1000) ?_ (by decide) ?_ rfl (by simp [setL]; omega)⟩
  · cases hv with | d h => cases h with | v h => exact .d (.v h)
  · rintro ⟨ob, h⟩
    cases h
  · rcases hts with rfl | ⟨p, r, g, rfl⟩ <;> rfl
end
section
variable {P : Program} {o : Oper} {σ : Nat → T}
/-- From here on the flag stays. -/
theorem t_to_rdr {x : Operand} {id e : Nat} {ts : List T} {b : Bool} {v : T} (ho : o.op = .move x) (hx : TLe (opT σ x) v) : Tri P o σ [(id, .cells e (ts ++ [boolT b]))] v [(id, .rdr e ts)] := by
  intro Γ g objs a w Q hr hp hw
  have e1 := hx g _ (rep_op hr (x := x) (by rw [ho]; simp [Op.operands]))
  have hid := hp _ (List.mem_singleton.2 rfl)
  unfold Oper.wp execOp
  rw [ho]
  refine ⟨g, _, rfl, GLe.refl _ _, e1, hw.imm, fun i ob hi => ?_, fun i j oi oj b h1 h2 h3 h4 => ?_, hw.fr, hw.old, hw.ext⟩
  · rw [ovr_one] at hi
    split at hi
    · next e0 => cases hi; subst e0; exact cells_rdr (hw.obj _ _ hid)
    · exact hw.obj i ob hi
  · have tr : ∀ i oi, ovr objs [(id, .rdr e ts)] i = some oi → oi.blk g i b → ∃ o', objs i = some o' ∧ o'.blk g i b := fun i oi hi hb => by
      rw [ovr_one] at hi
      split at hi
      · next e0 => cases hi; subst e0; exact ⟨_, hid, hb⟩
      · exact ⟨oi, hi, hb⟩
    obtain ⟨o1, e1, e2⟩ := tr i oi h1 h3
    obtain ⟨o2, e3, e4⟩ := tr j oj h2 h4
    exact hw.apart i j o1 o2 b e1 e3 e2 e4
theorem t_rdr_load {t id e off c : Nat} {x : Operand} {ts : List T} {u : T} (ho : o.op = .load t x) (ht : aggOf? P t = some (false, c)) (hx : opT σ x = .ref id off) (hu : ts[off]? = some u) : Tri P o σ [(id, .rdr e ts)] u [] :=
  .val fun Γ g objs ac w hrp hp hw => by
    have e1 := hrp x (by rw [ho]; simp [Op.operands])
    rw [hx] at e1
    obtain ⟨xs, b, a0, a1, a2, a3, a4, a6, a5⟩ := hw.obj id _ (hp _ (List.mem_singleton.2 rfl))
    generalize he : ac.eval x = y at e1
    cases e1 with
    | ref ha =>
      obtain ⟨z, hz, hzr⟩ := reps_at a3 hu
      have hlt := (List.getElem?_eq_some_iff.1 hz).1
      have hc : w.cell? ⟨g.blk id, off, none⟩ = some z := by
        simp only [World.cell?, a2]
        rw [List.getElem?_toArray, List.getElem?_append_left hlt]; exact hz
      exact ⟨z, by unfold execOp; rw [ho]; simp [he, load_run ht hc], hzr⟩
theorem t_rdr_bad {t id e z c : Nat} {x : Operand} {ts : List T} (ho : o.op = .load t x) (ht : aggOf? P t = some (false, c)) (hx : opT σ x = .ref id ts.length) : Tri P o σ [(id, .rdr e ts), (z, .seen id)] (boolT true) [] :=
  .val fun Γ g objs ac w hrp hp hw => by
    have e1 := hrp x (by rw [ho]; simp [Op.operands])
    rw [hx] at e1
    obtain ⟨xs, b, a0, a1, a2, a3, a4, a6, a5⟩ := hw.obj id _ (hp (id, .rdr e ts) (by simp))
    obtain ⟨-, hs⟩ := hw.obj z _ (hp (z, .seen id) (by simp))
    obtain rfl := a6 hs
    generalize he : ac.eval x = y at e1
    cases e1 with
    | ref ha =>
      have hxl := reps_len a3
      have hc : w.cell? ⟨g.blk id, ts.length, none⟩ = some (.bool true) := by
        simp only [World.cell?, a2]
        rw [List.getElem?_toArray, List.getElem?_append_right (by omega), hxl, Nat.sub_self]; rfl
      exact ⟨.bool true, by unfold execOp; rw [ho]; simp [he, load_run ht hc], .d (.v rfl)⟩
theorem t_rdr_store {t id e off c ver2 : Nat} {bb : Bool} {x v : Operand} {ts : List T} (ho : o.op = .store t x v) (ht : aggOf? P t = some (bb, 1)) (hx : opT σ x = .ref id off) (hv : opT σ v = .stk c ver2 .all) (hm : off < ts.length) : Tri P o σ [(id, .rdr e ts)] .und [(id, .rdr e (ts.set off (.stk c ver2 .all)))] := by
  intro Γ g objs a w Q hr hp hw
  have e1 := rep_op hr (x := x) (by rw [ho]; simp [Op.operands])
  have e2 := rep_op hr (x := v) (by rw [ho]; simp [Op.operands])
  rw [hx] at e1
  rw [hv] at e2
  have hid := hp _ (List.mem_singleton.2 rfl)
  obtain ⟨xs, b, a0, a1, a2, a3, a4, a6, a5⟩ := hw.obj id _ hid
  generalize hy2 : a.eval v = y2 at e2
  have hu1 : y2.oneCell' = true := by cases e2 with | stk h _ _ => exact h
  have hxl := reps_len a3
  generalize hy : a.eval x = y at e1
  cases e1 with
  | ref ha =>
    have hcl : y2.cells.toList = [y2] := by cases y2 <;> first | rfl | cases hu1
    obtain ⟨w', r1, r2, r3, -⟩ := store_run (P := P) (b := g.blk id) (off := off) (e := e) [y2] 0 w (xs ++ [.bool b]) a2 (by simp only [List.length_append, List.length_cons, List.length_nil]; omega) (by simpa using hu1)
    have hrun : (Instr.storeAt t (.pointer (some ⟨g.blk id, off, none⟩)) y2).run P w = .ok () w' := by
      have hsz : y2.cells.size = 1 := by rw [← Array.length_toList, hcl]; rfl
      simp only [Instr.storeAt, Instr.sureAddr, storeVar, Sem.run_bind, Sem.run_pure, Result.andThen_ok, (agg_spec ht w).2, hsz, ne_eq, not_true_eq_false, if_false, hcl, r1]
    unfold Oper.wp execOp
    simp only [ho, hy, hy2, Sem.run_bind, hrun, Result.andThen_ok, Sem.run_pure]
    have hset : (xs ++ [Value.bool b]).take (off + 0) ++ [y2] ++ (xs ++ [Value.bool b]).drop (off + 0 + [y2].length) = xs.set off y2 ++ [.bool b] := by
      rw [Nat.add_zero, List.length_singleton, set_parts _ _ _ (by simp only [List.length_append, List.length_cons, List.length_nil]; omega), List.set_append_left _ _ (by omega)]
    rw [hset] at r2
    refine ⟨g, undef, rfl, GLe.refl _ _, .und, hw.touch hid r3 rfl a5 ⟨xs.set off y2, b, a0, a1, r2, reps_set a3 e2, fun z hz => ?_, a6, a5⟩ fun b hb => hb⟩
    rcases List.mem_or_eq_of_mem_set hz with h | h
    · exact a4 z h
    · rw [h]; exact hu1
end
end Go.Proofs.YtddmcmkhjkleoaaGreatDoor
end

section
namespace Go.Proofs.YtddmcmkhjkleoaaGreatDoor
open Go.RowKit

set_option maxRecDepth 100000 in
set_option maxHeartbeats 1000000 in
theorem begin_bad1 (w0 w1 w2 : List UInt8) (h1 : w1.length ≤ 1000000000) (h2 : w2.length ≤ 1000000000) (v1 : Nat) (dn : List D) (ts : List T) (cs tx : List D) (M : List (Value × D)) (v2 : Nat) (ca : List D) (v3 : Nat) (co : List D) (hb : numB w1 = true) (hts : Shape v2 v3 ts) (hdn : dn.length ≤ 5000000) :
    FnO Tryz.prog 42 [.ref 1000 0, .d (txD [w0, w1, w2])] (RO v1 dn ts cs tx M v2 ca v3 co false) (.tup []) ((24, .seen 1000) :: (RR (v1 + 1) (dn ++ lastD ca co ts) (FnT (v2 + 1) (v3 + 1) (numV w1) (numV w2) (genB w0)) cs tx M (v2 + 1) [] (v3 + 1) [])) := by
  have hN1 := number_bad w1 h1 v1 dn ts cs tx M v2 ca v3 co hts hb
  have hfr : FrTs 1005 v2 1006 v3 ts := hts
  unfold genB
  cases hb2 : numB w2 with
  | false =>
    have hN2 := number_good w2 h2 v1 dn ts cs tx M v2 ca v3 co hts hb2
    generalize numV w1 = n1 at *
    generalize numV w2 = n2 at *
    rcases hts with rfl | ⟨fp, fr, fg, rfl⟩
    all_goals
      refine FnO.of0 (n := 36) [5030, 5004, 24] fax_ok Tryz.func42 rfl rfl rfl (by rfl) (by rfl) (by kernel_rfl) fun Γ hA hbA hbO => ?_
      skip
      refine gen_one (t_to_rdr (id := 1000) (e := 63) (ts := rdT v1 cs tx) (b := false) rfl (TLe.of_eq rfl)) rfl ?_
      (repeat ((conv => whnf); (first | refine exR ?_ | refine tF ?_)))
      refine gen_one (t_rdr_load (e := 63) (ts := rdT v1 cs tx) (c := 1) rfl (by kernel_rfl) rfl rfl) rfl ?_
      (repeat ((conv => whnf); (first | refine exR ?_ | refine gen_oP [(1007, 24), (1000, 1000), (1001, 1001), (1002, 1002), (1003, 1003), (1004, 1004), (1005, 1005), (1006, 1006)] 1 0 rfl (enters_of Tryz.func74 rfl rfl) (hN1) (by (repeat (first | exact TLes.nil | refine TLes.cons (TLe.of_eq rfl) ?_ | refine TLes.cons TLe.own ?_ | refine TLes.cons TLe.nil ?_)); (first | done | fail)) rfl (by (repeat (first | exact trivial | refine And.intro rfl ?_)); (first | done | fail)) rfl ?_ | refine gen_oP idR 0 0 rfl (enters_of Tryz.func74 rfl rfl) (hN2) (by (repeat (first | exact TLes.nil | refine TLes.cons (TLe.of_eq rfl) ?_ | refine TLes.cons TLe.own ?_ | refine TLes.cons TLe.nil ?_)); (first | done | fail)) rfl (by (repeat (first | exact trivial | refine And.intro rfl ?_)); (first | done | fail)) rfl ?_ | refine exI 0 rfl rfl ?_ | refine exI 1 rfl rfl ?_ | refine exI 2 rfl rfl ?_)))
      refine gen_build rfl rfl rfl rfl rfl fax_ok ?_
      skip
      refine gen_three (t_fr_app (b := 72) (e := 39) (id := 1001) (c2 := 1005) (c3 := 1006) (e2 := 3) (e3 := 41) (v1 := v1) (v2 := v2) (v3 := v3) (dn := dn) (ca := ca) (co := co) (p := n1) (r := n2) (gg := w0 == [103, 101, 110]) rfl (by kernel_rfl) rfl (TLe.of_eq rfl) (by decide) (by decide) (by decide) hfr (by omega)) rfl rfl rfl ?_
      skip
      refine gen_one (t_rdr_store (e := 63) (bb := false) (ts := rdT v1 cs tx) rfl (by kernel_rfl) rfl rfl (by simp)) rfl ?_
      (repeat ((conv => whnf); refine oB ?_))
      exact ⟨eN, rS, fiO⟩
  | true =>
    have hN2 := number_bad w2 h2 v1 dn ts cs tx M v2 ca v3 co hts hb2
    generalize numV w1 = n1 at *
    generalize numV w2 = n2 at *
    rcases hts with rfl | ⟨fp, fr, fg, rfl⟩
    all_goals
      refine FnO.of0 (n := 36) [5030, 5004, 24, 29] fax_ok Tryz.func42 rfl rfl rfl (by rfl) (by rfl) (by kernel_rfl) fun Γ hA hbA hbO => ?_
      skip
      refine gen_one (t_to_rdr (id := 1000) (e := 63) (ts := rdT v1 cs tx) (b := false) rfl (TLe.of_eq rfl)) rfl ?_
      (repeat ((conv => whnf); (first | refine exR ?_ | refine tF ?_)))
      refine gen_one (t_rdr_load (e := 63) (ts := rdT v1 cs tx) (c := 1) rfl (by kernel_rfl) rfl rfl) rfl ?_
      (repeat ((conv => whnf); (first | refine exR ?_ | refine gen_oP [(1007, 24), (1000, 1000), (1001, 1001), (1002, 1002), (1003, 1003), (1004, 1004), (1005, 1005), (1006, 1006)] 1 0 rfl (enters_of Tryz.func74 rfl rfl) (hN1) (by (repeat (first | exact TLes.nil | refine TLes.cons (TLe.of_eq rfl) ?_ | refine TLes.cons TLe.own ?_ | refine TLes.cons TLe.nil ?_)); (first | done | fail)) rfl (by (repeat (first | exact trivial | refine And.intro rfl ?_)); (first | done | fail)) rfl ?_ | refine gen_oP [(1007, 29), (1000, 1000), (1001, 1001), (1002, 1002), (1003, 1003), (1004, 1004), (1005, 1005), (1006, 1006)] 1 0 rfl (enters_of Tryz.func74 rfl rfl) (hN2) (by (repeat (first | exact TLes.nil | refine TLes.cons (TLe.of_eq rfl) ?_ | refine TLes.cons TLe.own ?_ | refine TLes.cons TLe.nil ?_)); (first | done | fail)) rfl (by (repeat (first | exact trivial | refine And.intro rfl ?_)); (first | done | fail)) rfl ?_ | refine exI 0 rfl rfl ?_ | refine exI 1 rfl rfl ?_ | refine exI 2 rfl rfl ?_)))
      refine gen_build rfl rfl rfl rfl rfl fax_ok ?_
      skip
      refine gen_three (t_fr_app (b := 72) (e := 39) (id := 1001) (c2 := 1005) (c3 := 1006) (e2 := 3) (e3 := 41) (v1 := v1) (v2 := v2) (v3 := v3) (dn := dn) (ca := ca) (co := co) (p := n1) (r := n2) (gg := w0 == [103, 101, 110]) rfl (by kernel_rfl) rfl (TLe.of_eq rfl) (by decide) (by decide) (by decide) hfr (by omega)) rfl rfl rfl ?_
      skip
      refine gen_one (t_rdr_store (e := 63) (bb := false) (ts := rdT v1 cs tx) rfl (by kernel_rfl) rfl rfl (by simp)) rfl ?_
      (repeat ((conv => whnf); refine oB ?_))
      exact ⟨eN, rS, fiO⟩
set_option maxRecDepth 100000 in
set_option maxHeartbeats 1000000 in
theorem begin_bad2 (w0 w1 w2 : List UInt8) (h1 : w1.length ≤ 1000000000) (h2 : w2.length ≤ 1000000000) (v1 : Nat) (dn : List D) (ts : List T) (cs tx : List D) (M : List (Value × D)) (v2 : Nat) (ca : List D) (v3 : Nat) (co : List D) (hb : numB w1 = false) (hb2 : numB w2 = true) (hts : Shape v2 v3 ts) (hdn : dn.length ≤ 5000000) :
    FnO Tryz.prog 42 [.ref 1000 0, .d (txD [w0, w1, w2])] (RO v1 dn ts cs tx M v2 ca v3 co false) (.tup []) ((29, .seen 1000) :: (RR (v1 + 1) (dn ++ lastD ca co ts) (FnT (v2 + 1) (v3 + 1) (numV w1) (numV w2) (genB w0)) cs tx M (v2 + 1) [] (v3 + 1) [])) := by
  have hN1 := number_good w1 h1 v1 dn ts cs tx M v2 ca v3 co hts hb
  have hN2 := number_bad w2 h2 v1 dn ts cs tx M v2 ca v3 co hts hb2
  have hfr : FrTs 1005 v2 1006 v3 ts := hts
  unfold genB
  generalize numV w1 = n1 at *
  generalize numV w2 = n2 at *
  rcases hts with rfl | ⟨fp, fr, fg, rfl⟩
  all_goals
    refine FnO.of0 (n := 36) [5030, 5004, 29] fax_ok Tryz.func42 rfl rfl rfl (by rfl) (by rfl) (by kernel_rfl) fun Γ hA hbA hbO => ?_
    skip
    refine gen_one (t_to_rdr (id := 1000) (e := 63) (ts := rdT v1 cs tx) (b := false) rfl (TLe.of_eq rfl)) rfl ?_
    (repeat ((conv => whnf); (first | refine exR ?_ | refine tF ?_)))
    refine gen_one (t_rdr_load (e := 63) (ts := rdT v1 cs tx) (c := 1) rfl (by kernel_rfl) rfl rfl) rfl ?_
    (repeat ((conv => whnf); (first | refine exR ?_ | refine gen_oP idR 0 0 rfl (enters_of Tryz.func74 rfl rfl) (hN1) (by (repeat (first | exact TLes.nil | refine TLes.cons (TLe.of_eq rfl) ?_ | refine TLes.cons TLe.own ?_ | refine TLes.cons TLe.nil ?_)); (first | done | fail)) rfl (by (repeat (first | exact trivial | refine And.intro rfl ?_)); (first | done | fail)) rfl ?_ | refine gen_oP [(1007, 29), (1000, 1000), (1001, 1001), (1002, 1002), (1003, 1003), (1004, 1004), (1005, 1005), (1006, 1006)] 1 0 rfl (enters_of Tryz.func74 rfl rfl) (hN2) (by (repeat (first | exact TLes.nil | refine TLes.cons (TLe.of_eq rfl) ?_ | refine TLes.cons TLe.own ?_ | refine TLes.cons TLe.nil ?_)); (first | done | fail)) rfl (by (repeat (first | exact trivial | refine And.intro rfl ?_)); (first | done | fail)) rfl ?_ | refine exI 0 rfl rfl ?_ | refine exI 1 rfl rfl ?_ | refine exI 2 rfl rfl ?_)))
    refine gen_build rfl rfl rfl rfl rfl fax_ok ?_
    skip
    refine gen_three (t_fr_app (b := 72) (e := 39) (id := 1001) (c2 := 1005) (c3 := 1006) (e2 := 3) (e3 := 41) (v1 := v1) (v2 := v2) (v3 := v3) (dn := dn) (ca := ca) (co := co) (p := n1) (r := n2) (gg := w0 == [103, 101, 110]) rfl (by kernel_rfl) rfl (TLe.of_eq rfl) (by decide) (by decide) (by decide) hfr (by omega)) rfl rfl rfl ?_
    skip
    refine gen_one (t_rdr_store (e := 63) (bb := false) (ts := rdT v1 cs tx) rfl (by kernel_rfl) rfl rfl (by simp)) rfl ?_
    (repeat ((conv => whnf); refine oB ?_))
    exact ⟨eN, rS, fiO⟩
end Go.Proofs.YtddmcmkhjkleoaaGreatDoor
end

section
namespace Go.Proofs.YtddmcmkhjkleoaaGreatDoor
open Go.RowKit

/-- A map literal's entry. -/
theorem t_insert {P : Program} {o : Oper} {σ : Nat → T} {t kt et : TypeId} {d : TypeDesc} {m x v : Operand} {id : Nat} {k : Value} {y : D} {M : List (Value × D)} (ho : o.op = .insert t m x v) (hT : mapT? P t = some (kt, d, et)) (hm : opT σ m = .mp id) (hx : opT σ x = .d (.v k)) (hv : TLe (opT σ v) (.d y)) (hk : Go.MapKept.IsKey d k) :
    Tri P o σ [(id, .map d M)] .und [(id, .map d (mput M k y))] := by
  intro Γ g objs a w Q hr hp hw
  obtain ⟨hu, hd⟩ := mapT_spec hT
  have e1 := rep_op hr (x := m) (by rw [ho]; simp [Op.operands])
  have e2 := rep_op hr (x := x) (by rw [ho]; simp [Op.operands])
  have e3 := hv g _ (rep_op hr (x := v) (by rw [ho]; simp [Op.operands]))
  rw [hm] at e1
  rw [hx] at e2
  have hid := hp _ (List.mem_singleton.2 rfl)
  obtain ⟨es, a0, a1, hb, hM, a5⟩ := hw.obj id _ hid
  generalize hy : a.eval m = u at e1
  generalize hz : a.eval v = z at e3
  cases e1 with
  | mp ha =>
    cases e3 with
    | d e3 =>
      obtain ⟨es', ob, hrun, h1, h2⟩ := run_put hu hd hk hM hb e3
      unfold Oper.wp execOp
      simp only [ho, hy, hz, inv_v e2, Sem.run_bind, hrun, Result.andThen_ok, Sem.run_pure]
      obtain ⟨c, hb1, -⟩ := hb
      exact ⟨g, undef, rfl, GLe.refl _ _, .und, hw.touch hid (grown_setB hb1) rfl a5 ⟨es', a0, a1, h1, h2, a5⟩ fun b hb => hb⟩
theorem join0 : FnD Tryz.prog 73 [.d (.sl 1 []), strT []] (strT []) := by
  refine FnD.of1 (n := 75) [] fax_ok Tryz.func73 rfl rfl rfl (by rfl) (by kernel_rfl) (by intro _; rfl) fun Γ hA hbA => ?_
  (repeat ((conv => whnf); (first | refine exR ?_ | refine tT ?_)))
  exact ⟨eN, rS, fiO⟩
theorem join1 (w : List UInt8) : FnD Tryz.prog 73 [.d (.sl 1 [strD w]), strT []] (strT w) := by
  refine FnD.of1 (n := 75) [] fax_ok Tryz.func73 rfl rfl rfl (by rfl) (by kernel_rfl) (by intro _; rfl) fun Γ hA hbA => ?_
  (repeat ((conv => whnf); (first | refine exR ?_ | refine tT ?_ | refine tF ?_ | refine exI 0 rfl rfl ?_)))
  exact ⟨eN, rS, fiO⟩
/-- Kinds of constants that have a number. -/
abbrev kindsM : List (Value × D) := [(strV [105, 110, 116], iD 2), (strV [102, 108, 111, 97, 116], iD 3), (strV [116, 101, 120, 116], iD 4), (strV [99, 97, 108, 108], iD 6)]
def kindN (w : List UInt8) : Option Int := if w = [105, 110, 116] then some 2 else if w = [102, 108, 111, 97, 116] then some 3 else if w = [116, 101, 120, 116] then some 4 else if w = [99, 97, 108, 108] then some 6 else none
theorem keq_str (a b : List UInt8) : keq (strV a) (strV b) = decide (a = b) := by
  have ha : ∀ l : List UInt8, Go.MapKept.IsKey .string (strV l) := fun _ => trivial
  rw [Bool.eq_iff_iff, keq_iff (ha a) (ha b), decide_eq_true_eq]
  exact ⟨fun h => by simpa using h, fun h => by rw [h]⟩
theorem kind_find (w : List UInt8) : mfind kindsM (strV w) = (kindN w).map iD := by
  unfold kindsM kindN
  simp only [mfind, keq_str]
  by_cases h1 : w = [105, 110, 116]
  · simp [h1]
  · by_cases h2 : w = [102, 108, 111, 97, 116]
    · simp [h2]
    · by_cases h3 : w = [116, 101, 120, 116]
      · simp [h3]
      · by_cases h4 : w = [99, 97, 108, 108]
        · simp [h4]
        · simp [h1, h2, h3, h4]
theorem kind_find' {w : List UInt8} {r : Option D} (h : (kindN w).map iD = r) : mfind kindsM (strV w) = r := (kind_find w).trans h
/-- A constant's words: it, and whether they can't be read. -/
def constL (l : List (List UInt8)) : (Int × Int) × Bool := match l with
  | [w] => if w = [110, 105, 108] then ((0, 0), false) else if w = [116, 114, 117, 101] then ((1, 1), false) else if w = [102, 97, 108, 115, 101] then ((1, 0), false) else ((0, 0), true)
  | [w, n] => (match kindN w with | some k => ((k, numV n), numB n) | none => ((0, 0), true))
  | _ => ((0, 0), true)
theorem t_insertE {P : Program} {o : Oper} {σ : Nat → T} {t kt et : TypeId} {d : TypeDesc} {m x v : Operand} {id : Nat} {k : Value} {y : D} {M M' : List (Value × D)} (ho : o.op = .insert t m x v) (hT : mapT? P t = some (kt, d, et)) (hm : opT σ m = .mp id) (hx : opT σ x = .d (.v k)) (hv : TLe (opT σ v) (.d y)) (hk : Go.MapKept.IsKey d k) (hM : mput M k y = M') :
    Tri P o σ [(id, .map d M)] .und [(id, .map d M')] := by subst hM; exact t_insert ho hT hm hx hv hk
set_option maxRecDepth 100000 in
set_option maxHeartbeats 1000000 in
theorem constL_fn (l : List (List UInt8)) (hw : ∀ w ∈ l, w.length ≤ 1000000000) (v1 : Nat) (dn : List D) (ts : List T) (cs tx : List D) (M : List (Value × D)) (v2 : Nat) (ca : List D) (v3 : Nat) (co : List D) (b : Bool) (hts : Shape v2 v3 ts) (hcs : cs.length ≤ 5000000) :
    FnO Tryz.prog 41 [.ref 1000 0, .d (txD l)] (RO v1 dn ts cs tx M v2 ca v3 co b) (.tup []) (RO v1 dn ts (cs ++ [vaD (constL l).1]) tx M v2 ca v3 co (b || (constL l).2)) := by
  have hnum := fun w h b => number_fn w h v1 dn ts cs tx M v2 ca v3 co b hts
  match l, hw with
  | [], _ =>
    have hJ := join0
    have hf := kind_find' (w := []) (r := none) rfl
    rw [show (constL []) = ((0, 0), true) from rfl, Bool.or_true]
    rcases hts with rfl | ⟨fp, fr, fg, rfl⟩
    all_goals
      refine FnO.of0 (n := 83) [] fax_ok Tryz.func41 rfl rfl rfl (by rfl) (by rfl) (by kernel_rfl) fun Γ hA hbA hbO => ?_
      (repeat ((conv => whnf); refine And.intro rfl ?_))
      refine gen_one (t_insertE (P := Tryz.prog) (kt := 9) (et := 3) (d := .string) (M := []) (M' := [(strV [105, 110, 116], iD 2)]) rfl (by kernel_rfl) rfl rfl (TLe.of_eq rfl) trivial rfl) rfl ?_
      skip
      refine gen_one (t_insertE (P := Tryz.prog) (kt := 9) (et := 3) (d := .string) (M := [(strV [105, 110, 116], iD 2)]) (M' := [(strV [105, 110, 116], iD 2), (strV [102, 108, 111, 97, 116], iD 3)]) rfl (by kernel_rfl) rfl rfl (TLe.of_eq rfl) trivial rfl) rfl ?_
      skip
      refine gen_one (t_insertE (P := Tryz.prog) (kt := 9) (et := 3) (d := .string) (M := [(strV [105, 110, 116], iD 2), (strV [102, 108, 111, 97, 116], iD 3)]) (M' := [(strV [105, 110, 116], iD 2), (strV [102, 108, 111, 97, 116], iD 3), (strV [116, 101, 120, 116], iD 4)]) rfl (by kernel_rfl) rfl rfl (TLe.of_eq rfl) trivial rfl) rfl ?_
      skip
      refine gen_one (t_insertE (P := Tryz.prog) (kt := 9) (et := 3) (d := .string) (M := [(strV [105, 110, 116], iD 2), (strV [102, 108, 111, 97, 116], iD 3), (strV [116, 101, 120, 116], iD 4)]) (M' := [(strV [105, 110, 116], iD 2), (strV [102, 108, 111, 97, 116], iD 3), (strV [116, 101, 120, 116], iD 4), (strV [99, 97, 108, 108], iD 6)]) rfl (by kernel_rfl) rfl rfl (TLe.of_eq rfl) trivial rfl) rfl ?_
      (repeat ((conv => whnf); (first | refine exE (α := Option D) _ (by assumption) ?_ | refine exR ?_ | refine gd (enters_of Tryz.func73 rfl rfl) hJ ?_ | refine tT ?_ | refine tF ?_ | refine uF ?_ | refine oB ?_ | refine And.intro rfl ?_ | refine lQ ?_ | refine And.intro (a := Go.MapKept.IsKey _ _) trivial ?_ | refine nA _ rfl ?_)))
      exact ⟨eN, rS, fiO⟩
  | [w], hw =>
    have hJ := join1 w
    unfold constL
    dsimp only
    by_cases h1 : w = [110, 105, 108]
    · have hf := kind_find' (w := w) (r := none) (by rw [h1]; rfl)
      have q1 : (!(w == [110, 105, 108])) = false := by rw [h1]; rfl
      rw [if_pos h1, Bool.or_false]
      rcases hts with rfl | ⟨fp, fr, fg, rfl⟩
      all_goals
        refine FnO.of0 (n := 83) [] fax_ok Tryz.func41 rfl rfl rfl (by rfl) (by rfl) (by kernel_rfl) fun Γ hA hbA hbO => ?_
        (repeat ((conv => whnf); refine And.intro rfl ?_))
        refine gen_one (t_insertE (P := Tryz.prog) (kt := 9) (et := 3) (d := .string) (M := []) (M' := [(strV [105, 110, 116], iD 2)]) rfl (by kernel_rfl) rfl rfl (TLe.of_eq rfl) trivial rfl) rfl ?_
        skip
        refine gen_one (t_insertE (P := Tryz.prog) (kt := 9) (et := 3) (d := .string) (M := [(strV [105, 110, 116], iD 2)]) (M' := [(strV [105, 110, 116], iD 2), (strV [102, 108, 111, 97, 116], iD 3)]) rfl (by kernel_rfl) rfl rfl (TLe.of_eq rfl) trivial rfl) rfl ?_
        skip
        refine gen_one (t_insertE (P := Tryz.prog) (kt := 9) (et := 3) (d := .string) (M := [(strV [105, 110, 116], iD 2), (strV [102, 108, 111, 97, 116], iD 3)]) (M' := [(strV [105, 110, 116], iD 2), (strV [102, 108, 111, 97, 116], iD 3), (strV [116, 101, 120, 116], iD 4)]) rfl (by kernel_rfl) rfl rfl (TLe.of_eq rfl) trivial rfl) rfl ?_
        skip
        refine gen_one (t_insertE (P := Tryz.prog) (kt := 9) (et := 3) (d := .string) (M := [(strV [105, 110, 116], iD 2), (strV [102, 108, 111, 97, 116], iD 3), (strV [116, 101, 120, 116], iD 4)]) (M' := [(strV [105, 110, 116], iD 2), (strV [102, 108, 111, 97, 116], iD 3), (strV [116, 101, 120, 116], iD 4), (strV [99, 97, 108, 108], iD 6)]) rfl (by kernel_rfl) rfl rfl (TLe.of_eq rfl) trivial rfl) rfl ?_
        (repeat ((conv => whnf); (first | refine exE (α := Option D) _ (by assumption) ?_ | refine exR ?_ | refine gd (enters_of Tryz.func73 rfl rfl) hJ ?_ | refine tF ?_ | refine uT ?_ | refine oB ?_ | refine And.intro rfl ?_ | refine lQ ?_ | refine And.intro (a := Go.MapKept.IsKey _ _) trivial ?_ | refine exI 0 rfl rfl ?_ | refine nA _ rfl ?_)))
        exact ⟨eN, rS, fiO⟩
    · have q1 : (!(w == [110, 105, 108])) = true := by rw [beq_eq_false_iff_ne.2 h1]; rfl
      rw [if_neg h1]
      by_cases h2 : w = [116, 114, 117, 101]
      · have hf := kind_find' (w := w) (r := none) (by rw [h2]; rfl)
        have q2 : (!(w == [116, 114, 117, 101])) = false := by rw [h2]; rfl
        have q3 : (w == [116, 114, 117, 101]) = true := by rw [h2]; rfl
        rw [if_pos h2, Bool.or_false]
        rcases hts with rfl | ⟨fp, fr, fg, rfl⟩
        all_goals
          refine FnO.of0 (n := 83) [] fax_ok Tryz.func41 rfl rfl rfl (by rfl) (by rfl) (by kernel_rfl) fun Γ hA hbA hbO => ?_
          (repeat ((conv => whnf); refine And.intro rfl ?_))
          refine gen_one (t_insertE (P := Tryz.prog) (kt := 9) (et := 3) (d := .string) (M := []) (M' := [(strV [105, 110, 116], iD 2)]) rfl (by kernel_rfl) rfl rfl (TLe.of_eq rfl) trivial rfl) rfl ?_
          skip
          refine gen_one (t_insertE (P := Tryz.prog) (kt := 9) (et := 3) (d := .string) (M := [(strV [105, 110, 116], iD 2)]) (M' := [(strV [105, 110, 116], iD 2), (strV [102, 108, 111, 97, 116], iD 3)]) rfl (by kernel_rfl) rfl rfl (TLe.of_eq rfl) trivial rfl) rfl ?_
          skip
          refine gen_one (t_insertE (P := Tryz.prog) (kt := 9) (et := 3) (d := .string) (M := [(strV [105, 110, 116], iD 2), (strV [102, 108, 111, 97, 116], iD 3)]) (M' := [(strV [105, 110, 116], iD 2), (strV [102, 108, 111, 97, 116], iD 3), (strV [116, 101, 120, 116], iD 4)]) rfl (by kernel_rfl) rfl rfl (TLe.of_eq rfl) trivial rfl) rfl ?_
          skip
          refine gen_one (t_insertE (P := Tryz.prog) (kt := 9) (et := 3) (d := .string) (M := [(strV [105, 110, 116], iD 2), (strV [102, 108, 111, 97, 116], iD 3), (strV [116, 101, 120, 116], iD 4)]) (M' := [(strV [105, 110, 116], iD 2), (strV [102, 108, 111, 97, 116], iD 3), (strV [116, 101, 120, 116], iD 4), (strV [99, 97, 108, 108], iD 6)]) rfl (by kernel_rfl) rfl rfl (TLe.of_eq rfl) trivial rfl) rfl ?_
          (repeat ((conv => whnf); (first | refine exE (α := Option D) _ (by assumption) ?_ | refine exR ?_ | refine gd (enters_of Tryz.func73 rfl rfl) hJ ?_ | refine tT ?_ | refine tF ?_ | refine uT ?_ | refine oB ?_ | refine And.intro rfl ?_ | refine lQ ?_ | refine And.intro (a := Go.MapKept.IsKey _ _) trivial ?_ | refine exI 0 rfl rfl ?_ | refine nA _ rfl ?_)))
          exact ⟨eN, rS, fiO⟩
      · have q2 : (!(w == [116, 114, 117, 101])) = true := by rw [beq_eq_false_iff_ne.2 h2]; rfl
        have q3 : (w == [116, 114, 117, 101]) = false := beq_eq_false_iff_ne.2 h2
        rw [if_neg h2]
        by_cases h3 : w = [102, 97, 108, 115, 101]
        · have hf := kind_find' (w := w) (r := none) (by rw [h3]; rfl)
          have q4 : (!(w == [102, 97, 108, 115, 101])) = false := by rw [h3]; rfl
          rw [if_pos h3, Bool.or_false]
          rcases hts with rfl | ⟨fp, fr, fg, rfl⟩
          all_goals
            refine FnO.of0 (n := 83) [] fax_ok Tryz.func41 rfl rfl rfl (by rfl) (by rfl) (by kernel_rfl) fun Γ hA hbA hbO => ?_
            (repeat ((conv => whnf); refine And.intro rfl ?_))
            refine gen_one (t_insertE (P := Tryz.prog) (kt := 9) (et := 3) (d := .string) (M := []) (M' := [(strV [105, 110, 116], iD 2)]) rfl (by kernel_rfl) rfl rfl (TLe.of_eq rfl) trivial rfl) rfl ?_
            skip
            refine gen_one (t_insertE (P := Tryz.prog) (kt := 9) (et := 3) (d := .string) (M := [(strV [105, 110, 116], iD 2)]) (M' := [(strV [105, 110, 116], iD 2), (strV [102, 108, 111, 97, 116], iD 3)]) rfl (by kernel_rfl) rfl rfl (TLe.of_eq rfl) trivial rfl) rfl ?_
            skip
            refine gen_one (t_insertE (P := Tryz.prog) (kt := 9) (et := 3) (d := .string) (M := [(strV [105, 110, 116], iD 2), (strV [102, 108, 111, 97, 116], iD 3)]) (M' := [(strV [105, 110, 116], iD 2), (strV [102, 108, 111, 97, 116], iD 3), (strV [116, 101, 120, 116], iD 4)]) rfl (by kernel_rfl) rfl rfl (TLe.of_eq rfl) trivial rfl) rfl ?_
            skip
            refine gen_one (t_insertE (P := Tryz.prog) (kt := 9) (et := 3) (d := .string) (M := [(strV [105, 110, 116], iD 2), (strV [102, 108, 111, 97, 116], iD 3), (strV [116, 101, 120, 116], iD 4)]) (M' := [(strV [105, 110, 116], iD 2), (strV [102, 108, 111, 97, 116], iD 3), (strV [116, 101, 120, 116], iD 4), (strV [99, 97, 108, 108], iD 6)]) rfl (by kernel_rfl) rfl rfl (TLe.of_eq rfl) trivial rfl) rfl ?_
            (repeat ((conv => whnf); (first | refine exE (α := Option D) _ (by assumption) ?_ | refine exR ?_ | refine gd (enters_of Tryz.func73 rfl rfl) hJ ?_ | refine tT ?_ | refine tF ?_ | refine uT ?_ | refine oB ?_ | refine And.intro rfl ?_ | refine lQ ?_ | refine And.intro (a := Go.MapKept.IsKey _ _) trivial ?_ | refine exI 0 rfl rfl ?_ | refine nA _ rfl ?_)))
            exact ⟨eN, rS, fiO⟩
        · have q4 : (!(w == [102, 97, 108, 115, 101])) = true := by rw [beq_eq_false_iff_ne.2 h3]; rfl
          rw [if_neg h3, Bool.or_true]
          cases hk : kindN w with
          | none =>
            have hf := kind_find' (w := w) (r := none) (by rw [hk]; rfl)
            rcases hts with rfl | ⟨fp, fr, fg, rfl⟩
            all_goals
              refine FnO.of0 (n := 83) [] fax_ok Tryz.func41 rfl rfl rfl (by rfl) (by rfl) (by kernel_rfl) fun Γ hA hbA hbO => ?_
              (repeat ((conv => whnf); refine And.intro rfl ?_))
              refine gen_one (t_insertE (P := Tryz.prog) (kt := 9) (et := 3) (d := .string) (M := []) (M' := [(strV [105, 110, 116], iD 2)]) rfl (by kernel_rfl) rfl rfl (TLe.of_eq rfl) trivial rfl) rfl ?_
              skip
              refine gen_one (t_insertE (P := Tryz.prog) (kt := 9) (et := 3) (d := .string) (M := [(strV [105, 110, 116], iD 2)]) (M' := [(strV [105, 110, 116], iD 2), (strV [102, 108, 111, 97, 116], iD 3)]) rfl (by kernel_rfl) rfl rfl (TLe.of_eq rfl) trivial rfl) rfl ?_
              skip
              refine gen_one (t_insertE (P := Tryz.prog) (kt := 9) (et := 3) (d := .string) (M := [(strV [105, 110, 116], iD 2), (strV [102, 108, 111, 97, 116], iD 3)]) (M' := [(strV [105, 110, 116], iD 2), (strV [102, 108, 111, 97, 116], iD 3), (strV [116, 101, 120, 116], iD 4)]) rfl (by kernel_rfl) rfl rfl (TLe.of_eq rfl) trivial rfl) rfl ?_
              skip
              refine gen_one (t_insertE (P := Tryz.prog) (kt := 9) (et := 3) (d := .string) (M := [(strV [105, 110, 116], iD 2), (strV [102, 108, 111, 97, 116], iD 3), (strV [116, 101, 120, 116], iD 4)]) (M' := [(strV [105, 110, 116], iD 2), (strV [102, 108, 111, 97, 116], iD 3), (strV [116, 101, 120, 116], iD 4), (strV [99, 97, 108, 108], iD 6)]) rfl (by kernel_rfl) rfl rfl (TLe.of_eq rfl) trivial rfl) rfl ?_
              (repeat ((conv => whnf); (first | refine exE (α := Option D) _ (by assumption) ?_ | refine exR ?_ | refine gd (enters_of Tryz.func73 rfl rfl) hJ ?_ | refine tT ?_ | refine tF ?_ | refine uT ?_ | refine oB ?_ | refine And.intro rfl ?_ | refine lQ ?_ | refine And.intro (a := Go.MapKept.IsKey _ _) trivial ?_ | refine exI 0 rfl rfl ?_ | refine nA _ rfl ?_)))
              exact ⟨eN, rS, fiO⟩
          | some k =>
            have hf := kind_find' (w := w) (r := some (iD k)) (by rw [hk]; rfl)
            rcases hts with rfl | ⟨fp, fr, fg, rfl⟩
            all_goals
              refine FnO.of0 (n := 83) [] fax_ok Tryz.func41 rfl rfl rfl (by rfl) (by rfl) (by kernel_rfl) fun Γ hA hbA hbO => ?_
              (repeat ((conv => whnf); refine And.intro rfl ?_))
              refine gen_one (t_insertE (P := Tryz.prog) (kt := 9) (et := 3) (d := .string) (M := []) (M' := [(strV [105, 110, 116], iD 2)]) rfl (by kernel_rfl) rfl rfl (TLe.of_eq rfl) trivial rfl) rfl ?_
              skip
              refine gen_one (t_insertE (P := Tryz.prog) (kt := 9) (et := 3) (d := .string) (M := [(strV [105, 110, 116], iD 2)]) (M' := [(strV [105, 110, 116], iD 2), (strV [102, 108, 111, 97, 116], iD 3)]) rfl (by kernel_rfl) rfl rfl (TLe.of_eq rfl) trivial rfl) rfl ?_
              skip
              refine gen_one (t_insertE (P := Tryz.prog) (kt := 9) (et := 3) (d := .string) (M := [(strV [105, 110, 116], iD 2), (strV [102, 108, 111, 97, 116], iD 3)]) (M' := [(strV [105, 110, 116], iD 2), (strV [102, 108, 111, 97, 116], iD 3), (strV [116, 101, 120, 116], iD 4)]) rfl (by kernel_rfl) rfl rfl (TLe.of_eq rfl) trivial rfl) rfl ?_
              skip
              refine gen_one (t_insertE (P := Tryz.prog) (kt := 9) (et := 3) (d := .string) (M := [(strV [105, 110, 116], iD 2), (strV [102, 108, 111, 97, 116], iD 3), (strV [116, 101, 120, 116], iD 4)]) (M' := [(strV [105, 110, 116], iD 2), (strV [102, 108, 111, 97, 116], iD 3), (strV [116, 101, 120, 116], iD 4), (strV [99, 97, 108, 108], iD 6)]) rfl (by kernel_rfl) rfl rfl (TLe.of_eq rfl) trivial rfl) rfl ?_
              (repeat ((conv => whnf); (first | refine exE (α := Option D) _ (by assumption) ?_ | refine exR ?_ | refine gd (enters_of Tryz.func73 rfl rfl) hJ ?_ | refine tT ?_ | refine tF ?_ | refine uT ?_ | refine oB ?_ | refine And.intro rfl ?_ | refine lQ ?_ | refine And.intro (a := Go.MapKept.IsKey _ _) trivial ?_ | refine exI 0 rfl rfl ?_ | refine nA _ rfl ?_)))
              exact ⟨eN, rS, fiO⟩
  | [w, n], hw =>
    have hJ := join1 w
    have hN := hnum n (hw n (by simp)) b
    unfold constL
    dsimp only
    cases hk : kindN w with
    | none =>
      have hf := kind_find' (w := w) (r := none) (by rw [hk]; rfl)
      dsimp only
      rw [Bool.or_true]
      rcases hts with rfl | ⟨fp, fr, fg, rfl⟩
      all_goals
        refine FnO.of0 (n := 83) [] fax_ok Tryz.func41 rfl rfl rfl (by rfl) (by rfl) (by kernel_rfl) fun Γ hA hbA hbO => ?_
        (repeat ((conv => whnf); refine And.intro rfl ?_))
        refine gen_one (t_insertE (P := Tryz.prog) (kt := 9) (et := 3) (d := .string) (M := []) (M' := [(strV [105, 110, 116], iD 2)]) rfl (by kernel_rfl) rfl rfl (TLe.of_eq rfl) trivial rfl) rfl ?_
        skip
        refine gen_one (t_insertE (P := Tryz.prog) (kt := 9) (et := 3) (d := .string) (M := [(strV [105, 110, 116], iD 2)]) (M' := [(strV [105, 110, 116], iD 2), (strV [102, 108, 111, 97, 116], iD 3)]) rfl (by kernel_rfl) rfl rfl (TLe.of_eq rfl) trivial rfl) rfl ?_
        skip
        refine gen_one (t_insertE (P := Tryz.prog) (kt := 9) (et := 3) (d := .string) (M := [(strV [105, 110, 116], iD 2), (strV [102, 108, 111, 97, 116], iD 3)]) (M' := [(strV [105, 110, 116], iD 2), (strV [102, 108, 111, 97, 116], iD 3), (strV [116, 101, 120, 116], iD 4)]) rfl (by kernel_rfl) rfl rfl (TLe.of_eq rfl) trivial rfl) rfl ?_
        skip
        refine gen_one (t_insertE (P := Tryz.prog) (kt := 9) (et := 3) (d := .string) (M := [(strV [105, 110, 116], iD 2), (strV [102, 108, 111, 97, 116], iD 3), (strV [116, 101, 120, 116], iD 4)]) (M' := [(strV [105, 110, 116], iD 2), (strV [102, 108, 111, 97, 116], iD 3), (strV [116, 101, 120, 116], iD 4), (strV [99, 97, 108, 108], iD 6)]) rfl (by kernel_rfl) rfl rfl (TLe.of_eq rfl) trivial rfl) rfl ?_
        (repeat ((conv => whnf); (first | refine exE (α := Option D) _ (by assumption) ?_ | refine exR ?_ | refine gd (enters_of Tryz.func73 rfl rfl) hJ ?_ | refine tT ?_ | refine tF ?_ | refine uF ?_ | refine oB ?_ | refine And.intro rfl ?_ | refine lQ ?_ | refine And.intro (a := Go.MapKept.IsKey _ _) trivial ?_ | refine nA _ rfl ?_)))
        exact ⟨eN, rS, fiO⟩
    | some k =>
      have hf := kind_find' (w := w) (r := some (iD k)) (by rw [hk]; rfl)
      dsimp only
      generalize numB n = nb at *
      generalize numV n = nv at *
      rcases hts with rfl | ⟨fp, fr, fg, rfl⟩
      all_goals
        refine FnO.of0 (n := 83) [] fax_ok Tryz.func41 rfl rfl rfl (by rfl) (by rfl) (by kernel_rfl) fun Γ hA hbA hbO => ?_
        (repeat ((conv => whnf); refine And.intro rfl ?_))
        refine gen_one (t_insertE (P := Tryz.prog) (kt := 9) (et := 3) (d := .string) (M := []) (M' := [(strV [105, 110, 116], iD 2)]) rfl (by kernel_rfl) rfl rfl (TLe.of_eq rfl) trivial rfl) rfl ?_
        skip
        refine gen_one (t_insertE (P := Tryz.prog) (kt := 9) (et := 3) (d := .string) (M := [(strV [105, 110, 116], iD 2)]) (M' := [(strV [105, 110, 116], iD 2), (strV [102, 108, 111, 97, 116], iD 3)]) rfl (by kernel_rfl) rfl rfl (TLe.of_eq rfl) trivial rfl) rfl ?_
        skip
        refine gen_one (t_insertE (P := Tryz.prog) (kt := 9) (et := 3) (d := .string) (M := [(strV [105, 110, 116], iD 2), (strV [102, 108, 111, 97, 116], iD 3)]) (M' := [(strV [105, 110, 116], iD 2), (strV [102, 108, 111, 97, 116], iD 3), (strV [116, 101, 120, 116], iD 4)]) rfl (by kernel_rfl) rfl rfl (TLe.of_eq rfl) trivial rfl) rfl ?_
        skip
        refine gen_one (t_insertE (P := Tryz.prog) (kt := 9) (et := 3) (d := .string) (M := [(strV [105, 110, 116], iD 2), (strV [102, 108, 111, 97, 116], iD 3), (strV [116, 101, 120, 116], iD 4)]) (M' := [(strV [105, 110, 116], iD 2), (strV [102, 108, 111, 97, 116], iD 3), (strV [116, 101, 120, 116], iD 4), (strV [99, 97, 108, 108], iD 6)]) rfl (by kernel_rfl) rfl rfl (TLe.of_eq rfl) trivial rfl) rfl ?_
        (repeat ((conv => whnf); (first | refine exE (α := Option D) _ (by assumption) ?_ | refine exR ?_ | refine gd (enters_of Tryz.func73 rfl rfl) hJ ?_ | refine gO idR (enters_of Tryz.func74 rfl rfl) hN ?_ | refine tT ?_ | refine oB ?_ | refine And.intro rfl ?_ | refine lQ ?_ | refine And.intro (a := Go.MapKept.IsKey _ _) trivial ?_ | refine exI 1 rfl rfl ?_ | refine nA _ rfl ?_)))
        exact ⟨eN, rS, fiO⟩
  | w :: w1 :: w2 :: l', hw =>
    rw [show (constL (w :: w1 :: w2 :: l')) = ((0, 0), true) from rfl, Bool.or_true]
    have hJ := join1 w
    have ht1 : ((w :: w1 :: w2 :: l').map strD).take 1 = [strD w] := rfl
    rw [← ht1] at hJ
    have hL : 3 ≤ ((w :: w1 :: w2 :: l').map strD).length := by rw [List.length_map]; simp
    show FnO _ _ [.ref 1000 0, .d (.sl 1 ((w :: w1 :: w2 :: l').map strD))] _ _ _
    clear ht1
    generalize (w :: w1 :: w2 :: l').map strD = L at *
    have hmin : (if false = true then (if (L.length : Int) < 1 then (1 : Int) else L.length) else (if (1 : Int) < L.length then 1 else L.length)) = ((1 : Nat) : Int) := by rw [if_neg (by decide), if_pos (by omega)]; rfl
    have q1 : ((L.length : Int) == 2) = false := by rw [beq_eq_false_iff_ne]; omega
    have q2 : ((L.length : Int) != 1) = true := by rw [bne_iff_ne]; omega
    cases hk : kindN w with
    | none =>
      have hf := kind_find' (w := w) (r := none) (by rw [hk]; rfl)
      rcases hts with rfl | ⟨fp, fr, fg, rfl⟩
      all_goals
        refine FnO.of0 (n := 83) [] fax_ok Tryz.func41 rfl rfl rfl (by rfl) (by rfl) (by kernel_rfl) fun Γ hA hbA hbO => ?_
        (repeat ((conv => whnf); refine And.intro rfl ?_))
        refine gen_one (t_insertE (P := Tryz.prog) (kt := 9) (et := 3) (d := .string) (M := []) (M' := [(strV [105, 110, 116], iD 2)]) rfl (by kernel_rfl) rfl rfl (TLe.of_eq rfl) trivial rfl) rfl ?_
        skip
        refine gen_one (t_insertE (P := Tryz.prog) (kt := 9) (et := 3) (d := .string) (M := [(strV [105, 110, 116], iD 2)]) (M' := [(strV [105, 110, 116], iD 2), (strV [102, 108, 111, 97, 116], iD 3)]) rfl (by kernel_rfl) rfl rfl (TLe.of_eq rfl) trivial rfl) rfl ?_
        skip
        refine gen_one (t_insertE (P := Tryz.prog) (kt := 9) (et := 3) (d := .string) (M := [(strV [105, 110, 116], iD 2), (strV [102, 108, 111, 97, 116], iD 3)]) (M' := [(strV [105, 110, 116], iD 2), (strV [102, 108, 111, 97, 116], iD 3), (strV [116, 101, 120, 116], iD 4)]) rfl (by kernel_rfl) rfl rfl (TLe.of_eq rfl) trivial rfl) rfl ?_
        skip
        refine gen_one (t_insertE (P := Tryz.prog) (kt := 9) (et := 3) (d := .string) (M := [(strV [105, 110, 116], iD 2), (strV [102, 108, 111, 97, 116], iD 3), (strV [116, 101, 120, 116], iD 4)]) (M' := [(strV [105, 110, 116], iD 2), (strV [102, 108, 111, 97, 116], iD 3), (strV [116, 101, 120, 116], iD 4), (strV [99, 97, 108, 108], iD 6)]) rfl (by kernel_rfl) rfl rfl (TLe.of_eq rfl) trivial rfl) rfl ?_
        (repeat ((conv => whnf); (first | refine exE (α := Option D) _ (by assumption) ?_ | with_reducible refine exE (α := Int) _ (by assumption) ?_ | refine exR ?_ | refine gd (enters_of Tryz.func73 rfl rfl) hJ ?_ | refine tT ?_ | refine tF ?_ | refine uF ?_ | refine oB ?_ | refine And.intro rfl ?_ | refine lQ ?_ | refine And.intro (a := Go.MapKept.IsKey _ _) trivial ?_ | refine nA _ rfl ?_)))
        exact ⟨eN, rS, fiO⟩
    | some k =>
      have hf := kind_find' (w := w) (r := some (iD k)) (by rw [hk]; rfl)
      rcases hts with rfl | ⟨fp, fr, fg, rfl⟩
      all_goals
        refine FnO.of0 (n := 83) [] fax_ok Tryz.func41 rfl rfl rfl (by rfl) (by rfl) (by kernel_rfl) fun Γ hA hbA hbO => ?_
        (repeat ((conv => whnf); refine And.intro rfl ?_))
        refine gen_one (t_insertE (P := Tryz.prog) (kt := 9) (et := 3) (d := .string) (M := []) (M' := [(strV [105, 110, 116], iD 2)]) rfl (by kernel_rfl) rfl rfl (TLe.of_eq rfl) trivial rfl) rfl ?_
        skip
        refine gen_one (t_insertE (P := Tryz.prog) (kt := 9) (et := 3) (d := .string) (M := [(strV [105, 110, 116], iD 2)]) (M' := [(strV [105, 110, 116], iD 2), (strV [102, 108, 111, 97, 116], iD 3)]) rfl (by kernel_rfl) rfl rfl (TLe.of_eq rfl) trivial rfl) rfl ?_
        skip
        refine gen_one (t_insertE (P := Tryz.prog) (kt := 9) (et := 3) (d := .string) (M := [(strV [105, 110, 116], iD 2), (strV [102, 108, 111, 97, 116], iD 3)]) (M' := [(strV [105, 110, 116], iD 2), (strV [102, 108, 111, 97, 116], iD 3), (strV [116, 101, 120, 116], iD 4)]) rfl (by kernel_rfl) rfl rfl (TLe.of_eq rfl) trivial rfl) rfl ?_
        skip
        refine gen_one (t_insertE (P := Tryz.prog) (kt := 9) (et := 3) (d := .string) (M := [(strV [105, 110, 116], iD 2), (strV [102, 108, 111, 97, 116], iD 3), (strV [116, 101, 120, 116], iD 4)]) (M' := [(strV [105, 110, 116], iD 2), (strV [102, 108, 111, 97, 116], iD 3), (strV [116, 101, 120, 116], iD 4), (strV [99, 97, 108, 108], iD 6)]) rfl (by kernel_rfl) rfl rfl (TLe.of_eq rfl) trivial rfl) rfl ?_
        (repeat ((conv => whnf); (first | refine exE (α := Option D) _ (by assumption) ?_ | with_reducible refine exE (α := Int) _ (by assumption) ?_ | refine exR ?_ | refine gd (enters_of Tryz.func73 rfl rfl) hJ ?_ | refine tT ?_ | refine tF ?_ | refine uF ?_ | refine oB ?_ | refine And.intro rfl ?_ | refine lQ ?_ | refine And.intro (a := Go.MapKept.IsKey _ _) trivial ?_ | refine nA _ rfl ?_)))
        exact ⟨eN, rS, fiO⟩
end Go.Proofs.YtddmcmkhjkleoaaGreatDoor
end
