/-
  Ir, Is, Re, Ra, Rb, Rc, in one.
-/
import Derived.Test.YtddmcmkhjkleoaaGreatDoorMak
import Derived.Test.YtddmcmkhjkleoaaGreatDoorMas
import Derived.RangeFuncCalls
import Derived.Test.YtddmcmkhjkleoaaGreatDoorMan
import Derived.RangeFuncBound
import Derived.RangeFuncBox
import Derived.WalkKit
import Derived.OwnWalkIn
import Derived.TacticsInMore
import Derived.LoopNIn
import Derived.LoopIn
import Derived.Lib.IndexMore
import Derived.Test.YtddmcmkhjkleoaaGreatDoorMal
import Derived.Test.YtddmcmkhjkleoaaGreatDoorMam
import Derived.Shelf.Strings.SlTrimAscii
import Derived.Shelf.Strings.FieldsFuncAny
import Derived.Shelf.Strconv.ParseIntPublic10
section
namespace Go.Proofs.YtddmcmkhjkleoaaGreatDoor
open Go.RowKit

def plainOp (o : Oper) : Bool := match o.op with | .defer _ => false | _ => true
def plainC (V : List Nat) : Code → Prop
  | .skip => True
  | .ret => True
  | .exit _ => True
  | .region _ ops draw => draw = false ∧ ops.toList.all plainOp = true ∧ news V ops.toList = []
  | .seq a b => plainC V a ∧ plainC V b
  | .cond _ a b => plainC V a ∧ plainC V b
  | .block _ c => plainC V c
  | _ => False
section
variable {P : Program} {Γ : Cx} {n m l : Nat} {Q : Exit → Act → World → Prop} {V : List Nat} {F : Fax}
theorem Oper.wpIn_of_wp {o : Oper} {a : Act} {w : World} {K : Act → World → Prop} (hp : plainOp o = true) (h : o.wp P a w K Q) : o.wpIn (Fence.wide.inRound l) m P a w K Q := by
  refine ⟨fun _ _ => trivial, ?_⟩
  rw [Oper.semAt_eq _ _ _ fun c e => by unfold plainOp at hp; rw [e] at hp; cases hp]
  unfold Oper.wp at h
  generalize (execOp a.eval o).run P w = r at h
  unfold Oper.upon at h
  split at h
  · exact h
  · exact h
  · exact h
  · exact ⟨fun h => by simp [Fence.wide] at h, (CallsIn.inRound l (callsIn_wide.2 h)).mono fun e w' h => by cases e <;> exact h⟩
  · refine ⟨fun h => by simp [Fence.wide] at h, fun c cs _ => ?_⟩
    obtain ⟨v, w', h1, h2⟩ := h c cs
    exact ⟨v, w', h1, stepsIn_wide.2 h2⟩
  · exact h
  · exact h.elim
theorem run_seqIn {ops : Array Oper} (hpl : ∀ o ∈ ops.toList, plainOp o = true) {r : List (Nat × FP)} {σ σ' : Nat → T} {objs objs' : Objs} (h : Run P ops n r σ objs σ' objs') : ∀ {a : Act} {w : World}, Conc Γ n σ objs a w →
    (∀ a' w', Conc Γ n σ' objs' a' w' → Q .normal a' w') → wpOpsIn (Fence.wide.inRound l) m P ops Q (r.map (·.1)) a w := by
  induction h with
  | nil => intro a w hc hq; exact hq _ _ hc
  | @cons i o σ σ' objs objs' pre post v l' ho hn hg h hp ht ih =>
    intro a w hc hq
    obtain ⟨hd, hs, g, hr, hw⟩ := hc
    rw [List.map_cons]
    show (match ops[i]? with | none => _ | some o => if Region.wanted o (yielded ops a.tmps) then _ else _)
    rw [ho]
    simp only
    rw [hg.wanted hr, if_pos rfl]
    have hm : o ∈ ops.toList := by
      have := Array.getElem?_eq_some_iff.1 ho
      obtain ⟨h1, h2⟩ := this
      rw [← h2]; simp
    refine Oper.wpIn_of_wp (hpl o hm) (Oper.wp_mono (fun a' w' h1 => ?_) (h Γ g objs a w Q (fun t _ => hr t) hp hw))
    obtain ⟨g', x, rfl, hle, hx, hw'⟩ := h1
    exact ih (Conc.put hd hs (fun t => (hr t).mono hle fun _ _ => trivial) hx hn hw') hq
  | @skip i o σ σ' objs objs' l' ho hn hg ht ih =>
    intro a w hc hq
    obtain ⟨hd, hs, g, hr, hw⟩ := hc
    rw [List.map_cons]
    show (match ops[i]? with | none => _ | some o => if Region.wanted o (yielded ops a.tmps) then _ else _)
    rw [ho]
    simp only
    rw [hg.wanted hr, if_neg (by simp)]
    exact ⟨fun _ _ => trivial, ih (Conc.put hd hs hr (.tup .nil) hn hw) hq⟩
/-- AW in a round's frame. -/
def AWI (P : Program) (Γ : Cx) (l m n : Nat) (c : Code) (σ : Nat → T) (objs : Objs) (Q : GPost) : Prop := ∀ a w, Conc Γ n σ objs a w → c.wpIn (Fence.wide.inRound l) m P (lift Γ n Q) a w
theorem evC_AWI (hF : FaxOK P F) : ∀ {c : Code} {E : En} {L : Ob} {Q : QE}, okC n c = true → plainC V c → evC P F V Γ n c E L Q → AWI P Γ l m n c (sl E) (obE L) (liftE Q)
  | .skip, E, L, Q, _, _, h => fun a w hc => wpIn_skip ⟨_, _, ⟨E, L, fun _ => TLe.refl _, fun _ _ h => h, h⟩, hc⟩
  | .ret, E, L, Q, _, _, h => fun a w hc => wpIn_ret ⟨_, _, ⟨E, L, fun _ => TLe.refl _, fun _ _ h => h, h⟩, hc⟩
  | .exit id, E, L, Q, _, _, h => fun a w hc => wpIn_exit ⟨_, _, ⟨E, L, fun _ => TLe.refl _, fun _ _ h => h, h⟩, hc⟩
  | .region rid ops draw, E, L, Q, hok, hpl, h => by
    have h : (match freshs (news V ops.toList) E L with
      | true => addO (vacs (news V ops.toList) L) [] fun L => evR P F V ops.toList ops.toList E L fun fps E' L' => drawQ draw ops fps (Q .normal E' L')
      | false => fL (clr (news V ops.toList) E) fun E => match freshs (news V ops.toList) E L with
        | true => addO (vacs (news V ops.toList) L) [] fun L => evR P F V ops.toList ops.toList E L fun fps E' L' => drawQ draw ops fps (Q .normal E' L')
        | false => False) := h
    replace hok : okOps n ops.toList = true := hok
    obtain ⟨rfl, hp1, hp2⟩ := hpl
    rw [hp2] at h
    have h : addO L [] fun L => evR P F V ops.toList ops.toList E L fun fps E' L' => Q .normal E' L' := h
    rw [addO_eq, List.append_nil] at h
    have hops : ops = ops.toList.toArray := by simp
    obtain ⟨fps, σ', objs', h1, E', L', rfl, rfl, hq⟩ := evR_run (i := 0) hF hok h
    intro a w hc
    refine wpIn_region ?_
    have h2 := h1.run (by simp)
    have h3 : (zipFrom 0 fps).map (·.1) = List.range ops.size := by rw [zip_fst, h1.len, List.range_eq_range']; simp
    rw [← h3]
    rw [← hops] at h2
    exact run_seqIn (List.all_eq_true.1 hp1) h2 hc fun a' w' hc' => ⟨_, _, ⟨E', L', fun _ => TLe.refl _, fun _ _ h => h, hq⟩, hc'⟩
  | .seq a b, E, L, Q, hok, hpl, h => by
    rw [okC, Bool.and_eq_true] at hok
    have h : evC P F V Γ n a E L fun e E' L' => match e with | .normal => evC P F V Γ n b E' L' Q | e => Q e E' L' := h
    intro a' w hc
    refine wpIn_seq (wpIn_mono (evC_AWI hF hok.1 hpl.1 h a' w hc) fun e a2 w2 h1 => ?_)
    obtain ⟨σ', objs', ⟨E', L', k1, k2, k3⟩, hc'⟩ := h1
    cases e with
    | normal => exact evC_AWI hF hok.2 hpl.2 k3 _ _ (hc'.weak k1 k2)
    | _ => exact ⟨_, _, ⟨E', L', k1, k2, k3⟩, hc'⟩
  | .cond x a b, E, L, Q, hok, hpl, h => by
    rw [okC, Bool.and_eq_true] at hok
    have h : condQ x E (evC P F V Γ n a E L Q) (evC P F V Γ n b E L Q) := h
    unfold condQ at h
    split at h
    · rename_i t _
      split at h
      · next c hc =>
        intro a' w hcc
        have hcc' := hcc
        obtain ⟨hd, hs, g, hr, hw⟩ := hcc'
        have h1 := hr t
        rw [hc] at h1
        exact wpIn_cond_split (t := c) (inv_v h1) (fun e => evC_AWI hF hok.1 hpl.1 (h.1 e) _ _ hcc) (fun e => evC_AWI hF hok.2 hpl.2 (h.2 e) _ _ hcc)
      · exact h.elim
    · exact h.elim
  | .block id c, E, L, Q, hok, hpl, h => by
    rw [okC] at hok
    have h : evC P F V Γ n c E L fun e E' L' => match e with | .exit i => (match Nat.beq i id with | true => Q .normal E' L' | false => Q (.exit i) E' L') | e => Q e E' L' := h
    intro a w hc
    refine wpIn_block (wpIn_mono (evC_AWI hF hok hpl h a w hc) fun e a' w' h1 => ?_)
    obtain ⟨σ', objs', ⟨E', L', k1, k2, k3⟩, hc'⟩ := h1
    cases e with
    | exit i =>
      simp only at k3
      show if i = id then _ else _
      split at k3
      · next e => rw [if_pos (Nat.eq_of_beq_eq_true e)]; exact ⟨_, _, ⟨E', L', k1, k2, k3⟩, hc'⟩
      · next e =>
        rw [if_neg fun h => by rw [h, Nat.beq_refl] at e; cases e]
        exact ⟨_, _, ⟨E', L', k1, k2, k3⟩, hc'⟩
    | _ => exact ⟨_, _, ⟨E', L', k1, k2, k3⟩, hc'⟩
def vacG (g : Gh) (c : Nat) : Gh := ⟨g.S, g.blk, g.row, fun i => if i = c then 0 else g.len i⟩
theorem vacG_le (g : Gh) (c : Nat) : GLe (fun i => i ≠ c) g (vacG g c) := ⟨SLe.refl _, fun _ _ _ => rfl, fun i hi => by simp [vacG, hi], fun _ _ _ => rfl⟩
/-- Room for an object, whatever follows. -/
theorem WI.vac {g : Gh} {objs : Objs} {w : World} (hw : WI Γ g objs w) (c : Nat) (hA : ¬ Γ.A c) (hc : objs c = none) (hf2 : ∀ i ob, objs i = some ob → ob.has c = false) : WI Γ (vacG g c) (ovr objs [(c, .vac)]) w := by
  have hle := vacG_le g c
  have hget : ∀ i, i ≠ c → ovr objs [(c, .vac)] i = objs i := fun i hi => by
    have : (i == c) = false := by simpa using hi
    simp [ovr, List.lookup, this]
  have hself : ovr objs [(c, GObj.vac)] c = some .vac := by simp [ovr]
  have key : ∀ (i : Nat) (oi : GObj) (b : Nat), ovr objs [(c, .vac)] i = some oi → oi.blk (vacG g c) i b → objs i = some oi ∧ oi.blk g i b := fun i oi b h1 h2 => by
    by_cases hic : i = c
    · subst hic; rw [hself] at h1; cases h1; cases h2
    · rw [hget i hic] at h1
      exact ⟨h1, by rw [← blk_same (g := g) (g' := vacG g c) rfl rfl oi]; exact h2⟩
  refine ⟨hw.imm, fun i oi hi => ?_, fun i j oi oj b h1 h2 h3 h4 => ?_, hw.fr, hw.old, hw.ext.trans (hle.weak fun i hi e => hA (e ▸ hi))⟩
  · by_cases hic : i = c
    · subst hic
      rw [hself] at hi
      cases hi
      simp [ObjAt, vacG]
    · rw [hget i hic] at hi
      refine (hw.obj i oi hi).same hle rfl rfl (by simp [vacG, hic]) (fun id hid e1 => ?_) fun b _ => ⟨rfl, fun _ => rfl⟩
      have := hf2 i _ hi
      rw [e1] at hid
      rw [this] at hid; cases hid
  · obtain ⟨k1, k2⟩ := key i oi b h1 h3
    obtain ⟨k3, k4⟩ := key j oj b h2 h4
    exact hw.apart i j oi oj b k1 k3 k2 k4
theorem Conc.vac {σ : Nat → T} {objs : Objs} {a : Act} {w : World} (c : Nat) (hA : ¬ Γ.A c) (hc : objs c = none) (hf : ∀ t, (σ t).has c = false) (hf2 : ∀ i ob, objs i = some ob → ob.has c = false) (h : Conc Γ n σ objs a w) : Conc Γ n σ (ovr objs [(c, .vac)]) a w := by
  obtain ⟨hd, hs, g, hr, hw⟩ := h
  exact ⟨hd, hs, vacG g c, fun t => (hr t).mono (vacG_le g c) (fun id hid e => by subst e; rw [hf t] at hid; cases hid), hw.vac c hA hc hf2⟩
/-! ### A body in parts -/
def NX (P : Program) (Γ : Cx) (n m : Nat) (c : Code) (E : En) (L : Ob) (Q : Exit → Act → World → Prop) : Prop := ∀ a w, Conc Γ n (sl E) (obE L) a w → c.wpIn Fence.wide m P Q a w
theorem NX.seq (V : List Nat) (hF : FaxOK P F) (hA : ∀ i, i < 1000 → ¬ Γ.A i) {x y : Code} {E : En} {L : Ob} (hok : okC n x = true) (h : bdE E E → bdO L L → evC P F V Γ n x E L fun e E' L' => match e with | .normal => NX P Γ n m y E' L' Q | e => ∀ a w, Conc Γ n (sl E') (obE L') a w → Q e a w) : NX P Γ n m (x.seq y) E L Q := by
  intro a w hc
  refine wpIn_seq (wpIn_mono (wpIn_wide.2 ((AW.bd fun hb hb' => evC_AW hF hA hok (h hb hb')) a w hc)) ?_)
  rintro e a' w' ⟨σ', objs', ⟨E', L', h1, h2, h3⟩, hc'⟩
  have hc2 := hc'.weak h1 h2
  cases e with
  | normal => exact h3 a' w' hc2
  | _ => exact h3 a' w' hc2
theorem NX.fin (V : List Nat) (hF : FaxOK P F) (hA : ∀ i, i < 1000 → ¬ Γ.A i) {x : Code} {E : En} {L : Ob} (hok : okC n x = true) (h : bdE E E → bdO L L → evC P F V Γ n x E L fun e E' L' => ∀ a w, Conc Γ n (sl E') (obE L') a w → Q e a w) : NX P Γ n m x E L Q := by
  intro a w hc
  refine wpIn_mono (wpIn_wide.2 ((AW.bd fun hb hb' => evC_AW hF hA hok (h hb hb')) a w hc)) ?_
  rintro e a' w' ⟨σ', objs', ⟨E', L', h1, h2, h3⟩, hc'⟩
  exact h3 a' w' (hc'.weak h1 h2)
theorem NX.vac (c : Nat) (hA : ¬ Γ.A c) {x : Code} {E : En} {L : Ob} (hc : lk L c = none) (hf : freshE c E = true) (hf2 : freshO c L = true) (h : NX P Γ n m x E ((c, .vac) :: L) Q) : NX P Γ n m x E L Q := by
  intro a w hcc
  refine h a w ((hcc.vac c hA hc (freshE_ok hf) (freshO_ok hf2)).weak (fun _ => TLe.refl _) fun id ob h1 => ?_)
  rw [show ((c, GObj.vac) :: L) = [(c, GObj.vac)] ++ L from rfl, obE_app] at h1
  exact h1
theorem NX.to {x : Code} {E E' : En} {L L' : Ob} (hE : FitE E E') (hL : FitO L L') (h : NX P Γ n m x E' L' Q) : NX P Γ n m x E L Q := fun a w hc => h a w (hc.weak hE.le hL.le)
end
/-! ### A context that begins in the midst of a call -/
mutual
theorem T.ren_id : ∀ t : T, t.ren id = t
  | .d _ => rfl
  | .pi _ => rfl
  | .ref _ _ => rfl
  | .own _ _ _ => rfl
  | .mrow _ _ => rfl
  | .mp _ => rfl
  | .stk _ _ _ => rfl
  | .fn f l => by rw [T.ren, T.rens_id l]
  | .bf f l => by rw [T.ren, T.rens_id l]
  | .tup l => by rw [T.ren, T.rens_id l]
  | .ag l => by rw [T.ren, T.rens_id l]
  | .pr _ => rfl
  | .und => rfl
theorem T.rens_id : ∀ l : List T, T.rens id l = l
  | [] => rfl
  | t :: l => by rw [T.rens, T.ren_id t, T.rens_id l]
end
theorem GObj.ren_id (ob : GObj) : ob.ren id = ob := by
  cases ob <;> first | rfl | (simp only [GObj.ren, T.rens_id])
theorem ObjAt.mineTo {Γ Γ' : Cx} {g : Gh} {w : World} {i : Nat} {ob : GObj} (h : ObjAt Γ g w i ob) (hM : ∀ b, ob.blk g i b → Mine Γ' b) : ObjAt Γ' g w i ob :=
  ObjAt.into (ρ := id) (A := fun _ => True) ⟨rfl, fun _ _ => rfl, fun _ _ => rfl, fun _ _ => rfl⟩ trivial (fun _ _ => trivial) (by rw [GObj.ren_id]; exact h) hM
def reX (g : Gh) (objs : Objs) (b : Nat) : Prop := ∃ i ob, objs i = some ob ∧ ob.blk g i b
def reCx (g : Gh) (objs : Objs) (w : World) (ds : List Deferred) (ht : TabsIn w) (hx : ∀ p ∈ tabs, ¬ reX g objs p.1) : Cx := ⟨reX g objs, w, g, fun _ => True, ht, hx, ds⟩
section
variable {Γ : Cx} {g : Gh} {objs : Objs} {w : World}
theorem WI.mineX (hw : WI Γ g objs w) {b : Nat} (h : reX g objs b) : Mine Γ b := by
  obtain ⟨i, ob, h1, h2⟩ := h
  exact (hw.obj i ob h1).mine h2
theorem WI.tabX (hw : WI Γ g objs w) : ∀ p ∈ tabs, ¬ reX g objs p.1 := fun p hp h => by
  obtain ⟨cs, t, fr, -, h1⟩ := Γ.tab p hp
  rcases hw.mineX h with h2 | h2
  · exact absurd (Array.getElem?_eq_some_iff.1 h1).1 (Nat.not_lt.2 h2)
  · exact Γ.tabX p hp h2
theorem WI.rebase (hw : WI Γ g objs w) (ds : List Deferred) (ht : TabsIn w) (hx : ∀ p ∈ tabs, ¬ reX g objs p.1) : WI (reCx g objs w ds ht hx) g objs w :=
  ⟨hw.imm, fun i ob h => (hw.obj i ob h).mineTo fun _ hb => .inr ⟨i, ob, h, hb⟩, hw.apart, Fr.refl _, fun _ _ _ _ => rfl, GLe.refl _ _⟩
theorem WI.back {g' : Gh} {objs' : Objs} {w' : World} {ds : List Deferred} {ht : TabsIn w} {hx : ∀ p ∈ tabs, ¬ reX g objs p.1} (hw : WI Γ g objs w) (h : WI (reCx g objs w ds ht hx) g' objs' w') : WI Γ g' objs' w' := by
  have hM : ∀ b, Mine (reCx g objs w ds ht hx) b → Mine Γ b := fun b hb => by
    rcases hb with hb | hb
    · exact .inl (Nat.le_trans hw.fr.size hb)
    · exact hw.mineX hb
  have hno : ∀ k, k < Γ.w0.heap.size → ¬ Γ.X k → ¬ reX g objs k := fun k h1 h2 h3 => by
    rcases hw.mineX h3 with h4 | h4
    · omega
    · exact h2 h4
  refine ⟨h.imm, fun i ob h1 => (h.obj i ob h1).mineTo fun b hb => hM b ((h.obj i ob h1).mine hb), h.apart, ⟨h.fr.os.trans hw.fr.os, h.fr.tape.trans hw.fr.tape, h.fr.output.trans hw.fr.output, Nat.le_trans hw.fr.size h.fr.size, fun k h1 h2 => ?_⟩, fun b o h1 h2 => ?_, hw.ext.trans (h.ext.weak fun _ _ => trivial)⟩
  · exact (h.fr.block k (Nat.lt_of_lt_of_le h1 hw.fr.size) (hno k h1 h2)).trans (hw.fr.block k h1 h2)
  · exact (h.old b o (Nat.lt_of_lt_of_le h1 hw.fr.size) (hno b h1 h2)).trans (hw.old b o h1 h2)
/-- Blocks that are nobody's may turn. -/
theorem WI.other {w' : World} (hw : WI Γ g objs w) (ho : w'.os = w.os) (ht : w'.tape = w.tape) (hu : w'.output = w.output) (hs : w.heap.size ≤ w'.heap.size) (hb : ∀ k, k < w.heap.size → w'.heap[k]? ≠ w.heap[k]? → Γ.w0.heap.size ≤ k ∧ (∀ o, g.S k o = none) ∧ ¬ reX g objs k) : WI Γ g objs w' := by
  have hk : ∀ k, k < w.heap.size → (k < Γ.w0.heap.size ∨ (∃ o x, g.S k o = some x) ∨ reX g objs k) → w'.heap[k]? = w.heap[k]? := fun k h1 h2 => by
    refine Classical.byContradiction fun h3 => ?_
    obtain ⟨a1, a2, a3⟩ := hb k h1 h3
    rcases h2 with h2 | ⟨o, x, h2⟩ | h2
    · omega
    · rw [a2 o] at h2; cases h2
    · exact a3 h2
  refine ⟨fun b o x h => ?_, fun i ob h => (hw.obj i ob h).same (A := fun _ => True) (GLe.refl _ _) rfl rfl rfl (fun _ _ => trivial) fun b h1 => ⟨hk b (hw.blk_lt h h1) (.inr (.inr ⟨i, ob, h, h1⟩)), fun _ => rfl⟩, hw.apart, ⟨ho.trans hw.fr.os, ht.trans hw.fr.tape, hu.trans hw.fr.output, Nat.le_trans hw.fr.size hs, fun k h1 h2 => (hk k (Nat.lt_of_lt_of_le h1 hw.fr.size) (.inl h1)).trans (hw.fr.block k h1 h2)⟩, hw.old, hw.ext⟩
  have h1 := hw.imm b o x h
  have h2 : b < w.heap.size := by
    refine Classical.byContradiction fun h3 => ?_
    have : w.heap[b]? = none := Array.getElem?_eq_none (Nat.not_lt.1 h3)
    simp [World.cell?, this] at h1
  unfold World.cell? at h1 ⊢
  dsimp only at h1 ⊢
  rw [hk b h2 (.inr (.inl ⟨o, x, h⟩))]
  exact h1
end
end Go.Proofs.YtddmcmkhjkleoaaGreatDoor
end

section
namespace Go.Proofs.YtddmcmkhjkleoaaGreatDoor
open Go.RowKit Go.Shelf
attribute [local go_sem] Oper.semAt_some

/-- The lines of a text. -/
def linesM : List UInt8 → List (List UInt8)
  | [] => [[]]
  | c :: l => if c = 10 then [] :: linesM l else match linesM l with
    | x :: xs => (c :: x) :: xs
    | [] => [[c]]
theorem lines_cons (c : UInt8) (l : List UInt8) (h : c ≠ 10) {x : List UInt8} {xs : List (List UInt8)} (hl : linesM l = x :: xs) : linesM (c :: l) = (c :: x) :: xs := by
  rw [linesM, if_neg h, hl]
theorem index_lf (b : UInt8) (l : List UInt8) : Lib.index (b :: l) [10] = if b = 10 then 0 else if Lib.index l [10] = -1 then -1 else Lib.index l [10] + 1 := by
  rw [Lib.index]
  have : [10].isPrefixOf (b :: l) = (10 == b) := by simp [List.isPrefixOf]
  rw [this]
  by_cases h : b = 10
  · subst h; rfl
  · have h2 : ((10 : UInt8) == b) = false := by rw [beq_eq_false_iff_ne]; exact Ne.symm h
    rw [h2, if_neg h, if_neg (by decide)]
    by_cases h3 : Lib.index l [10] = -1
    · rw [h3]; rfl
    · rw [if_neg h3, if_neg (by simpa using h3)]
theorem lines_none : ∀ {r : List UInt8}, Lib.index r [10] < 0 → linesM r = [r]
  | [], _ => rfl
  | b :: l, h => by
    rw [index_lf] at h
    split at h
    · omega
    · next h1 =>
      have h2 : Lib.index l [10] < 0 := by
        split at h
        · omega
        · have := Lib.index_ge l [10]; omega
      exact lines_cons b l h1 (lines_none h2)
theorem lines_some : ∀ {r : List UInt8} {i : Nat}, Lib.index r [10] = i → i < r.length ∧ linesM r = r.take i :: linesM (r.drop (i + 1))
  | [], i, h => by
    have : Lib.index [] [10] = -1 := rfl
    rw [this] at h; omega
  | b :: l, i, h => by
    rw [index_lf] at h
    split at h
    · next h1 =>
      obtain rfl : i = 0 := by omega
      subst h1
      exact ⟨by simp, rfl⟩
    · next h1 =>
      split at h
      · omega
      · obtain ⟨j, rfl⟩ : ∃ j, i = j + 1 := ⟨i - 1, by have := Lib.index_ge l [10]; omega⟩
        obtain ⟨h3, h4⟩ := lines_some (r := l) (i := j) (by omega)
        exact ⟨by rw [List.length_cons]; omega, by rw [lines_cons b l h1 h4]; rfl⟩
def boxLen (Bs : Nat) (W : World) : Nat := match W.cell? ⟨Bs, 0, none⟩ with
  | some (.string b) => b.size
  | _ => 0
/-- The iterator's boxes. -/
structure SpB (Bp Bs Bv : Nat) (r : List UInt8) (W : World) : Prop where
  sep : W.heap[Bp]? = some (.cells #[.string ⟨#[10]⟩] 9 (0, 0))
  str : W.heap[Bs]? = some (.cells #[.string ⟨r.toArray⟩] 9 (0, 0))
  sav : W.heap[Bv]? = some (.cells #[.int .i64 0] 3 (0, 0))
def spK (Bp Bs Bv : Nat) (k : Nat) : Prop := k = Bp ∨ k = Bs ∨ k = Bv ∨ ∃ p ∈ tabs, k = p.1
theorem SpB.keep {Bp Bs Bv : Nat} {r : List UInt8} {W W' : World} (h : SpB Bp Bs Bv r W) (hk : KeepS (spK Bp Bs Bv) W W') : SpB Bp Bs Bv r W' :=
  ⟨(hk.same Bp (.inl rfl)).trans h.sep, (hk.same Bs (.inr (.inl rfl))).trans h.str, (hk.same Bv (.inr (.inr (.inl rfl)))).trans h.sav⟩
theorem tabs_keep {Bp Bs Bv : Nat} {W W' : World} (h : TabsIn W) (hk : KeepS (spK Bp Bs Bv) W W') : TabsIn W' := fun p hp => by
  obtain ⟨cs, t, fr, h0, h1⟩ := h p hp
  exact ⟨cs, t, fr, h0, (hk.same p.1 (.inr (.inr (.inr ⟨p, hp, rfl⟩)))).trans h1⟩
theorem index_any (r : List UInt8) (hr : r.length < 4294967281) (W : World) (ht : TabsIn W) : Calls Tryz.prog 63 #[.string ⟨r.toArray⟩, .string ⟨#[10]⟩] W fun e w' => e = .returned (.int .i64 (Lib.index r [10])) ∧ w' = W := by
  obtain ⟨m, hm⟩ := max_len ht
  exact Any.strings_Index (ρ := Tryz.has_ren) { Tryz.has with } ⟨r.toArray⟩ ⟨#[10]⟩ m W (by rw [str_size]; exact hr) hm
set_option maxRecDepth 100000 in
set_option maxHeartbeats 2000000 in
theorem split_seq (n : Nat) (hn : 1 ≤ n) (s : List UInt8) (hs : s.length ≤ 2000000) (Bp Bs Bv : Nat) (h1 : Bp ≠ Bs) (h2 : Bv ≠ Bs) (h3 : ∀ p ∈ tabs, p.1 ≠ Bs) (w : World) (hb : SpB Bp Bs Bv s w) (ht : TabsIn w) :
    SeqBox Fence.wide n Tryz.prog 61 #[.pointer (some ⟨Bp, 0, none⟩), .pointer (some ⟨Bs, 0, none⟩), .pointer (some ⟨Bv, 0, none⟩)] (fun x : List UInt8 => #[Value.string ⟨x.toArray⟩]) (spK Bp Bs Bv) Bs (fun xs => xs = linesM s) (fun pre => ∃ k, pre = (linesM s).take k) w := by
  intro y J Jx W hW hJ hJs hY h0
  have hb0 := hb.keep hW
  have ht0 := tabs_keep ht hW
  refine callsIn_of_wp Tryz.func61 rfl trivial ?_ rfl
  simp only [Tryz.ntmps61, List.size_toArray, List.length_cons, List.length_nil, Nat.reduceAdd, Nat.reduceSub, Array.replicate_succ, Array.replicate_zero, List.push_toArray, List.append_toArray, List.nil_append, List.cons_append]
  have c1 : W.cell? ⟨Bp, 0, none⟩ = some (.string ⟨#[10]⟩) := by simp [World.cell?, hb0.sep]
  gi_wp2
  gi_loopw [7] (fun _ wr => ∃ (pre : List (List UInt8)) (r : List UInt8), linesM s = pre ++ linesM r ∧ r.length ≤ s.length ∧ SpB Bp Bs Bv r wr ∧ TabsIn wr ∧ J pre wr) (fun _ wr => boxLen Bs wr)
  case atStart => exact ⟨[], s, rfl, Nat.le_refl _, hb0, ht0, h0⟩
  case round =>
    obtain ⟨pre, r, hl, hrl, hbx, htx, hJx1⟩ := hrel
    have x1 : wr.cell? ⟨Bp, 0, none⟩ = some (.string ⟨#[10]⟩) := by simp [World.cell?, hbx.sep]
    have x2 : wr.cell? ⟨Bs, 0, none⟩ = some (.string ⟨r.toArray⟩) := by simp [World.cell?, hbx.str]
    have x3 : wr.cell? ⟨Bv, 0, none⟩ = some (.int .i64 0) := by simp [World.cell?, hbx.sav]
    have hsz : (⟨r.toArray⟩ : ByteArray).size = r.length := str_size r
    have CI := index_any r (by omega) wr htx
    rcases Int.lt_or_le (Lib.index r [10]) 0 with hneg | hpos
    · have hlr := lines_none hneg
      rw [hlr] at hl
      have hS := Lib.hid hl
      obtain ⟨fn, tmps, assign, body, hy, hR⟩ := hY pre r wr hJx1 ⟨(pre ++ [r]).length, by rw [hS.out, List.take_length]⟩
      generalize Lib.index r [10] = ix at *
      have q1 : decide (ix < 0) = true := decide_eq_true hneg
      clear hl hlr c1
      gi_wp2_with fail
      refine ⟨trivial, (callsIn_wide.2 CI).mono ?_⟩
      rintro _ W1 ⟨rfl, hw1⟩
      subst hw1
      gi_wp2
      refine hR.mono ?_
      rintro e W3 (⟨rfl, hJ3, hk3⟩ | ⟨rfl, hJx3⟩)
      · gi_wp2
        go_end0
        exact ⟨⟨_, rfl⟩, .inl ⟨_, hS.out.symm, hJ3⟩⟩
      · gi_wp2
        go_end0
        exact ⟨⟨_, rfl⟩, .inr ⟨_, ⟨(pre ++ [r]).length, by rw [hS.out, List.take_length]⟩, hJx3⟩⟩
    · obtain ⟨i, hi⟩ := Int.eq_ofNat_of_zero_le hpos
      obtain ⟨hlt, hlr⟩ := lines_some hi
      rw [hlr] at hl
      have hS := Lib.hid (show linesM s = (pre ++ [r.take i]) ++ linesM (r.drop (i + 1)) by rw [hl]; simp)
      obtain ⟨fn, tmps, assign, body, hy, hR⟩ := hY pre (r.take i) wr hJx1 ⟨(pre ++ [r.take i]).length, by rw [hS.out, List.take_left' rfl]⟩
      have e0 : (⟨r.toArray⟩ : ByteArray).extract 0 i = ⟨(r.take i).toArray⟩ := by rw [Lib.extract_eq]; simp
      have e1 : (⟨r.toArray⟩ : ByteArray).extract (i + 1) r.length = ⟨(r.drop (i + 1)).toArray⟩ := by rw [Lib.extract_eq, List.take_of_length_le (by rw [List.length_drop]; exact Nat.le_refl _)]
      rw [hi] at CI
      have q1 : decide ((i : Int) < 0) = false := decide_eq_false (by omega)
      clear hl hlr c1 hi hpos
      gi_wp2_with fail
      refine ⟨trivial, (callsIn_wide.2 CI).mono ?_⟩
      rintro _ W1 ⟨rfl, hw1⟩
      subst hw1
      gi_wp2
      refine hR.mono ?_
      rintro e W3 (⟨rfl, hJ3, hk3⟩ | ⟨rfl, hJx3⟩)
      · have hb3 := hbx.keep hk3
        have ht3 := tabs_keep htx hk3
        have y1 : W3.cell? ⟨Bp, 0, none⟩ = some (.string ⟨#[10]⟩) := by simp [World.cell?, hb3.sep]
        have y2 : W3.cell? ⟨Bs, 0, none⟩ = some (.string ⟨r.toArray⟩) := by simp [World.cell?, hb3.str]
        have y3 : W3.frozen? ⟨Bs, 0, none⟩ = false := by simp [World.frozen?, hb3.str]
        gi_wp2
        have hBs : (W3.setCell ⟨Bs, 0, none⟩ (.string ⟨(r.drop (i + 1)).toArray⟩)).heap[Bs]? = some (.cells #[.string ⟨(r.drop (i + 1)).toArray⟩] 9 (0, 0)) := by
          simp [World.setCell, Array.getElem?_modify, hb3.str]
        have hot : ∀ k, k ≠ Bs → (W3.setCell ⟨Bs, 0, none⟩ (.string ⟨(r.drop (i + 1)).toArray⟩)).heap[k]? = W3.heap[k]? := fun k hk => Below.heap_setCell _ _ _ _ hk
        refine ⟨⟨pre ++ [r.take i], r.drop (i + 1), hS.out, by rw [List.length_drop]; omega, ⟨(hot Bp h1).trans hb3.sep, hBs, (hot Bv h2).trans hb3.sav⟩, fun p hp => ?_, hJs _ _ _ hJ3⟩, ?_⟩
        · obtain ⟨cs, t, fr, q2, q3⟩ := ht3 p hp
          exact ⟨cs, t, fr, q2, (hot p.1 (h3 p hp)).trans q3⟩
        · have z1 : boxLen Bs (W3.setCell ⟨Bs, 0, none⟩ (.string ⟨(r.drop (i + 1)).toArray⟩)) = r.length - (i + 1) := by
            have : (⟨(r.drop (i + 1)).toArray⟩ : ByteArray).size = r.length - (i + 1) := by rw [str_size, List.length_drop]
            simp only [boxLen, World.cell?, hBs]
            simpa using this
          have z2 : boxLen Bs W1 = r.length := by
            simp only [boxLen, x2]; exact hsz
          rw [z1, z2]; omega
      · gi_wp2
        refine bodyPost_ret (results_none rfl _ _ _) rfl ?_
        refine ⟨⟨_, rfl⟩, .inr ⟨_, ⟨(pre ++ [r.take i]).length, ?_⟩, hJx3⟩⟩
        rw [hS.out, List.take_left']
        rfl
end Go.Proofs.YtddmcmkhjkleoaaGreatDoor
end

section
namespace Go.Proofs.YtddmcmkhjkleoaaGreatDoor
open Go.RowKit
section
variable {P : Program} {o : Oper} {σ : Nat → T}
theorem b_shl (k k' : IntKind) (t : TypeId) (a : Int) (n : Nat) (h : n ≤ k.bits) : BinR P .shl t (.int k a) (.int k' n) (.int k (k.wrap (a * 2 ^ n))) := fun x y w => by
  have h2 : ¬ ((n : Int) < 0) := by omega
  simp [eqGuard, binOp, Op.shift, Nat.min_eq_left h, h2]
theorem b_neq_err (t u : TypeId) (x : Value) (h : P.underlying t = some (.interface (P.methodsAt t))) : BinR P .neq t (.iface u x) .nilIface (.bool true) := fun _ _ w => by
  have := run_neq_held_nil (P := P) (w := w) t u x h
  simpa [eqGuard] using this
/-- An error that is not nil. -/
def isErr : Value → Bool
  | .iface _ _ => true
  | _ => false
theorem t_neq_nil {t u : TypeId} {x : Operand} (ho : o.op = .binOp .neq t x (.const .nilIface) u) (hx : opT σ x = .d (.v .nilIface)) (h : P.underlying t = some (.interface (P.methodsAt t))) : Tri P o σ [] (boolT false) [] :=
  .val fun _ g _ ac w hrp _ _ => ⟨.bool false, by
    have e1 := hrp x (by rw [ho]; simp [Op.operands])
    rw [hx] at e1
    have e2 : ac.eval (.const .nilIface) = .nilIface := rfl
    have h2 : (do eqGuard .neq t x (.const .nilIface) .nilIface .nilIface; binOp .neq t .nilIface .nilIface : Sem Value).run P w = .ok (.bool false) w := by
      rw [eqGuard_nil_constR]
      simpa using run_neq_nil_nil (P := P) (w := w) t h
    unfold execOp; rw [ho]
    simp only [inv_v e1, e2]
    simp only [Sem.run_bind] at h2 ⊢
    rw [h2]; rfl, rep_v rfl⟩
theorem t_neq_pr {t u : TypeId} {x : Operand} (ho : o.op = .binOp .neq t x (.const .nilIface) u) (hx : opT σ x = .pr isErr) (h : P.underlying t = some (.interface (P.methodsAt t))) : Tri P o σ [] (boolT true) [] :=
  .val fun _ g _ ac w hrp _ _ => ⟨.bool true, by
    have e1 := hrp x (by rw [ho]; simp [Op.operands])
    rw [hx] at e1
    obtain ⟨te, pe, e2⟩ : ∃ te pe, ac.eval x = .iface te pe := by
      cases e1 with
      | pr h1 h2 =>
        generalize ac.eval x = y at h2
        cases y <;> first | exact ⟨_, _, rfl⟩ | cases h2
    have e3 : ac.eval (.const .nilIface) = .nilIface := rfl
    have h2 := b_neq_err t te pe h x (.const .nilIface) w
    unfold execOp; rw [ho]
    simp only [e2, e3]
    simp only [Sem.run_bind] at h2 ⊢
    rw [h2]; rfl, rep_v rfl⟩
end
end Go.Proofs.YtddmcmkhjkleoaaGreatDoor
end

section
namespace Go.Proofs.YtddmcmkhjkleoaaGreatDoor
open Go.RowKit

theorem err_syntax (w : World) (h : TabsIn w) : ∃ t p, w.cell? ⟨7, 0, none⟩ = some (.iface t p) := by
  obtain ⟨cs, t, fr, ⟨te, pe, rfl⟩, h1⟩ := h (7, errV) (by unfold tabs; simp)
  exact ⟨te, pe, by simp [World.cell?, h1]⟩
theorem err_range (w : World) (h : TabsIn w) : ∃ t p, w.cell? ⟨8, 0, none⟩ = some (.iface t p) := by
  obtain ⟨cs, t, fr, ⟨te, pe, rfl⟩, h1⟩ := h (8, errV) (by unfold tabs; simp)
  exact ⟨te, pe, by simp [World.cell?, h1]⟩
theorem ascii_of {l : List UInt8} (h : l.all (fun b => decide (b.toNat < 128)) = true) : ∀ (j : Nat) b, l[j]? = some b → b.toNat < 128 := fun _ b hj => of_decide_eq_true (List.all_eq_true.1 h b (List.mem_of_getElem? hj))
theorem trimS_fn (s : List UInt8) : FnD Tryz.prog 36 [strT s, strT [32, 9]] (strT (Lib.trimLeftS s [32, 9])) := FnD.flat rfl fun w g vs _ hr => by
  cases hr with | cons h1 hr => cases hr with | cons h2 hr => cases hr; cases inv_v h1; cases inv_v h2; exact (Any.strings_TrimLeft_ascii Tryz.trimL (fun w => (Tryz.zeroValue117 w).trans (congrArg (fun v => Result.ok v w) (by kernel_rfl))) (by kernel_rfl) ⟨s.toArray⟩ ⟨#[32, 9]⟩ w (by decide) (ascii_of (l := [32, 9]) (by decide))).mono fun e w' ⟨h1, h2⟩ => ⟨h1, h2⟩
abbrev digitsL : List UInt8 := [48, 49, 50, 51, 52, 53, 54, 55, 56, 57]
theorem trimD_fn (s : List UInt8) (hs : s.length ≤ 9223372036854775807) : FnD Tryz.prog 98 [strT s, strT digitsL] (strT (Lib.trimS s digitsL)) := FnD.flat rfl fun w g vs _ hr => by
  cases hr with | cons h1 hr => cases hr with | cons h2 hr => cases hr; cases inv_v h1; cases inv_v h2; exact (Any.strings_Trim_ascii Tryz.trim (fun w => (Tryz.zeroValue117 w).trans (congrArg (fun v => Result.ok v w) (by kernel_rfl))) (by kernel_rfl) ⟨s.toArray⟩ ⟨digitsL.toArray⟩ w (by rw [str_size]; exact hs) (by decide) (ascii_of (l := digitsL) (by decide))).mono fun e w' ⟨h1, h2⟩ => ⟨h1, h2⟩
def numV (s : List UInt8) : Int := match Lib.parseIntB 64 s with | .ok v => v | .range => Lib.intSat 64 s | _ => 0
def numOk (s : List UInt8) : Bool := match Lib.parseIntB 64 s with | .ok _ => true | _ => false
def numE (b : Bool) : T := match b with | true => .d (.v .nilIface) | false => .pr isErr
theorem pint_fn (s : List UInt8) (hs : s.length ≤ 281474976710656) : FnD Tryz.prog 97 [strT s, intT 10, intT 64] (.tup [intT (numV s), numE (numOk s)]) := by
  intro w g vs ht hi hr
  cases hr with
  | cons r0 hr =>
  cases hr with
  | cons r1 hr =>
  cases hr with
  | cons r2 hr =>
  cases hr
  obtain rfl := inv_v r0
  obtain rfl := inv_v r1
  obtain rfl := inv_v r2
  have fin : ∀ {e : Ending} {w' : World}, (∃ ev, e = .returned (.tuple #[.int .i64 (numV s), ev]) ∧ (∀ S, RepT ⟨S, g.blk, g.row, g.len⟩ (numE (numOk s)) ev) ∧ Below w.heap.size w w') →
      ∃ v S', e = .returned v ∧ SLe g.S S' ∧ (∀ b o, b < w.heap.size → S' b o = g.S b o) ∧ (∀ b o x, S' b o = some x → w'.cell? ⟨b, o, none⟩ = some x) ∧ RepT ⟨S', g.blk, g.row, g.len⟩ (.tup [intT (numV s), numE (numOk s)]) v ∧ Below w.heap.size w w' := by
    rintro e w' ⟨ev, rfl, he, hb⟩
    refine ⟨_, g.S, rfl, SLe.refl _, fun _ _ _ => rfl, fun b o x hx => ?_, .tup (.cons (.d (.v rfl)) (.cons (he g.S) .nil)), hb⟩
    rw [hb.cell (p := ⟨b, o, none⟩) (World.block_lt_of_cell? w ⟨b, o, none⟩ (hi b o x hx))]
    exact hi b o x hx
  have hsz : (⟨s.toArray⟩ : ByteArray).size = s.length := str_size s
  cases hp : Lib.parseIntB 64 s
  case ok v =>
    have e1 : numV s = v := by unfold numV; rw [hp]
    have e2 : numOk s = true := by unfold numOk; rw [hp]
    rw [e1, e2] at fin
    rw [e1, e2]
    refine (Any.strconv_ParseInt_10_at64_ok Tryz.pInt ⟨s.toArray⟩ (by omega) v hp w).mono fun e w' ⟨h1, h2⟩ => fin ⟨_, h1, fun S => .d (.v rfl), ?_⟩
    rcases h2 with rfl | ⟨t, rfl⟩
    · exact Below.refl _ _
    · exact Lib.bytesWorld_below _ _ _
  case range =>
    have e1 : numV s = Lib.intSat 64 s := by unfold numV; rw [hp]
    have e2 : numOk s = false := by unfold numOk; rw [hp]
    rw [e1, e2] at fin
    rw [e1, e2]
    obtain ⟨t, p, hv⟩ := err_range w ht
    exact (Any.strconv_ParseInt_10_at64_range Tryz.pInt ⟨s.toArray⟩ (by omega) hp _ w hv (.inr ⟨t, p, rfl⟩)).mono fun e w' ⟨N, h1, h2, h3, h4⟩ => fin ⟨_, h1, fun S => .pr rfl rfl, h4⟩
  · have e1 : numV s = 0 := by unfold numV; rw [hp]
    have e2 : numOk s = false := by unfold numOk; rw [hp]
    rw [e1, e2] at fin
    rw [e1, e2]
    obtain ⟨t, p, hv⟩ := err_syntax w ht
    exact (Any.strconv_ParseInt_10_at64_syntax Tryz.pInt ⟨s.toArray⟩ (by omega) hp _ w hv (.inr ⟨t, p, rfl⟩)).mono fun e w' ⟨N, h1, h2, h3, h4⟩ => fin ⟨_, h1, fun S => .pr rfl rfl, h4⟩
end Go.Proofs.YtddmcmkhjkleoaaGreatDoor
end

section
namespace Go.Proofs.YtddmcmkhjkleoaaGreatDoor
open Go.RowKit

/-- The reader's objects: itself; its functions (of which the last one turns), constants, texts, the words' numbers; what the last function has caught, and its orders. -/
abbrev RO (v1 : Nat) (dn : List D) (ts : List T) (cs tx : List D) (M : List (Value × D)) (v2 : Nat) (ca : List D) (v3 : Nat) (co : List D) (b : Bool) : Ob :=
  [(1000, .cells 63 [.stk 1001 v1 .all, .own 2 cs 1002, .own 1 tx 1003, .mp 1004, boolT b]), (1001, .frow 39 5 v1 dn ts), (1002, .row 55 2 cs), (1003, .row 9 1 tx), (1004, .map .string M),
   (1005, .stk 3 1 v2 ca), (1006, .stk 41 5 v3 co)]
abbrev idR : List (Nat × Nat) := [(1000, 1000), (1001, 1001), (1002, 1002), (1003, 1003), (1004, 1004), (1005, 1005), (1006, 1006)]
/-- No function yet, or the last one's parts. -/
def Shape (v2 v3 : Nat) (ts : List T) : Prop := ts = [] ∨ ∃ (p r : Int) (g : Bool), ts = [intT p, intT r, boolT g, .stk 1005 v2 .all, .stk 1006 v3 .all]
/-- Whether a word is no number. -/
def numB (w : List UInt8) : Bool := !numOk w || (Lib.trimPrefix w [45]).isEmpty || decide (19 < (Lib.trimPrefix w [45]).length) || !(Lib.trimS (Lib.trimPrefix w [45]) digitsL).isEmpty
theorem numE_cases (b : Bool) : numE b = .d (.v .nilIface) ∨ numE b = .pr isErr := by cases b; exact .inr rfl; exact .inl rfl
theorem trimPrefix_len (s p : List UInt8) : (Lib.trimPrefix s p).length ≤ s.length := by
  unfold Lib.trimPrefix
  split
  · rw [List.length_drop]; omega
  · exact Nat.le_refl _
set_option maxRecDepth 100000 in
theorem number_fn (w : List UInt8) (hw : w.length ≤ 1000000000) (v1 : Nat) (dn : List D) (ts : List T) (cs tx : List D) (M : List (Value × D)) (v2 : Nat) (ca : List D) (v3 : Nat) (co : List D) (b : Bool) (hts : Shape v2 v3 ts) :
    FnO Tryz.prog 74 [.ref 1000 0, strT w] (RO v1 dn ts cs tx M v2 ca v3 co b) (intT (numV w)) (RO v1 dn ts cs tx M v2 ca v3 co (b || numB w)) := by
  have h1 := trimP_fn w [45]
  have h2 := pint_fn w (by omega)
  have hl := trimPrefix_len w [45]
  have h3 := trimD_fn (Lib.trimPrefix w [45]) (by omega)
  have hi : Tryz.prog.underlying 50 = some (.interface (Tryz.prog.methodsAt 50)) := by kernel_rfl
  unfold numB
  have hz : (0 : Int) ≤ (Lib.trimPrefix w [45]).length := by omega
  generalize numV w = nv at *
  generalize Lib.trimPrefix w [45] = d at *
  generalize Lib.trimS d digitsL = q at *
  cases hb : numOk w with
  | false =>
    rw [hb] at h2
    simp only [numE, Bool.not_false, Bool.true_or, Bool.or_true] at h2 ⊢
    rcases hts with rfl | ⟨fp, fr, fg, rfl⟩
    all_goals
      refine FnO.of1 (n := 35) [] fax_ok Tryz.func74 rfl rfl rfl (by rfl) (by rfl) (by kernel_rfl) fun Γ hA hbA hbO => ?_
      (repeat ((conv => whnf); (first | refine gd (enters_of Tryz.func96 rfl rfl) h1 ?_ | refine gd (enters_of Tryz.func97 rfl rfl) h2 ?_)))
      refine gen_nil (t_neq_pr rfl rfl hi) ?_
      (repeat ((conv => whnf); (first | refine tT ?_ | refine uF ?_)))
      exact ⟨eN, rS, fiO⟩
  | true =>
    rw [hb] at h2
    simp only [numE, Bool.not_true, Bool.false_or] at h2 ⊢
    by_cases hd : d = []
    · have hq : (d == []) = true := by rw [hd]; rfl
      have hr : (b || (d.isEmpty || decide (19 < d.length) || !q.isEmpty)) = true := by rw [hd]; simp
      rw [hr]
      rcases hts with rfl | ⟨fp, fr, fg, rfl⟩
      all_goals
        refine FnO.of1 (n := 35) [] fax_ok Tryz.func74 rfl rfl rfl (by rfl) (by rfl) (by kernel_rfl) fun Γ hA hbA hbO => ?_
        (repeat ((conv => whnf); (first | refine gd (enters_of Tryz.func96 rfl rfl) h1 ?_ | refine gd (enters_of Tryz.func97 rfl rfl) h2 ?_)))
        refine gen_nil (t_neq_nil rfl rfl hi) ?_
        (repeat ((conv => whnf); (first | refine exR ?_ | refine tT ?_ | refine tF ?_ | refine uT ?_ | refine uF ?_)))
        exact ⟨eN, rS, fiO⟩
    · have hq : (d == []) = false := by rw [beq_eq_false_iff_ne]; exact hd
      by_cases h19 : 19 < d.length
      · have hr : (b || (d.isEmpty || decide (19 < d.length) || !q.isEmpty)) = true := by rw [decide_eq_true h19]; simp
        rw [hr]
        have h19i : decide (19 < (d.length : Int)) = true := decide_eq_true (by omega)
        rcases hts with rfl | ⟨fp, fr, fg, rfl⟩
        all_goals
          refine FnO.of1 (n := 35) [] fax_ok Tryz.func74 rfl rfl rfl (by rfl) (by rfl) (by kernel_rfl) fun Γ hA hbA hbO => ?_
          (repeat ((conv => whnf); (first | refine gd (enters_of Tryz.func96 rfl rfl) h1 ?_ | refine gd (enters_of Tryz.func97 rfl rfl) h2 ?_)))
          refine gen_nil (t_neq_nil rfl rfl hi) ?_
          (repeat ((conv => whnf); (first | refine exR ?_ | refine tT ?_ | refine tF ?_ | refine uT ?_ | refine uF ?_)))
          exact ⟨eN, rS, fiO⟩
      · have h19i : decide (19 < (d.length : Int)) = false := decide_eq_false (by omega)
        have hde : d.isEmpty = false := by cases d with | nil => exact absurd rfl hd | cons _ _ => rfl
        rw [hde, decide_eq_false h19]
        by_cases hq2 : q = []
        · have hq3 : (!(q == [])) = false := by rw [hq2]; rfl
          have hr : (b || (false || false || !q.isEmpty)) = b := by rw [hq2]; simp
          rw [hr]
          rcases hts with rfl | ⟨fp, fr, fg, rfl⟩
          all_goals
            refine FnO.of1 (n := 35) [] fax_ok Tryz.func74 rfl rfl rfl (by rfl) (by rfl) (by kernel_rfl) fun Γ hA hbA hbO => ?_
            (repeat ((conv => whnf); (first | refine gd (enters_of Tryz.func96 rfl rfl) h1 ?_ | refine gd (enters_of Tryz.func97 rfl rfl) h2 ?_)))
            refine gen_nil (t_neq_nil rfl rfl hi) ?_
            (repeat ((conv => whnf); (first | refine exR ?_ | refine gd (enters_of Tryz.func98 rfl rfl) h3 ?_ | refine tF ?_ | refine uT ?_)))
            exact ⟨eN, rS, fiO⟩
        · have hq3 : (!(q == [])) = true := by rw [beq_eq_false_iff_ne.2 hq2]; rfl
          have hqe : q.isEmpty = false := by cases q with | nil => exact absurd rfl hq2 | cons _ _ => rfl
          have hr : (b || (false || false || !q.isEmpty)) = true := by rw [hqe]; simp
          rw [hr]
          rcases hts with rfl | ⟨fp, fr, fg, rfl⟩
          all_goals
            refine FnO.of1 (n := 35) [] fax_ok Tryz.func74 rfl rfl rfl (by rfl) (by rfl) (by kernel_rfl) fun Γ hA hbA hbO => ?_
            (repeat ((conv => whnf); (first | refine gd (enters_of Tryz.func96 rfl rfl) h1 ?_ | refine gd (enters_of Tryz.func97 rfl rfl) h2 ?_)))
            refine gen_nil (t_neq_nil rfl rfl hi) ?_
            (repeat ((conv => whnf); (first | refine exR ?_ | refine gd (enters_of Tryz.func98 rfl rfl) h3 ?_ | refine tT ?_ | refine tF ?_ | refine uT ?_)))
            exact ⟨eN, rS, fiO⟩
theorem digit_fn (b : UInt8) : FnD Tryz.prog 70 [u8T b] (intT (Lib.indexByte [48, 49, 50, 51, 52, 53, 54, 55, 56, 57, 97, 98, 99, 100, 101, 102] b)) := by
  have h := indexB_fn [48, 49, 50, 51, 52, 53, 54, 55, 56, 57, 97, 98, 99, 100, 101, 102] b
  generalize Lib.indexByte [48, 49, 50, 51, 52, 53, 54, 55, 56, 57, 97, 98, 99, 100, 101, 102] b = r at *
  refine FnD.of1 (n := 5) [] fax_ok Tryz.func70 rfl rfl rfl (by rfl) (by kernel_rfl) (by intro _; rfl) fun Γ hA hbA => ?_
  (repeat ((conv => whnf); refine gd (enters_of Tryz.func38 rfl rfl) h ?_))
  exact ⟨eN, rS, fiO⟩
end Go.Proofs.YtddmcmkhjkleoaaGreatDoor
end

section
namespace Go.Proofs.YtddmcmkhjkleoaaGreatDoor
open Go.RowKit

abbrev numsD (ws : List (List UInt8)) : List D := (ws.map numV).map iD
theorem numsD_snoc {ws : List (List UInt8)} {i : Nat} {w : List UInt8} (h : ws[i]? = some w) : numsD (ws.take (i + 1)) = numsD (ws.take i) ++ [iD (numV w)] := by
  rw [List.take_add_one, h]; simp [numsD]
theorem anyB_snoc {ws : List (List UInt8)} {i : Nat} {w : List UInt8} (h : ws[i]? = some w) (b : Bool) : (b || (ws.take (i + 1)).any numB) = ((b || (ws.take i).any numB) || numB w) := by
  rw [List.take_add_one, h]; simp [Bool.or_assoc]
set_option maxRecDepth 100000 in
theorem rnumbers_fn (ws : List (List UInt8)) (hl : ws.length ≤ 5000000) (hw : ∀ w ∈ ws, w.length ≤ 1000000000) (v1 : Nat) (dn : List D) (ts : List T) (cs tx : List D) (M : List (Value × D)) (v2 : Nat) (ca : List D) (v3 : Nat) (co : List D) (b : Bool) (hts : Shape v2 v3 ts) :
    FnO Tryz.prog 43 [.ref 1000 0, .d (txD ws)] (RO v1 dn ts cs tx M v2 ca v3 co b) (.own 1 (numsD ws) 5) ((5, .row 3 1 (numsD ws)) :: RO v1 dn ts cs tx M v2 ca v3 co (b || ws.any numB)) := by
  have hnum := fun w h b => number_fn w h v1 dn ts cs tx M v2 ca v3 co b hts
  rcases hts with rfl | ⟨fp, fr, fg, rfl⟩
  all_goals
    refine FnO.of1 (n := 22) [5] fax_ok Tryz.func43 rfl rfl rfl (by rfl) (by rfl) (by kernel_rfl) fun Γ hA hbA hbO => ?_
    (repeat ((conv => whnf); refine And.intro rfl ?_))
    refine ev_loop [] fax_ok hA (by kernel_rfl) (fun i : Nat => i ≤ ws.length) (fun i => [(0, .ref 1000 0), (5, .own 1 (numsD (ws.take i)) 5), (8, .d (txD ws)), (9, intT ws.length), (10, intT i)]) (fun i => (5, .row 3 1 (numsD (ws.take i))) :: RO v1 dn _ cs tx M v2 ca v3 co (b || (ws.take i).any numB)) (fun i => ws.length - i) 0 (Nat.zero_le _) (by rw [← List.length_map strD]; exact fiE) (by rw [show (b || (ws.take 0).any numB) = b by simp]; exact fiO) ?_
    rintro i hi hb -
    by_cases h : i < ws.length
    · have hx0 : ws[i]? = some ws[i] := List.getElem?_eq_getElem h
      have hx : (ws.map strD)[i]? = some (strD ws[i]) := by rw [List.getElem?_map, hx0, Option.map_some]
      have hs := numsD_snoc hx0
      have hbb := anyB_snoc hx0 b
      have hN := hnum ws[i] (hw _ (List.getElem_mem h)) (b || (ws.take i).any numB)
      have hlen : (numsD (ws.take i)).length ≤ 5000000 := by simp only [numsD, List.length_map, List.length_take]; omega
      generalize hse : numsD (ws.take (i + 1)) = L2 at *
      generalize numsD (ws.take i) = L at *
      generalize hbe : (b || (ws.take (i + 1)).any numB) = b2 at *
      generalize (b || (ws.take i).any numB) = b1 at *
      generalize ws[i] = w at *
      have hm : L.length + 1 ≤ 10000000 := by omega
      (repeat ((conv => whnf); (first | with_reducible refine exE _ (w_inc (by omega)) ?_ | refine exR ?_ | refine gO idR (enters_of Tryz.func74 rfl rfl) hN ?_ | refine tT ?_ | refine And.intro rfl ?_ | refine lQ ?_ | refine exI _ rfl (by assumption) ?_)))
      refine ⟨i + 1, by omega, by omega, (by rw [hse, hs]; exact fiE), (by rw [hse, hs, hbe, hbb]; exact fiO)⟩
    · have hi2 : ws.take i = ws := List.take_of_length_le (by omega)
      rw [hi2]
      (repeat ((conv => whnf); (first | refine exR ?_ | refine tF ?_)))
      exact ⟨eN, rS, fiO⟩
end Go.Proofs.YtddmcmkhjkleoaaGreatDoor
end
