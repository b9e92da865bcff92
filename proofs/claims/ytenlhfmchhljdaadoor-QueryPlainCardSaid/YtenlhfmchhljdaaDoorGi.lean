/-
  Ghost values: what code asks for, reckoned; a function by what its code asks for.
-/
import Derived.Test.YtenlhfmchhljdaaDoorGh
namespace Go.Proofs.YtenlhfmchhljdaaDoor
open Go.RowKit

abbrev QE := Exit → En → Ob → Prop
noncomputable def gdst (l : List Oper) (n : Nat) : Option Tmp := List.rec (motive := fun _ => Nat → Option Tmp) (fun _ => none) (fun o _ ih n => match n with | 0 => o.dst | n + 1 => ih n) l n
/-! Values first: what is handed on is reckoned. -/
noncomputable def fL {α : Type} (l : List α) (k : List α → Prop) : Prop := List.rec (motive := fun _ => (List α → Prop) → Prop) (fun k => k []) (fun x _ ih k => ih fun ys => k (x :: ys)) l k
noncomputable def fT (v : T) (k : T → Prop) : Prop := match v with
  | .d (.v x) => k (.d (.v x))
  | .d (.agg l) => k (.d (.agg l))
  | .d (.sl n l) => k (.d (.sl n l))
  | .pi ds => k (.pi ds)
  | .ref i o => k (.ref i o)
  | .own n l i => k (.own n l i)
  | .mrow i n => k (.mrow i n)
  | .mp i => k (.mp i)
  | .stk i v p => k (.stk i v p)
  | .fn f l => k (.fn f l)
  | .bf f l => k (.bf f l)
  | .tup l => k (.tup l)
  | .ag l => fL l fun l => k (.ag l)
  | .pr p => k (.pr p)
  | .und => k .und
noncomputable def fO (o : GObj) (k : GObj → Prop) : Prop := match o with
  | .cells e ts => fL ts fun ts => k (.cells e ts)
  | .vac => k .vac
  | .gone => k .gone
  | .row e n l => k (.row e n l)
  | .map d M => k (.map d M)
  | .stk e n v l => k (.stk e n v l)
  | .grid e n v l => k (.grid e n v l)
  | .rmap d e n M => k (.rmap d e n M)
noncomputable def addO (ps L : Ob) (k : Ob → Prop) : Prop := List.rec (motive := fun _ => (Ob → Prop) → Prop) (fun k => k L) (fun p _ ih k => fO p.2 fun o => ih fun L' => k ((p.1, o) :: L')) ps k
theorem fL_eq {α : Type} : ∀ (l : List α) (k : List α → Prop), fL l k = k l
  | [], _ => rfl
  | x :: xs, k => fL_eq xs fun ys => k (x :: ys)
theorem fT_eq (v : T) (k : T → Prop) : fT v k = k v := by
  cases v with
  | d d => cases d <;> rfl
  | ag l => exact fL_eq l fun l => k (.ag l)
  | _ => rfl
theorem fO_eq (o : GObj) (k : GObj → Prop) : fO o k = k o := by
  cases o with
  | cells e ts => exact fL_eq ts fun ts => k (.cells e ts)
  | _ => rfl
theorem addO_eq : ∀ (ps L : Ob) (k : Ob → Prop), addO ps L k = k (ps ++ L)
  | [], _, _ => rfl
  | (i, o) :: ps, L, k => by
    show fO o (fun o => addO ps L fun L' => k ((i, o) :: L')) = _
    rw [fO_eq, addO_eq ps L]; rfl
noncomputable def upK (E : En) (d : Option Tmp) (v : T) (k : En → Prop) : Prop := match d with | some d => fT v fun v => k ((d, v) :: E) | none => k E
theorem upK_eq (E : En) (d : Option Tmp) (v : T) (k : En → Prop) : upK E d v k = k (up E d v) := by
  cases d with
  | none => rfl
  | some d => exact fT_eq v fun v => k ((d, v) :: E)
noncomputable def evR (P : Program) (F : Fax) (V : List Nat) (all os : List Oper) (E : En) (L : Ob) (K : List FP → En → Ob → Prop) : Prop := List.rec (motive := fun _ => En → Ob → (List FP → En → Ob → Prop) → Prop) (fun E L K => K [] E L)
  (fun o _ ih E L K => match o.guard with
    | none => evOp P F V o E L fun pre v post => upK E o.dst v fun E' => addO post L fun L' => ih E' L' fun fps => K (⟨pre, post.map (·.1), false⟩ :: fps)
    | some (j, want) => match gdst all j with
      | some t => match sl E t with
        | .d (.v (.bool c)) => (c = want → evOp P F V o E L fun pre v post => upK E o.dst v fun E' => addO post L fun L' => ih E' L' fun fps => K (⟨pre, post.map (·.1), false⟩ :: fps)) ∧
            (c = (!want) → upK E o.dst (.tup []) fun E' => ih E' L fun fps => K (⟨[], [], false⟩ :: fps))
        | .tup [] => upK E o.dst (.tup []) fun E' => ih E' L fun fps => K (⟨[], [], false⟩ :: fps)
        | _ => False
      | none => False) os E L K
/-- The names of the objects that operations make. -/
noncomputable def news (V : List Nat) (os : List Oper) : List Nat := List.rec (motive := fun _ => List Nat) [] (fun o _ ih => match o.dst, o.op with
    | some d, .alloc _ => d :: ih
    | some d, .box _ _ => d :: ih
    | some d, .makeMap _ _ => d :: ih
    | some d, .makeSlice _ _ _ => bif inV V (d + 2000) then d :: ih else bif inV V (d + 3000) then d :: ih else ih
    | some d, .assign (.const (.slice none 0 0)) => bif inV V d then d :: ih else bif inV V (d + 2000) then d :: ih else ih
    | some d, .build _ _ => bif inV V (d + 2000) then d :: ih else ih
    | some d, .buildSlice _ _ _ => bif inV V d then d :: ih else ih
    | some d, .lookup _ _ _ _ => bif inV V d then d :: ih else ih
    | some d, .call _ => bif inV V d then d :: ih else ih
    | some _, _ => ih
    | none, _ => ih) os
/-- Whether a slot speaks of an object. -/
def hasB (c : Nat) (t : T) : Bool := match t with
  | .d _ => false
  | .pi _ => false
  | .pr _ => false
  | .und => false
  | .ref i _ => Nat.beq i c
  | .own _ _ i => Nat.beq i c
  | .mrow i _ => Nat.beq i c
  | .mp i => Nat.beq i c
  | .stk i _ _ => Nat.beq i c
  | t => t.has c
theorem hasB_eq (c : Nat) (t : T) : hasB c t = t.has c := by
  have key : ∀ i : Nat, Nat.beq i c = (i == c) := fun i => by
    by_cases h : i = c
    · subst h; simp
    · rw [show (i == c) = false from by simpa using h]
      cases e : Nat.beq i c with
      | false => rfl
      | true => exact absurd (Nat.eq_of_beq_eq_true e) h
  cases t <;> first | rfl | exact key _
noncomputable def freshE (c : Nat) (E : En) : Bool := List.rec (motive := fun _ => Bool) true (fun p _ ih => bif hasB c p.2 then false else ih) E
noncomputable def freshG (c : Nat) (o : GObj) : Bool := match o with
  | .cells _ ts => List.rec (motive := fun _ => Bool) true (fun t _ ih => bif hasB c t then false else ih) ts
  | _ => true
noncomputable def freshO (c : Nat) (L : Ob) : Bool := List.rec (motive := fun _ => Bool) true (fun p _ ih => bif freshG c p.2 then ih else false) L
noncomputable def dropO (c : Nat) (L : Ob) : Ob := List.rec (motive := fun _ => Ob) [] (fun p _ ih => bif Nat.beq p.1 c then ih else p :: ih) L
noncomputable def vacs (cs : List Nat) (L : Ob) : Ob := List.rec (motive := fun _ => Ob) L (fun c _ ih => (c, .vac) :: dropO c ih) cs
noncomputable def freshs (cs : List Nat) (E : En) (L : Ob) : Bool := List.rec (motive := fun _ => Bool) true (fun c _ ih => Nat.blt c 1000 && (freshE c E && (freshO c L && ih))) cs
def liftE (Q : QE) : GPost := fun e σ objs => ∃ E L, (∀ t, TLe (σ t) (sl E t)) ∧ (∀ id x, obE L id = some x → objs id = some x) ∧ Q e E L
/-- A loop's law. -/
inductive LoopW (P : Program) (Γ : Cx) (n : Nat) (c : Code) (E : En) (L : Ob) (Q : QE) : Prop
  | mk (h : AW P Γ n (.loop c) (sl E) (obE L) (liftE Q)) : LoopW P Γ n c E L Q
def drawQ (draw : Bool) (ops : Array Oper) (fps : List FP) (q : Prop) : Prop := match draw with | true => orderB ops (zipFrom 0 fps) = true ∧ q | false => q
noncomputable def condQ (x : Operand) (E : En) (A B : Prop) : Prop := match x with
  | .tmp t => match sl E t with
    | .d (.v (.bool c)) => (c = true → A) ∧ (c = false → B)
    | _ => False
  | _ => False
/-- What code asks for. -/
noncomputable def evC (P : Program) (F : Fax) (V : List Nat) (Γ : Cx) (n : Nat) (c : Code) : En → Ob → QE → Prop := Code.rec (motive := fun _ => En → Ob → QE → Prop)
  (fun E L Q => Q .normal E L)
  (fun _ ops draw E L Q => match freshs (news V ops.toList) E L with
    | true => addO (vacs (news V ops.toList) L) [] fun L => evR P F V ops.toList ops.toList E L fun fps E' L' => drawQ draw ops fps (Q .normal E' L')
    | false => False)
  (fun _ _ a b E L Q => a E L fun e E' L' => match e with | .normal => b E' L' Q | e => Q e E' L')
  (fun x _ _ a b E L Q => condQ x E (a E L Q) (b E L Q))
  (fun id _ c E L Q => c E L fun e E' L' => match e with | .exit i => (match Nat.beq i id with | true => Q .normal E' L' | false => Q (.exit i) E' L') | e => Q e E' L')
  (fun c _ E L Q => LoopW P Γ n c E L Q)
  (fun _ _ _ _ _ _ _ _ _ => False)
  (fun id E L Q => Q (.exit id) E L)
  (fun _ _ _ _ _ => False)
  (fun _ _ _ _ => False)
  (fun _ _ _ _ => False)
  (fun E L Q => Q .ret E L)
  (fun _ _ _ _ => False) c
def okOps (n : Nat) (ops : List Oper) : Bool := ops.all fun o => match o.dst with | some d => Nat.blt d n | none => true
def okC (n : Nat) : Code → Bool
  | .region _ ops _ => okOps n ops.toList
  | .seq a b => okC n a && okC n b
  | .cond _ a b => okC n a && okC n b
  | .block _ c => okC n c
  | .loop c => okC n c
  | _ => true

/-! ### It serves -/
section
variable {P : Program} {F : Fax} {V : List Nat} {Γ : Cx} {n : Nat}
theorem gdst_get : ∀ (all : List Oper) (j : Nat), (all.toArray[j]?).bind (·.dst) = gdst all j
  | [], j => by simp [gdst]
  | o :: os, 0 => by simp [gdst]
  | o :: os, j + 1 => by
    have := gdst_get os j
    simp only [List.getElem?_toArray, List.getElem?_cons_succ, gdst] at this ⊢
    exact this
theorem evR_run (hF : FaxOK P F) {all : List Oper} : ∀ {os : List Oper} {i : Nat} {E : En} {L : Ob} {K : List FP → En → Ob → Prop}, okOps n os = true → evR P F V all os E L K →
    RunK P all.toArray n i os (sl E) (obE L) fun fps σ objs => ∃ E' L', σ = sl E' ∧ objs = obE L' ∧ K fps E' L'
  | [], i, E, L, K, _, h => RunK.nil ⟨E, L, rfl, rfl, h⟩
  | o :: os, i, E, L, K, hok, h => by
    unfold okOps at hok
    rw [List.all_cons, Bool.and_eq_true] at hok
    have hd : DstLt n o := by
      intro d hd
      have := hok.1
      rw [hd] at this
      exact Nat.le_of_ble_eq_true this
    have step : ∀ {o' : Oper}, o' = o → GuardT all.toArray (sl E) o true → (evOp P F V o E L fun pre v post => upK E o.dst v fun E' => addO post L fun L' => evR P F V all os E' L' fun fps => K (⟨pre, post.map (·.1), false⟩ :: fps)) →
        RunK P all.toArray n i (o :: os) (sl E) (obE L) fun fps σ objs => ∃ E' L', σ = sl E' ∧ objs = obE L' ∧ K fps E' L' := by
      intro o' _ hg h
      obtain ⟨pre, v, post, ht, hp, hk⟩ := evOp_gen hF h
      rw [upK_eq, addO_eq] at hk
      refine RunK.cons ht hd hg hp ?_
      have := evR_run hF (i := i + 1) hok.2 hk
      rw [sl_up, obE_app] at this
      exact this
    have h : (match o.guard with
    | none => evOp P F V o E L fun pre v post => upK E o.dst v fun E' => addO post L fun L' => evR P F V all os E' L' fun fps => K (⟨pre, post.map (·.1), false⟩ :: fps)
    | some (j, want) => match gdst all j with
      | some t => match sl E t with
        | .d (.v (.bool c)) => (c = want → evOp P F V o E L fun pre v post => upK E o.dst v fun E' => addO post L fun L' => evR P F V all os E' L' fun fps => K (⟨pre, post.map (·.1), false⟩ :: fps)) ∧
            (c = (!want) → upK E o.dst (.tup []) fun E' => evR P F V all os E' L fun fps => K (⟨[], [], false⟩ :: fps))
        | .tup [] => upK E o.dst (.tup []) fun E' => evR P F V all os E' L fun fps => K (⟨[], [], false⟩ :: fps)
        | _ => False
      | none => False) := h
    split at h
    · next hg => exact step rfl (gno hg) h
    · next j want hg =>
      split at h
      · next t ht =>
        split at h
        · next c hc =>
          by_cases hcw : c = want
          · subst hcw
            exact step rfl (gyes hg (by rw [gdst_get]; exact ht) hc) (h.1 rfl)
          · have hcn : c = !want := by cases c <;> cases want <;> simp at hcw ⊢
            refine RunK.skip (gskip hg (by rw [gdst_get]; exact ht) (by rw [hc, hcn])) hd ?_
            have h2 := h.2 hcn
            rw [upK_eq] at h2
            have := evR_run hF (i := i + 1) hok.2 h2
            rw [sl_up] at this
            exact this
        · next hc =>
          refine RunK.skip (gnone hg (by rw [gdst_get]; exact ht) hc) hd ?_
          rw [upK_eq] at h
          have := evR_run hF (i := i + 1) hok.2 h
          rw [sl_up] at this
          exact this
        · exact h.elim
      · exact h.elim
theorem freshE_cons (c : Nat) (p : Nat × T) (E : En) : freshE c (p :: E) = bif hasB c p.2 then false else freshE c E := rfl
theorem freshE_ok {c : Nat} : ∀ {E : En}, freshE c E = true → ∀ t, (sl E t).has c = false
  | [], _, t => rfl
  | p :: E, h, t => by
    rw [freshE_cons, hasB_eq] at h
    cases hp : p.2.has c with
    | true => rw [hp] at h; cases h
    | false =>
      rw [hp] at h
      show (match lk (p :: E) t with | some v => v | none => T.und).has c = false
      rw [lk_cons]
      cases Nat.beq t p.1 with
      | true => exact hp
      | false => exact freshE_ok h t
theorem freshG_ok {c : Nat} {o : GObj} (h : freshG c o = true) : o.has c = false := by
  cases o with
  | cells e ts =>
    show T.hass c ts = false
    have h' : List.rec (motive := fun _ => Bool) true (fun t _ ih => bif hasB c t then false else ih) ts = true := h
    clear h
    induction ts with
    | nil => rfl
    | cons t ts ih =>
      have h2 : (bif hasB c t then false else List.rec (motive := fun _ => Bool) true (fun t _ ih => bif hasB c t then false else ih) ts) = true := h'
      rw [hasB_eq] at h2
      cases ht : t.has c with
      | true => rw [ht] at h2; cases h2
      | false =>
        rw [ht] at h2
        rw [T.hass, ht, ih h2]; rfl
  | _ => rfl
theorem freshL_cons (c : Nat) (p : Nat × GObj) (L : Ob) : freshO c (p :: L) = bif freshG c p.2 then freshO c L else false := rfl
theorem freshO_ok {c : Nat} : ∀ {L : Ob}, freshO c L = true → ∀ i ob, obE L i = some ob → ob.has c = false
  | [], _, i, ob, h => by cases h
  | p :: L, h, i, ob, h1 => by
    rw [freshL_cons] at h
    cases hp : freshG c p.2 with
    | false => rw [hp] at h; cases h
    | true =>
      rw [hp] at h
      have h1 : lk (p :: L) i = some ob := h1
      rw [lk_cons] at h1
      cases e : Nat.beq i p.1 with
      | true => rw [e] at h1; cases h1; exact freshG_ok hp
      | false => rw [e] at h1; exact freshO_ok h i ob h1
theorem dropO_cons (c : Nat) (p : Nat × GObj) (L : Ob) : dropO c (p :: L) = bif Nat.beq p.1 c then dropO c L else p :: dropO c L := rfl
theorem dropO_get (c : Nat) : ∀ (L : Ob) (i : Nat), obE (dropO c L) i = if i = c then none else obE L i
  | [], i => by show none = _; split <;> rfl
  | p :: L, i => by
    have ih := dropO_get c L i
    have hcons : obE (p :: L) i = bif Nat.beq i p.1 then some p.2 else obE L i := lk_cons p L i
    rw [dropO_cons]
    cases e : Nat.beq p.1 c with
    | true =>
      have := Nat.eq_of_beq_eq_true e
      simp only [cond_true]
      rw [ih]
      by_cases hi : i = c
      · rw [if_pos hi, if_pos hi]
      · rw [if_neg hi, if_neg hi, hcons]
        have : Nat.beq i p.1 = false := by cases e2 : Nat.beq i p.1 with | false => rfl | true => exact absurd ((Nat.eq_of_beq_eq_true e2).trans this) hi
        rw [this]; rfl
    | false =>
      simp only [cond_false]
      have hpc : p.1 ≠ c := fun h => by rw [h, Nat.beq_refl] at e; cases e
      have hcons2 : obE (p :: dropO c L) i = bif Nat.beq i p.1 then some p.2 else obE (dropO c L) i := lk_cons p _ i
      rw [hcons2, hcons]
      cases e2 : Nat.beq i p.1 with
      | true =>
        have h2 := Nat.eq_of_beq_eq_true e2
        rw [if_neg (by rw [h2]; exact hpc)]; rfl
      | false => exact ih
theorem freshO_drop {c d : Nat} : ∀ {L : Ob}, freshO c L = true → freshO c (dropO d L) = true
  | [], _ => rfl
  | p :: L, h => by
    rw [freshL_cons] at h
    rw [dropO_cons]
    cases hp : freshG c p.2 with
    | false => rw [hp] at h; cases h
    | true =>
      rw [hp] at h
      cases Nat.beq p.1 d with
      | true => exact freshO_drop h
      | false => show freshO c (p :: dropO d L) = true; rw [freshL_cons, hp]; exact freshO_drop h
theorem freshO_vacs {c : Nat} : ∀ {cs : List Nat} {L : Ob}, freshO c L = true → freshO c (vacs cs L) = true
  | [], _, h => h
  | d :: cs, L, h => by
    show freshO c ((d, GObj.vac) :: dropO d (vacs cs L)) = true
    rw [freshL_cons]
    exact freshO_drop (freshO_vacs h)
theorem AW.vacsE {code : Code} {Q : GPost} (hA : ∀ i, i < 1000 → ¬ Γ.A i) : ∀ {cs : List Nat} {E : En} {L : Ob}, freshs cs E L = true → AW P Γ n code (sl E) (obE (vacs cs L)) Q → AW P Γ n code (sl E) (obE L) Q
  | [], _, _, _, h => h
  | c :: cs, E, L, hf, h => by
    have hf : (Nat.blt c 1000 && (freshE c E && (freshO c L && freshs cs E L))) = true := hf
    simp only [Bool.and_eq_true] at hf
    obtain ⟨f1, f2, f3, f4⟩ := hf
    refine AW.vacsE hA (cs := cs) f4 ?_
    refine AW.weak (σ' := sl E) (objs' := obE (dropO c (vacs cs L))) ?_ (fun _ => TLe.refl _) fun id ob h1 => ?_
    · refine AW.vac c (hA c (Nat.le_of_ble_eq_true f1)) (by rw [dropO_get, if_pos rfl]) (freshE_ok f2) (freshO_ok (freshO_drop (freshO_vacs f3))) ?_
      rw [← obE_app]
      exact h
    · rw [dropO_get] at h1
      split at h1
      · cases h1
      · exact h1
theorem evC_AW (hF : FaxOK P F) (hA : ∀ i, i < 1000 → ¬ Γ.A i) : ∀ {c : Code} {E : En} {L : Ob} {Q : QE}, okC n c = true → evC P F V Γ n c E L Q → AW P Γ n c (sl E) (obE L) (liftE Q)
  | .skip, E, L, Q, _, h => AW.skip ⟨E, L, fun _ => TLe.refl _, fun _ _ h => h, h⟩
  | .region rid ops draw, E, L, Q, hok, h => by
    have h : (match freshs (news V ops.toList) E L with
      | true => addO (vacs (news V ops.toList) L) [] fun L => evR P F V ops.toList ops.toList E L fun fps E' L' => drawQ draw ops fps (Q .normal E' L')
      | false => False) := h
    replace hok : okOps n ops.toList = true := hok
    split at h
    · next hf =>
      refine AW.vacsE hA hf ?_
      have hops : ops = ops.toList.toArray := by simp
      rw [hops]
      rw [addO_eq, List.append_nil] at h
      have := evR_run (i := 0) hF hok h
      cases draw with
      | false =>
        refine AW.reg0k ?_
        obtain ⟨fps, σ', objs', h1, E', L', rfl, rfl, hq⟩ := this
        exact ⟨fps, _, _, h1, E', L', fun _ => TLe.refl _, fun _ _ h => h, hq⟩
      | true =>
        refine AW.reg1k hF.mx ?_
        obtain ⟨fps, σ', objs', h1, E', L', rfl, rfl, hq⟩ := this
        exact ⟨fps, _, _, h1, by rw [← hops]; exact hq.1, E', L', fun _ => TLe.refl _, fun _ _ h => h, hq.2⟩
    · exact h.elim
  | .seq a b, E, L, Q, hok, h => by
    rw [okC, Bool.and_eq_true] at hok
    have h : evC P F V Γ n a E L fun e E' L' => match e with | .normal => evC P F V Γ n b E' L' Q | e => Q e E' L' := h
    refine AW.seq ((evC_AW hF hA hok.1 h).mono fun e σ objs hl => ?_)
    obtain ⟨E', L', h1, h2, h3⟩ := hl
    cases e with
    | normal => exact (evC_AW hF hA hok.2 h3).weak h1 h2
    | _ => exact ⟨E', L', h1, h2, h3⟩
  | .cond x a b, E, L, Q, hok, h => by
    rw [okC, Bool.and_eq_true] at hok
    have h : condQ x E (evC P F V Γ n a E L Q) (evC P F V Γ n b E L Q) := h
    unfold condQ at h
    split at h
    · next t =>
      split at h
      · next c hc => exact AW.cond hc (fun e => evC_AW hF hA hok.1 (h.1 e)) fun e => evC_AW hF hA hok.2 (h.2 e)
      · exact h.elim
    · exact h.elim
  | .block id c, E, L, Q, hok, h => by
    rw [okC] at hok
    have h : evC P F V Γ n c E L fun e E' L' => match e with | .exit i => (match Nat.beq i id with | true => Q .normal E' L' | false => Q (.exit i) E' L') | e => Q e E' L' := h
    refine AW.block ((evC_AW hF hA hok h).mono fun e σ objs hl => ?_)
    obtain ⟨E', L', h1, h2, h3⟩ := hl
    cases e with
    | exit i =>
      simp only at h3
      show if i = id then _ else _
      split at h3
      · next e => rw [if_pos (Nat.eq_of_beq_eq_true e)]; exact ⟨E', L', h1, h2, h3⟩
      · next e =>
        rw [if_neg fun h => by rw [h, Nat.beq_refl] at e; cases e]
        exact ⟨E', L', h1, h2, h3⟩
    | _ => exact ⟨E', L', h1, h2, h3⟩
  | .loop c, E, L, Q, _, h => h.1
  | .exit id, E, L, Q, _, h => AW.exit ⟨E, L, fun _ => TLe.refl _, fun _ _ h => h, h⟩
  | .ret, E, L, Q, _, h => AW.ret ⟨E, L, fun _ => TLe.refl _, fun _ _ h => h, h⟩
  | .rangeFunc .., _, _, _, _, h => h.elim
  | .scope .., _, _, _, _, h => h.elim
  | .label .., _, _, _, _, h => h.elim
  | .goto .., _, _, _, _, h => h.elim
  | .refuse .., _, _, _, _, h => h.elim
/-! ### How long what is held may be -/
def D.bd0 : D → Prop
  | .sl _ l => l.length ≤ 9223372036854775807
  | _ => True
def bdDs : List D → Prop
  | [] => True
  | d :: ds => d.bd0 ∧ bdDs ds
def D.bd : D → Prop
  | .agg ds => bdDs ds
  | d => d.bd0
def T.bd : T → Prop
  | .d x => x.bd
  | .pi ds => bdDs ds
  | .own _ l _ => l.length ≤ 9223372036854775807
  | _ => True
def bdTs : List T → Prop
  | [] => True
  | t :: ts => t.bd ∧ bdTs ts
def bdE (E0 : En) : En → Prop
  | [] => True
  | p :: E => (sl E0 p.1).bd ∧ bdE E0 E
def GObj.bd : GObj → Prop
  | .cells _ ts => bdTs ts
  | _ => True
def bdO (L0 : Ob) : Ob → Prop
  | [] => True
  | p :: L => (match obE L0 p.1 with | some o => o.bd | none => True) ∧ bdO L0 L
theorem bd0_rep {S : Sm} {d : D} {x : Value} (h : RepD S d x) : d.bd0 := by
  cases h with
  | sl _ _ hc hb _ => exact Nat.le_trans hc hb
  | _ => trivial
theorem bdDs_rep {S : Sm} : ∀ {ds : List D} {xs : List Value}, RepDs S ds xs → bdDs ds
  | [], _, _ => trivial
  | _ :: _, _, .cons h _ ht => ⟨bd0_rep h, bdDs_rep ht⟩
theorem bd_rep {g : Gh} {t : T} {x : Value} (h : RepT g t x) : t.bd := by
  cases h with
  | d h =>
    cases h with
    | agg h => exact bdDs_rep h
    | v h => trivial
    | sl h1 h2 hc hb h3 => exact Nat.le_trans hc hb
  | pi h _ => exact bdDs_rep h
  | own h _ _ => exact bd0_rep h
  | _ => trivial
theorem bdTs_rep {g : Gh} : ∀ {ts : List T} {xs : List Value}, Reps g ts xs → bdTs ts
  | [], _, _ => trivial
  | _ :: _, _, .cons h ht => ⟨bd_rep h, bdTs_rep ht⟩
theorem AW.bd {c : Code} {E : En} {L : Ob} {Q : GPost} (h : bdE E E → bdO L L → AW P Γ n c (sl E) (obE L) Q) : AW P Γ n c (sl E) (obE L) Q := by
  intro a w hc
  obtain ⟨hd, hs, g, hr, hw⟩ := hc
  have h1 : ∀ E' : En, bdE E E' := fun E' => by
    induction E' with
    | nil => trivial
    | cons p E' ih => exact ⟨bd_rep (hr p.1), ih⟩
  have h2 : ∀ L' : Ob, bdO L L' := fun L' => by
    induction L' with
    | nil => trivial
    | cons p L' ih =>
      refine ⟨?_, ih⟩
      split
      · next o ho =>
        have := hw.obj _ _ ho
        cases o with
        | cells e ts => obtain ⟨xs, -, -, -, a3, -⟩ := this; exact bdTs_rep a3
        | _ => trivial
      · trivial
  exact h (h1 E) (h2 L) a w ⟨hd, hs, g, hr, hw⟩
/-! ### Loops -/
/-- A state that tells less. -/
def Fits (E : En) (L : Ob) (E' : En) (L' : Ob) : Prop := (∀ t, TLe (sl E t) (sl E' t)) ∧ ∀ id x, obE L' id = some x → obE L id = some x
inductive FitE (E : En) : En → Prop
  | nil : FitE E []
  | cons {p : Nat × T} {E' : En} (h : TLe (sl E p.1) p.2) (ht : FitE E E') : FitE E (p :: E')
theorem sl_cons (p : Nat × T) (E : En) (t : Nat) : sl (p :: E) t = bif Nat.beq t p.1 then p.2 else sl E t := by
  show (match lk (p :: E) t with | some v => v | none => T.und) = _
  rw [lk_cons]
  cases Nat.beq t p.1 <;> rfl
theorem FitE.le {E E' : En} (h : FitE E E') : ∀ t, TLe (sl E t) (sl E' t) := by
  intro t
  induction h with
  | nil => exact TLe.und _
  | @cons p E' h _ ih =>
    rw [sl_cons]
    cases e : Nat.beq t p.1 with
    | true =>
      have := Nat.eq_of_beq_eq_true e
      subst this
      exact h
    | false => exact ih
inductive FitO (L : Ob) : Ob → Prop
  | nil : FitO L []
  | cons {p : Nat × GObj} {L' : Ob} (h : lk L p.1 = some p.2) (ht : FitO L L') : FitO L (p :: L')
theorem FitO.le {L L' : Ob} (h : FitO L L') : ∀ id x, obE L' id = some x → obE L id = some x := by
  intro id x hx
  induction h with
  | nil => cases hx
  | @cons p L' h _ ih =>
    have hx : lk (p :: L') id = some x := hx
    rw [lk_cons] at hx
    cases e : Nat.beq id p.1 with
    | true => rw [e] at hx; cases hx; have := Nat.eq_of_beq_eq_true e; subst this; exact h
    | false => rw [e] at hx; exact ih hx
/-- The loop: at each round's head one of the states st, of a number that goes down. -/
theorem ev_loop (V : List Nat) {c : Code} {E : En} {L : Ob} {Q : QE} (hF : FaxOK P F) (hA : ∀ i, i < 1000 → ¬ Γ.A i) (hok : okC n c = true) {ι : Type} (I : ι → Prop) (st : ι → En) (ob : ι → Ob) (μ : ι → Nat) (i0 : ι) (hi0 : I i0) (h0 : FitE E (st i0)) (ho0 : FitO L (ob i0))
    (round : ∀ i, I i → bdE (st i) (st i) → bdO (ob i) (ob i) → evC P F V Γ n c (st i) (ob i) fun e E' L' => match e with | .normal => ∃ j, I j ∧ μ j < μ i ∧ FitE E' (st j) ∧ FitO L' (ob j) | e => Q e E' L') : LoopW P Γ n c E L Q := by
  refine ⟨?_⟩
  refine AW.loop I (fun i => sl (st i)) (fun i => obE (ob i)) μ i0 hi0 h0.le ho0.le fun i hi => ?_
  refine AW.bd fun hb hb' => (evC_AW hF hA hok (round i hi hb hb')).mono fun e σ objs hl => ?_
  obtain ⟨E', L', h1, h2, h3⟩ := hl
  cases e with
  | normal =>
    obtain ⟨j, hj, hm, hE, hO⟩ := h3
    exact ⟨j, hj, hm, fun t => (h1 t).trans (hE.le t), fun id x hx => h2 _ _ (hO.le id x hx)⟩
  | _ => exact ⟨E', L', h1, h2, h3⟩
/-- Going on from less. -/
theorem ev_weak {c : Code} {E E' : En} {L L' : Ob} {Q : QE} (hE : FitE E E') (hL : FitO L L') (h : AW P Γ n c (sl E') (obE L') (liftE Q)) : AW P Γ n c (sl E) (obE L) (liftE Q) := h.weak hE.le hL.le
end
end Go.Proofs.YtenlhfmchhljdaaDoor
