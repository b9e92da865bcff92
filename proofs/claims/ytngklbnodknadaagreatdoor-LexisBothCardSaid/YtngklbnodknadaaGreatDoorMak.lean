/-
  Gi, Gj, Or, in one.
-/
import Derived.Test.YtngklbnodknadaaGreatDoorMaj
import Derived.ScopeJumps
import Derived.ProofKit
import Derived.OpenShut
import Derived.ChangeOld
import Derived.ChangeSame
import Derived.Below
import Derived.Deep.Slices
import Derived.Deep.Fields
section
namespace Go.Proofs.YtngklbnodknadaaGreatDoor
open Go.RowKit

abbrev QE := Exit → En → Ob → Prop
noncomputable def gdst (l : List Oper) (n : Nat) : Option Tmp := List.rec (motive := fun _ => Nat → Option Tmp) (fun _ => none) (fun o _ ih n => match n with | 0 => o.dst | n + 1 => ih n) l n
/-! Values first: what is handed on is reckoned. -/
noncomputable def fL {α : Type} (l : List α) (k : List α → Prop) : Prop := List.rec (motive := fun _ => (List α → Prop) → Prop) (fun k => k []) (fun x _ ih k => ih fun ys => k (x :: ys)) l k
noncomputable def fT (v : T) (k : T → Prop) : Prop := match v with
  | .d (.v x) => k (.d (.v x))
  | .d (.agg l) => k (.d (.agg l))
  | .d (.sl n l) => k (.d (.sl n l))
  | .pi ds => k (.pi ds)
  | .ref i o => k (.ref i o)
  | .own n l i => k (.own n l i)
  | .mrow i n => k (.mrow i n)
  | .mp i => k (.mp i)
  | .stk i v p => k (.stk i v p)
  | .fn f l => k (.fn f l)
  | .bf f l => k (.bf f l)
  | .tup l => k (.tup l)
  | .ag l => fL l fun l => k (.ag l)
  | .pr p => k (.pr p)
  | .und => k .und
noncomputable def fO (o : GObj) (k : GObj → Prop) : Prop := match o with
  | .cells e ts => fL ts fun ts => k (.cells e ts)
  | .barr e l ts => fL ts fun ts => k (.barr e l ts)
  | .vac => k .vac
  | .gone => k .gone
  | .row e n l => k (.row e n l)
  | .map d M => k (.map d M)
  | .stk e n v l => k (.stk e n v l)
  | .grid e n v l => k (.grid e n v l)
  | .rmap d e n M => k (.rmap d e n M)
  | .bld e t l => k (.bld e t l)
  | .frow e n v l ts => fL ts fun ts => k (.frow e n v l ts)
  | .rdr e ts => fL ts fun ts => k (.rdr e ts)
  | .seen c => k (.seen c)
noncomputable def addO (ps L : Ob) (k : Ob → Prop) : Prop := List.rec (motive := fun _ => (Ob → Prop) → Prop) (fun k => k L) (fun p _ ih k => fO p.2 fun o => ih fun L' => k ((p.1, o) :: L')) ps k
theorem fL_eq {α : Type} : ∀ (l : List α) (k : List α → Prop), fL l k = k l
  | [], _ => rfl
  | x :: xs, k => fL_eq xs fun ys => k (x :: ys)
theorem fT_eq (v : T) (k : T → Prop) : fT v k = k v := by
  cases v with
  | d d => cases d <;> rfl
  | ag l => exact fL_eq l fun l => k (.ag l)
  | _ => rfl
theorem fO_eq (o : GObj) (k : GObj → Prop) : fO o k = k o := by
  cases o with
  | cells e ts => exact fL_eq ts fun ts => k (.cells e ts)
  | barr e l ts => exact fL_eq ts fun ts => k (.barr e l ts)
  | frow e n v l ts => exact fL_eq ts fun ts => k (.frow e n v l ts)
  | rdr e ts => exact fL_eq ts fun ts => k (.rdr e ts)
  | _ => rfl
theorem addO_eq : ∀ (ps L : Ob) (k : Ob → Prop), addO ps L k = k (ps ++ L)
  | [], _, _ => rfl
  | (i, o) :: ps, L, k => by
    show fO o (fun o => addO ps L fun L' => k ((i, o) :: L')) = _
    rw [fO_eq, addO_eq ps L]; rfl
noncomputable def upK (E : En) (d : Option Tmp) (v : T) (k : En → Prop) : Prop := match d with | some d => fT v fun v => k ((d, v) :: E) | none => k E
theorem upK_eq (E : En) (d : Option Tmp) (v : T) (k : En → Prop) : upK E d v k = k (up E d v) := by
  cases d with
  | none => rfl
  | some d => exact fT_eq v fun v => k ((d, v) :: E)
noncomputable def evR (P : Program) (F : Fax) (V : List Nat) (all os : List Oper) (E : En) (L : Ob) (K : List FP → En → Ob → Prop) : Prop := List.rec (motive := fun _ => En → Ob → (List FP → En → Ob → Prop) → Prop) (fun E L K => K [] E L)
  (fun o _ ih E L K => match o.guard with
    | none => evOp P F V o E L fun pre v post => upK E o.dst v fun E' => addO post L fun L' => ih E' L' fun fps => K (⟨pre, post.map (·.1), false⟩ :: fps)
    | some (j, want) => match gdst all j with
      | some t => match sl E t with
        | .d (.v (.bool c)) => (c = want → evOp P F V o E L fun pre v post => upK E o.dst v fun E' => addO post L fun L' => ih E' L' fun fps => K (⟨pre, post.map (·.1), false⟩ :: fps)) ∧
            (c = (!want) → upK E o.dst (.tup []) fun E' => ih E' L fun fps => K (⟨[], [], false⟩ :: fps))
        | .tup [] => upK E o.dst (.tup []) fun E' => ih E' L fun fps => K (⟨[], [], false⟩ :: fps)
        | _ => False
      | none => False) os E L K
/-- The names of the objects that operations make. -/
noncomputable def news (V : List Nat) (os : List Oper) : List Nat := List.rec (motive := fun _ => List Nat) [] (fun o _ ih => match o.dst, o.op with
    | some d, .alloc _ => d :: ih
    | some d, .box _ _ => bif inV V (d + 5000) then d :: (d + 300) :: (d + 400) :: (d + 500) :: (d + 600) :: ih else d :: ih
    | some d, .makeMap _ _ => d :: ih
    | some d, .makeSlice _ _ _ => bif inV V (d + 2000) then d :: ih else bif inV V (d + 3000) then d :: ih else ih
    | some d, .assign (.const (.slice none 0 0)) => bif inV V d then d :: ih else bif inV V (d + 2000) then d :: ih else ih
    | some d, .build _ _ => bif inV V (d + 2000) then d :: ih else ih
    | some d, .buildSlice _ _ _ => bif inV V d then d :: ih else ih
    | some d, .lookup _ _ _ _ => bif inV V d then d :: ih else ih
    | some d, .call _ => bif inV V d then d :: ih else ih
    | some _, _ => ih
    | none, _ => ih) os
/-- Whether a slot speaks of an object. -/
def hasB (c : Nat) (t : T) : Bool := match t with
  | .d _ => false
  | .pi _ => false
  | .pr _ => false
  | .und => false
  | .ref i _ => Nat.beq i c
  | .own _ _ i => Nat.beq i c
  | .mrow i _ => Nat.beq i c
  | .mp i => Nat.beq i c
  | .stk i _ _ => Nat.beq i c
  | t => t.has c
theorem hasB_eq (c : Nat) (t : T) : hasB c t = t.has c := by
  have key : ∀ i : Nat, Nat.beq i c = (i == c) := fun i => by
    by_cases h : i = c
    · subst h; simp
    · rw [show (i == c) = false from by simpa using h]
      cases e : Nat.beq i c with
      | false => rfl
      | true => exact absurd (Nat.eq_of_beq_eq_true e) h
  cases t <;> first | rfl | exact key _
noncomputable def freshE (c : Nat) (E : En) : Bool := List.rec (motive := fun _ => Bool) true (fun p _ ih => bif hasB c p.2 then false else ih) E
noncomputable def freshG (c : Nat) (o : GObj) : Bool := match o with
  | .cells _ ts => List.rec (motive := fun _ => Bool) true (fun t _ ih => bif hasB c t then false else ih) ts
  | .barr _ _ ts => List.rec (motive := fun _ => Bool) true (fun t _ ih => bif hasB c t then false else ih) ts
  | .frow _ _ _ _ ts => List.rec (motive := fun _ => Bool) true (fun t _ ih => bif hasB c t then false else ih) ts
  | .rdr _ ts => List.rec (motive := fun _ => Bool) true (fun t _ ih => bif hasB c t then false else ih) ts
  | .seen i => bif Nat.beq i c then false else true
  | _ => true
noncomputable def freshO (c : Nat) (L : Ob) : Bool := List.rec (motive := fun _ => Bool) true (fun p _ ih => bif freshG c p.2 then ih else false) L
noncomputable def dropO (c : Nat) (L : Ob) : Ob := List.rec (motive := fun _ => Ob) [] (fun p _ ih => bif Nat.beq p.1 c then ih else p :: ih) L
noncomputable def vacs (cs : List Nat) (L : Ob) : Ob := List.rec (motive := fun _ => Ob) L (fun c _ ih => (c, .vac) :: dropO c ih) cs
noncomputable def freshs (cs : List Nat) (E : En) (L : Ob) : Bool := List.rec (motive := fun _ => Bool) true (fun c _ ih => Nat.blt c 1000 && (freshE c E && (freshO c L && ih))) cs
/-- Slots that speak of a name tell nothing more. -/
noncomputable def clr1 (c : Nat) (E : En) : En := List.rec (motive := fun _ => En) [] (fun p _ ih => (bif hasB c p.2 then (p.1, .und) else p) :: ih) E
noncomputable def clr (cs : List Nat) (E : En) : En := List.rec (motive := fun _ => En) E (fun c _ ih => clr1 c ih) cs
def liftE (Q : QE) : GPost := fun e σ objs => ∃ E L, (∀ t, TLe (σ t) (sl E t)) ∧ (∀ id x, obE L id = some x → objs id = some x) ∧ Q e E L
/-- A loop's law. -/
inductive LoopW (P : Program) (Γ : Cx) (n : Nat) (c : Code) (E : En) (L : Ob) (Q : QE) : Prop
  | mk (h : AW P Γ n (.loop c) (sl E) (obE L) (liftE Q)) : LoopW P Γ n c E L Q
/-- A jump's law: what stands behind the label. -/
def noGG (Q : GPost) : GPost := fun e σ objs => match e with | .goto _ => False | e => Q e σ objs
inductive JumpW (P : Program) (Γ : Cx) (n : Nat) (c : Code) (l : Nat) (E : En) (L : Ob) (Q : QE) : Prop
  | mk (rest : Code) (hf : findLabel c l = some rest) (h : AW P Γ n rest (sl E) (obE L) (noGG (liftE Q))) : JumpW P Γ n c l E L Q
section
variable {P : Program} {Γ : Cx} {n : Nat}
theorem wp_scope_one {a : Act} {w : World} {Q : Exit → Act → World → Prop} {c : Code} (h : c.wp P (fun e a w => match e with | .goto l => ∃ rest, findLabel c l = some rest ∧ rest.wp P (Exit.noGoto Q) a w | e => Q e a w) a w) : (Code.scope c).wp P Q a w := by
  intro b k cs
  obtain ⟨e, a₁, w₁, hq, harr⟩ := h b (.inScope c :: k) cs
  cases e with
  | normal => exact ⟨.normal, a₁, w₁, hq, .head step_scope (Steps.trans harr (.one step_inScope))⟩
  | exit id => exact ⟨.exit id, a₁, w₁, hq, fun k' hk => .head step_scope (harr k' (by simp [exitTo, hk]))⟩
  | goto l =>
    obtain ⟨rest, hf, hr⟩ := hq
    have hg : gotoIn l (.inScope c :: k) = some (.code rest :: .inScope c :: k) := by simp [gotoIn, hf]
    obtain ⟨e₂, a₂, w₂, hq₂, harr₂⟩ := hr b (.inScope c :: k) cs
    cases e₂ with
    | normal => exact ⟨.normal, a₂, w₂, hq₂, .head step_scope (Steps.trans (harr _ hg) (Steps.trans harr₂ (.one step_inScope)))⟩
    | exit id => exact ⟨.exit id, a₂, w₂, hq₂, fun k' hk => .head step_scope (Steps.trans (harr _ hg) (harr₂ k' (by simp [exitTo, hk])))⟩
    | goto l => exact hq₂.elim
    | ret => exact ⟨_, a₂, w₂, hq₂, .of_steps (.head step_scope (harr _ hg)) harr₂⟩
    | panic ch => exact ⟨_, a₂, w₂, hq₂, .of_steps (.head step_scope (harr _ hg)) harr₂⟩
    | outgrown => exact ⟨_, a₂, w₂, hq₂, .of_steps (.head step_scope (harr _ hg)) harr₂⟩
  | ret => exact ⟨_, a₁, w₁, hq, .of_steps (.one step_scope) harr⟩
  | panic ch => exact ⟨_, a₁, w₁, hq, .of_steps (.one step_scope) harr⟩
  | outgrown => exact ⟨_, a₁, w₁, hq, .of_steps (.one step_scope) harr⟩
theorem AW.scope {σ : Nat → T} {objs : Objs} {Q : GPost} {c : Code} (h : AW P Γ n c σ objs fun e σ' objs' => match e with | .goto l => ∃ rest, findLabel c l = some rest ∧ AW P Γ n rest σ' objs' (noGG Q) | e => Q e σ' objs') : AW P Γ n (.scope c) σ objs Q := fun a w hc =>
  wp_scope_one (wp_mono (h a w hc) fun e a' w' ⟨σ', objs', hq, hc'⟩ => by
    cases e with
    | goto l =>
      obtain ⟨rest, hf, hr⟩ := hq
      refine ⟨rest, hf, wp_mono (hr a' w' hc') fun e2 a2 w2 ⟨s2, o2, hq2, hc2⟩ => ?_⟩
      cases e2 with
      | goto l => exact hq2.elim
      | _ => exact ⟨s2, o2, hq2, hc2⟩
    | _ => exact ⟨σ', objs', hq, hc'⟩)
theorem AW.label {σ : Nat → T} {objs : Objs} {Q : GPost} {l : Nat} (h : Q .normal σ objs) : AW P Γ n (.label l) σ objs Q := fun _ _ hc => wp_label ⟨σ, objs, h, hc⟩
theorem AW.goto {σ : Nat → T} {objs : Objs} {Q : GPost} {l : Nat} (h : Q (.goto l) σ objs) : AW P Γ n (.goto l) σ objs Q := fun _ _ hc => wp_goto ⟨σ, objs, h, hc⟩
end
def drawQ (draw : Bool) (ops : Array Oper) (fps : List FP) (q : Prop) : Prop := match draw with | true => orderB ops (zipFrom 0 fps) = true ∧ q | false => q
noncomputable def condQ (x : Operand) (E : En) (A B : Prop) : Prop := match x with
  | .tmp t => match sl E t with
    | .d (.v (.bool c)) => (c = true → A) ∧ (c = false → B)
    | _ => False
  | _ => False
/-- What code asks for. -/
noncomputable def evC (P : Program) (F : Fax) (V : List Nat) (Γ : Cx) (n : Nat) (c : Code) : En → Ob → QE → Prop := Code.rec (motive := fun _ => En → Ob → QE → Prop)
  (fun E L Q => Q .normal E L)
  (fun _ ops draw E L Q => match freshs (news V ops.toList) E L with
    | true => addO (vacs (news V ops.toList) L) [] fun L => evR P F V ops.toList ops.toList E L fun fps E' L' => drawQ draw ops fps (Q .normal E' L')
    | false => fL (clr (news V ops.toList) E) fun E => match freshs (news V ops.toList) E L with
      | true => addO (vacs (news V ops.toList) L) [] fun L => evR P F V ops.toList ops.toList E L fun fps E' L' => drawQ draw ops fps (Q .normal E' L')
      | false => False)
  (fun _ _ a b E L Q => a E L fun e E' L' => match e with | .normal => b E' L' Q | e => Q e E' L')
  (fun x _ _ a b E L Q => condQ x E (a E L Q) (b E L Q))
  (fun id _ c E L Q => c E L fun e E' L' => match e with | .exit i => (match Nat.beq i id with | true => Q .normal E' L' | false => Q (.exit i) E' L') | e => Q e E' L')
  (fun c _ E L Q => LoopW P Γ n c E L Q)
  (fun _ _ _ _ _ _ _ _ _ => False)
  (fun id E L Q => Q (.exit id) E L)
  (fun c b E L Q => b E L fun e E' L' => match e with | .goto l => JumpW P Γ n c l E' L' Q | e => Q e E' L')
  (fun _ E L Q => Q .normal E L)
  (fun l E L Q => Q (.goto l) E L)
  (fun E L Q => Q .ret E L)
  (fun _ _ _ _ => False) c
def okOps (n : Nat) (ops : List Oper) : Bool := ops.all fun o => match o.dst with | some d => Nat.blt d n | none => true
def okC (n : Nat) : Code → Bool
  | .region _ ops _ => okOps n ops.toList
  | .seq a b => okC n a && okC n b
  | .cond _ a b => okC n a && okC n b
  | .block _ c => okC n c
  | .loop c => okC n c
  | .scope c => okC n c
  | _ => true

/-! ### It serves -/
section
variable {P : Program} {F : Fax} {V : List Nat} {Γ : Cx} {n : Nat}
theorem gdst_get : ∀ (all : List Oper) (j : Nat), (all.toArray[j]?).bind (·.dst) = gdst all j
  | [], j => by simp [gdst]
  | o :: os, 0 => by simp [gdst]
  | o :: os, j + 1 => by
    have := gdst_get os j
    simp only [List.getElem?_toArray, List.getElem?_cons_succ, gdst] at this ⊢
    exact this
theorem evR_run (hF : FaxOK P F) {all : List Oper} : ∀ {os : List Oper} {i : Nat} {E : En} {L : Ob} {K : List FP → En → Ob → Prop}, okOps n os = true → evR P F V all os E L K →
    RunK P all.toArray n i os (sl E) (obE L) fun fps σ objs => ∃ E' L', σ = sl E' ∧ objs = obE L' ∧ K fps E' L'
  | [], i, E, L, K, _, h => RunK.nil ⟨E, L, rfl, rfl, h⟩
  | o :: os, i, E, L, K, hok, h => by
    unfold okOps at hok
    rw [List.all_cons, Bool.and_eq_true] at hok
    have hd : DstLt n o := by
      intro d hd
      have := hok.1
      rw [hd] at this
      exact Nat.le_of_ble_eq_true this
    have step : ∀ {o' : Oper}, o' = o → GuardT all.toArray (sl E) o true → (evOp P F V o E L fun pre v post => upK E o.dst v fun E' => addO post L fun L' => evR P F V all os E' L' fun fps => K (⟨pre, post.map (·.1), false⟩ :: fps)) →
        RunK P all.toArray n i (o :: os) (sl E) (obE L) fun fps σ objs => ∃ E' L', σ = sl E' ∧ objs = obE L' ∧ K fps E' L' := by
      intro o' _ hg h
      obtain ⟨pre, v, post, ht, hp, hk⟩ := evOp_gen hF h
      rw [upK_eq, addO_eq] at hk
      refine RunK.cons ht hd hg hp ?_
      have := evR_run hF (i := i + 1) hok.2 hk
      rw [sl_up, obE_app] at this
      exact this
    have h : (match o.guard with
    | none => evOp P F V o E L fun pre v post => upK E o.dst v fun E' => addO post L fun L' => evR P F V all os E' L' fun fps => K (⟨pre, post.map (·.1), false⟩ :: fps)
    | some (j, want) => match gdst all j with
      | some t => match sl E t with
        | .d (.v (.bool c)) => (c = want → evOp P F V o E L fun pre v post => upK E o.dst v fun E' => addO post L fun L' => evR P F V all os E' L' fun fps => K (⟨pre, post.map (·.1), false⟩ :: fps)) ∧
            (c = (!want) → upK E o.dst (.tup []) fun E' => evR P F V all os E' L fun fps => K (⟨[], [], false⟩ :: fps))
        | .tup [] => upK E o.dst (.tup []) fun E' => evR P F V all os E' L fun fps => K (⟨[], [], false⟩ :: fps)
        | _ => False
      | none => False) := h
    split at h
    · next hg => exact step rfl (gno hg) h
    · next j want hg =>
      split at h
      · next t ht =>
        split at h
        · next c hc =>
          by_cases hcw : c = want
          · subst hcw
            exact step rfl (gyes hg (by rw [gdst_get]; exact ht) hc) (h.1 rfl)
          · have hcn : c = !want := by cases c <;> cases want <;> simp at hcw ⊢
            refine RunK.skip (gskip hg (by rw [gdst_get]; exact ht) (by rw [hc, hcn])) hd ?_
            have h2 := h.2 hcn
            rw [upK_eq] at h2
            have := evR_run hF (i := i + 1) hok.2 h2
            rw [sl_up] at this
            exact this
        · next hc =>
          refine RunK.skip (gnone hg (by rw [gdst_get]; exact ht) hc) hd ?_
          rw [upK_eq] at h
          have := evR_run hF (i := i + 1) hok.2 h
          rw [sl_up] at this
          exact this
        · exact h.elim
      · exact h.elim
theorem freshE_cons (c : Nat) (p : Nat × T) (E : En) : freshE c (p :: E) = bif hasB c p.2 then false else freshE c E := rfl
theorem freshE_ok {c : Nat} : ∀ {E : En}, freshE c E = true → ∀ t, (sl E t).has c = false
  | [], _, t => rfl
  | p :: E, h, t => by
    rw [freshE_cons, hasB_eq] at h
    cases hp : p.2.has c with
    | true => rw [hp] at h; cases h
    | false =>
      rw [hp] at h
      show (match lk (p :: E) t with | some v => v | none => T.und).has c = false
      rw [lk_cons]
      cases Nat.beq t p.1 with
      | true => exact hp
      | false => exact freshE_ok h t
theorem freshTs_ok {c : Nat} : ∀ {ts : List T}, List.rec (motive := fun _ => Bool) true (fun t _ ih => bif hasB c t then false else ih) ts = true → T.hass c ts = false
  | [], _ => rfl
  | t :: ts, h => by
    have h2 : (bif hasB c t then false else List.rec (motive := fun _ => Bool) true (fun t _ ih => bif hasB c t then false else ih) ts) = true := h
    rw [hasB_eq] at h2
    cases ht : t.has c with
    | true => rw [ht] at h2; cases h2
    | false =>
      rw [ht] at h2
      rw [T.hass, ht, freshTs_ok h2]; rfl
theorem freshG_ok {c : Nat} {o : GObj} (h : freshG c o = true) : o.has c = false := by
  cases o with
  | cells e ts => exact freshTs_ok (ts := ts) h
  | barr e l ts => exact freshTs_ok (ts := ts) h
  | frow e k v l ts => exact freshTs_ok (ts := ts) h
  | rdr e ts => exact freshTs_ok (ts := ts) h
  | seen i =>
    show (i == c) = false
    have h : (bif Nat.beq i c then false else true) = true := h
    cases e : Nat.beq i c with
    | true => rw [e] at h; cases h
    | false => rw [beq_eq_false_iff_ne]; rintro rfl; rw [Nat.beq_refl] at e; cases e
  | _ => rfl
theorem freshL_cons (c : Nat) (p : Nat × GObj) (L : Ob) : freshO c (p :: L) = bif freshG c p.2 then freshO c L else false := rfl
theorem freshO_ok {c : Nat} : ∀ {L : Ob}, freshO c L = true → ∀ i ob, obE L i = some ob → ob.has c = false
  | [], _, i, ob, h => by cases h
  | p :: L, h, i, ob, h1 => by
    rw [freshL_cons] at h
    cases hp : freshG c p.2 with
    | false => rw [hp] at h; cases h
    | true =>
      rw [hp] at h
      have h1 : lk (p :: L) i = some ob := h1
      rw [lk_cons] at h1
      cases e : Nat.beq i p.1 with
      | true => rw [e] at h1; cases h1; exact freshG_ok hp
      | false => rw [e] at h1; exact freshO_ok h i ob h1
theorem dropO_cons (c : Nat) (p : Nat × GObj) (L : Ob) : dropO c (p :: L) = bif Nat.beq p.1 c then dropO c L else p :: dropO c L := rfl
theorem dropO_get (c : Nat) : ∀ (L : Ob) (i : Nat), obE (dropO c L) i = if i = c then none else obE L i
  | [], i => by show none = _; split <;> rfl
  | p :: L, i => by
    have ih := dropO_get c L i
    have hcons : obE (p :: L) i = bif Nat.beq i p.1 then some p.2 else obE L i := lk_cons p L i
    rw [dropO_cons]
    cases e : Nat.beq p.1 c with
    | true =>
      have := Nat.eq_of_beq_eq_true e
      simp only [cond_true]
      rw [ih]
      by_cases hi : i = c
      · rw [if_pos hi, if_pos hi]
      · rw [if_neg hi, if_neg hi, hcons]
        have : Nat.beq i p.1 = false := by cases e2 : Nat.beq i p.1 with | false => rfl | true => exact absurd ((Nat.eq_of_beq_eq_true e2).trans this) hi
        rw [this]; rfl
    | false =>
      simp only [cond_false]
      have hpc : p.1 ≠ c := fun h => by rw [h, Nat.beq_refl] at e; cases e
      have hcons2 : obE (p :: dropO c L) i = bif Nat.beq i p.1 then some p.2 else obE (dropO c L) i := lk_cons p _ i
      rw [hcons2, hcons]
      cases e2 : Nat.beq i p.1 with
      | true =>
        have h2 := Nat.eq_of_beq_eq_true e2
        rw [if_neg (by rw [h2]; exact hpc)]; rfl
      | false => exact ih
theorem freshO_drop {c d : Nat} : ∀ {L : Ob}, freshO c L = true → freshO c (dropO d L) = true
  | [], _ => rfl
  | p :: L, h => by
    rw [freshL_cons] at h
    rw [dropO_cons]
    cases hp : freshG c p.2 with
    | false => rw [hp] at h; cases h
    | true =>
      rw [hp] at h
      cases Nat.beq p.1 d with
      | true => exact freshO_drop h
      | false => show freshO c (p :: dropO d L) = true; rw [freshL_cons, hp]; exact freshO_drop h
theorem freshO_vacs {c : Nat} : ∀ {cs : List Nat} {L : Ob}, freshO c L = true → freshO c (vacs cs L) = true
  | [], _, h => h
  | d :: cs, L, h => by
    show freshO c ((d, GObj.vac) :: dropO d (vacs cs L)) = true
    rw [freshL_cons]
    exact freshO_drop (freshO_vacs h)
theorem AW.vacsE {code : Code} {Q : GPost} (hA : ∀ i, i < 1000 → ¬ Γ.A i) : ∀ {cs : List Nat} {E : En} {L : Ob}, freshs cs E L = true → AW P Γ n code (sl E) (obE (vacs cs L)) Q → AW P Γ n code (sl E) (obE L) Q
  | [], _, _, _, h => h
  | c :: cs, E, L, hf, h => by
    have hf : (Nat.blt c 1000 && (freshE c E && (freshO c L && freshs cs E L))) = true := hf
    simp only [Bool.and_eq_true] at hf
    obtain ⟨f1, f2, f3, f4⟩ := hf
    refine AW.vacsE hA (cs := cs) f4 ?_
    refine AW.weak (σ' := sl E) (objs' := obE (dropO c (vacs cs L))) ?_ (fun _ => TLe.refl _) fun id ob h1 => ?_
    · refine AW.vac c (hA c (Nat.le_of_ble_eq_true f1)) (by rw [dropO_get, if_pos rfl]) (freshE_ok f2) (freshO_ok (freshO_drop (freshO_vacs f3))) ?_
      rw [← obE_app]
      exact h
    · rw [dropO_get] at h1
      split at h1
      · cases h1
      · exact h1
theorem clr1_le (c : Nat) : ∀ (E : En) (t : Nat), TLe (sl E t) (sl (clr1 c E) t)
  | [], _ => TLe.refl _
  | p :: E, t => by
    have e : clr1 c (p :: E) = (bif hasB c p.2 then (p.1, T.und) else p) :: clr1 c E := rfl
    rw [e]
    show TLe (match lk (p :: E) t with | some v => v | none => T.und) (match lk ((bif hasB c p.2 then (p.1, T.und) else p) :: clr1 c E) t with | some v => v | none => T.und)
    cases hb : hasB c p.2 with
    | true =>
      simp only [cond_true]
      rw [lk_cons, lk_cons]
      cases Nat.beq t p.1 with
      | true => exact TLe.und _
      | false => exact clr1_le c E t
    | false =>
      simp only [cond_false]
      rw [lk_cons, lk_cons]
      cases Nat.beq t p.1 with
      | true => exact TLe.refl _
      | false => exact clr1_le c E t
theorem TLe.trans' {a b c : T} (h : TLe a b) (h' : TLe b c) : TLe a c := fun g y hr => h' g y (h g y hr)
theorem clr_le : ∀ (cs : List Nat) (E : En) (t : Nat), TLe (sl E t) (sl (clr cs E) t)
  | [], _, _ => TLe.refl _
  | c :: cs, E, t => (clr_le cs E t).trans' (clr1_le c (clr cs E) t)
theorem evC_AW (hF : FaxOK P F) (hA : ∀ i, i < 1000 → ¬ Γ.A i) : ∀ {c : Code} {E : En} {L : Ob} {Q : QE}, okC n c = true → evC P F V Γ n c E L Q → AW P Γ n c (sl E) (obE L) (liftE Q)
  | .skip, E, L, Q, _, h => AW.skip ⟨E, L, fun _ => TLe.refl _, fun _ _ h => h, h⟩
  | .region rid ops draw, E, L, Q, hok, h => by
    have h : (match freshs (news V ops.toList) E L with
      | true => addO (vacs (news V ops.toList) L) [] fun L => evR P F V ops.toList ops.toList E L fun fps E' L' => drawQ draw ops fps (Q .normal E' L')
      | false => fL (clr (news V ops.toList) E) fun E => match freshs (news V ops.toList) E L with
        | true => addO (vacs (news V ops.toList) L) [] fun L => evR P F V ops.toList ops.toList E L fun fps E' L' => drawQ draw ops fps (Q .normal E' L')
        | false => False) := h
    replace hok : okOps n ops.toList = true := hok
    have main : ∀ E : En, freshs (news V ops.toList) E L = true → (addO (vacs (news V ops.toList) L) [] fun L => evR P F V ops.toList ops.toList E L fun fps E' L' => drawQ draw ops fps (Q .normal E' L')) → AW P Γ n (.region rid ops draw) (sl E) (obE L) (liftE Q) := by
      intro E hf h
      refine AW.vacsE hA hf ?_
      have hops : ops = ops.toList.toArray := by simp
      rw [hops]
      rw [addO_eq, List.append_nil] at h
      have := evR_run (i := 0) hF hok h
      cases draw with
      | false =>
        refine AW.reg0k ?_
        obtain ⟨fps, σ', objs', h1, E', L', rfl, rfl, hq⟩ := this
        exact ⟨fps, _, _, h1, E', L', fun _ => TLe.refl _, fun _ _ h => h, hq⟩
      | true =>
        refine AW.reg1k hF.mx ?_
        obtain ⟨fps, σ', objs', h1, E', L', rfl, rfl, hq⟩ := this
        exact ⟨fps, _, _, h1, by rw [← hops]; exact hq.1, E', L', fun _ => TLe.refl _, fun _ _ h => h, hq.2⟩
    split at h
    · next hf => exact main E hf h
    · rw [fL_eq] at h
      split at h
      · next hf => exact (main _ hf h).weak (clr_le _ _) fun _ _ h => h
      · exact h.elim
  | .seq a b, E, L, Q, hok, h => by
    rw [okC, Bool.and_eq_true] at hok
    have h : evC P F V Γ n a E L fun e E' L' => match e with | .normal => evC P F V Γ n b E' L' Q | e => Q e E' L' := h
    refine AW.seq ((evC_AW hF hA hok.1 h).mono fun e σ objs hl => ?_)
    obtain ⟨E', L', h1, h2, h3⟩ := hl
    cases e with
    | normal => exact (evC_AW hF hA hok.2 h3).weak h1 h2
    | _ => exact ⟨E', L', h1, h2, h3⟩
  | .cond x a b, E, L, Q, hok, h => by
    rw [okC, Bool.and_eq_true] at hok
    have h : condQ x E (evC P F V Γ n a E L Q) (evC P F V Γ n b E L Q) := h
    unfold condQ at h
    split at h
    · next t =>
      split at h
      · next c hc => exact AW.cond hc (fun e => evC_AW hF hA hok.1 (h.1 e)) fun e => evC_AW hF hA hok.2 (h.2 e)
      · exact h.elim
    · exact h.elim
  | .block id c, E, L, Q, hok, h => by
    rw [okC] at hok
    have h : evC P F V Γ n c E L fun e E' L' => match e with | .exit i => (match Nat.beq i id with | true => Q .normal E' L' | false => Q (.exit i) E' L') | e => Q e E' L' := h
    refine AW.block ((evC_AW hF hA hok h).mono fun e σ objs hl => ?_)
    obtain ⟨E', L', h1, h2, h3⟩ := hl
    cases e with
    | exit i =>
      simp only at h3
      show if i = id then _ else _
      split at h3
      · next e => rw [if_pos (Nat.eq_of_beq_eq_true e)]; exact ⟨E', L', h1, h2, h3⟩
      · next e =>
        rw [if_neg fun h => by rw [h, Nat.beq_refl] at e; cases e]
        exact ⟨E', L', h1, h2, h3⟩
    | _ => exact ⟨E', L', h1, h2, h3⟩
  | .loop c, E, L, Q, _, h => h.1
  | .exit id, E, L, Q, _, h => AW.exit ⟨E, L, fun _ => TLe.refl _, fun _ _ h => h, h⟩
  | .ret, E, L, Q, _, h => AW.ret ⟨E, L, fun _ => TLe.refl _, fun _ _ h => h, h⟩
  | .rangeFunc .., _, _, _, _, h => h.elim
  | .scope c, E, L, Q, hok, h => by
    rw [okC] at hok
    have h : evC P F V Γ n c E L fun e E' L' => match e with | .goto l => JumpW P Γ n c l E' L' Q | e => Q e E' L' := h
    refine AW.scope ((evC_AW hF hA hok h).mono fun e σ objs hl => ?_)
    obtain ⟨E', L', h1, h2, h3⟩ := hl
    cases e with
    | goto l =>
      obtain ⟨rest, hf, hr⟩ := h3
      exact ⟨rest, hf, hr.weak h1 h2⟩
    | _ => exact ⟨E', L', h1, h2, h3⟩
  | .label _, E, L, Q, _, h => AW.label ⟨E, L, fun _ => TLe.refl _, fun _ _ h => h, h⟩
  | .goto _, E, L, Q, _, h => AW.goto ⟨E, L, fun _ => TLe.refl _, fun _ _ h => h, h⟩
  | .refuse .., _, _, _, _, h => h.elim
/-! ### How long what is held may be -/
def D.bd0 : D → Prop
  | .sl _ l => l.length ≤ 9223372036854775807
  | _ => True
def bdDs : List D → Prop
  | [] => True
  | d :: ds => d.bd0 ∧ bdDs ds
def D.bd : D → Prop
  | .agg ds => bdDs ds
  | d => d.bd0
def T.bd : T → Prop
  | .d x => x.bd
  | .pi ds => bdDs ds
  | .own _ l _ => l.length ≤ 9223372036854775807
  | _ => True
def bdTs : List T → Prop
  | [] => True
  | t :: ts => t.bd ∧ bdTs ts
def bdE (E0 : En) : En → Prop
  | [] => True
  | p :: E => (sl E0 p.1).bd ∧ bdE E0 E
def GObj.bd : GObj → Prop
  | .cells _ ts => bdTs ts
  | .frow _ _ _ l ts => l.length ≤ 9223372036854775807 ∧ bdTs ts
  | _ => True
def bdO (L0 : Ob) : Ob → Prop
  | [] => True
  | p :: L => (match obE L0 p.1 with | some o => o.bd | none => True) ∧ bdO L0 L
theorem bd0_rep {S : Sm} {d : D} {x : Value} (h : RepD S d x) : d.bd0 := by
  cases h with
  | sl _ _ hc hb _ => exact Nat.le_trans hc hb
  | _ => trivial
theorem bdDs_rep {S : Sm} : ∀ {ds : List D} {xs : List Value}, RepDs S ds xs → bdDs ds
  | [], _, _ => trivial
  | _ :: _, _, .cons h _ ht => ⟨bd0_rep h, bdDs_rep ht⟩
theorem bd_rep {g : Gh} {t : T} {x : Value} (h : RepT g t x) : t.bd := by
  cases h with
  | d h =>
    cases h with
    | agg h => exact bdDs_rep h
    | v h => trivial
    | sl h1 h2 hc hb h3 => exact Nat.le_trans hc hb
  | pi h _ => exact bdDs_rep h
  | own h _ _ => exact bd0_rep h
  | _ => trivial
theorem bdTs_rep {g : Gh} : ∀ {ts : List T} {xs : List Value}, Reps g ts xs → bdTs ts
  | [], _, _ => trivial
  | _ :: _, _, .cons h ht => ⟨bd_rep h, bdTs_rep ht⟩
theorem AW.bd {c : Code} {E : En} {L : Ob} {Q : GPost} (h : bdE E E → bdO L L → AW P Γ n c (sl E) (obE L) Q) : AW P Γ n c (sl E) (obE L) Q := by
  intro a w hc
  obtain ⟨hd, hs, g, hr, hw⟩ := hc
  have h1 : ∀ E' : En, bdE E E' := fun E' => by
    induction E' with
    | nil => trivial
    | cons p E' ih => exact ⟨bd_rep (hr p.1), ih⟩
  have h2 : ∀ L' : Ob, bdO L L' := fun L' => by
    induction L' with
    | nil => trivial
    | cons p L' ih =>
      refine ⟨?_, ih⟩
      split
      · next o ho =>
        have := hw.obj _ _ ho
        cases o with
        | cells e ts => obtain ⟨xs, -, -, -, a3, -⟩ := this; exact bdTs_rep a3
        | frow e k v l ts =>
          obtain ⟨xs, ys, n, -, a1, -, a3, -, a5, -⟩ := this
          refine ⟨?_, bdTs_rep a3⟩
          have hn : n ≤ 9223372036854775807 := by
            rcases a1.2 with ⟨-, h⟩ | ⟨_, cap, _, -, -, -, h1, h2, -⟩
            · omega
            · simp only [maxLen] at h2; omega
          rcases a5 with ⟨-, h⟩ | ⟨-, h⟩ <;> omega
        | _ => trivial
      · trivial
  exact h (h1 E) (h2 L) a w ⟨hd, hs, g, hr, hw⟩
/-! ### Loops -/
/-- A state that tells less. -/
def Fits (E : En) (L : Ob) (E' : En) (L' : Ob) : Prop := (∀ t, TLe (sl E t) (sl E' t)) ∧ ∀ id x, obE L' id = some x → obE L id = some x
inductive FitE (E : En) : En → Prop
  | nil : FitE E []
  | cons {p : Nat × T} {E' : En} (h : TLe (sl E p.1) p.2) (ht : FitE E E') : FitE E (p :: E')
theorem sl_cons (p : Nat × T) (E : En) (t : Nat) : sl (p :: E) t = bif Nat.beq t p.1 then p.2 else sl E t := by
  show (match lk (p :: E) t with | some v => v | none => T.und) = _
  rw [lk_cons]
  cases Nat.beq t p.1 <;> rfl
theorem FitE.le {E E' : En} (h : FitE E E') : ∀ t, TLe (sl E t) (sl E' t) := by
  intro t
  induction h with
  | nil => exact TLe.und _
  | @cons p E' h _ ih =>
    rw [sl_cons]
    cases e : Nat.beq t p.1 with
    | true =>
      have := Nat.eq_of_beq_eq_true e
      subst this
      exact h
    | false => exact ih
inductive FitO (L : Ob) : Ob → Prop
  | nil : FitO L []
  | cons {p : Nat × GObj} {L' : Ob} (h : lk L p.1 = some p.2) (ht : FitO L L') : FitO L (p :: L')
theorem FitO.le {L L' : Ob} (h : FitO L L') : ∀ id x, obE L' id = some x → obE L id = some x := by
  intro id x hx
  induction h with
  | nil => cases hx
  | @cons p L' h _ ih =>
    have hx : lk (p :: L') id = some x := hx
    rw [lk_cons] at hx
    cases e : Nat.beq id p.1 with
    | true => rw [e] at hx; cases hx; have := Nat.eq_of_beq_eq_true e; subst this; exact h
    | false => rw [e] at hx; exact ih hx
/-- The loop: at each round's head one of the states st, of a number that goes down. -/
theorem ev_loop (V : List Nat) {c : Code} {E : En} {L : Ob} {Q : QE} (hF : FaxOK P F) (hA : ∀ i, i < 1000 → ¬ Γ.A i) (hok : okC n c = true) {ι : Type} (I : ι → Prop) (st : ι → En) (ob : ι → Ob) (μ : ι → Nat) (i0 : ι) (hi0 : I i0) (h0 : FitE E (st i0)) (ho0 : FitO L (ob i0))
    (round : ∀ i, I i → bdE (st i) (st i) → bdO (ob i) (ob i) → evC P F V Γ n c (st i) (ob i) fun e E' L' => match e with | .normal => ∃ j, I j ∧ μ j < μ i ∧ FitE E' (st j) ∧ FitO L' (ob j) | e => Q e E' L') : LoopW P Γ n c E L Q := by
  refine ⟨?_⟩
  refine AW.loop I (fun i => sl (st i)) (fun i => obE (ob i)) μ i0 hi0 h0.le ho0.le fun i hi => ?_
  refine AW.bd fun hb hb' => (evC_AW hF hA hok (round i hi hb hb')).mono fun e σ objs hl => ?_
  obtain ⟨E', L', h1, h2, h3⟩ := hl
  cases e with
  | normal =>
    obtain ⟨j, hj, hm, hE, hO⟩ := h3
    exact ⟨j, hj, hm, fun t => (h1 t).trans (hE.le t), fun id x hx => h2 _ _ (hO.le id x hx)⟩
  | _ => exact ⟨E', L', h1, h2, h3⟩
/-- Behind a label, to which a jump leads. -/
theorem ev_jump (V : List Nat) {c : Code} {l : Nat} {E : En} {L : Ob} {Q : QE} (hF : FaxOK P F) (hA : ∀ i, i < 1000 → ¬ Γ.A i) (rest : Code) (hf : findLabel c l = some rest) (hok : okC n rest = true) (h : evC P F V Γ n rest E L fun e E' L' => match e with | .goto _ => False | e => Q e E' L') : JumpW P Γ n c l E L Q :=
  ⟨rest, hf, (evC_AW hF hA hok h).mono fun e σ objs ⟨E', L', h1, h2, h3⟩ => by
    cases e with
    | goto l => exact h3.elim
    | _ => exact ⟨E', L', h1, h2, h3⟩⟩
/-- Going on from less. -/
theorem ev_weak {c : Code} {E E' : En} {L L' : Ob} {Q : QE} (hE : FitE E E') (hL : FitO L L') (h : AW P Γ n c (sl E') (obE L') (liftE Q)) : AW P Γ n c (sl E) (obE L) (liftE Q) := h.weak hE.le hL.le
end
end Go.Proofs.YtngklbnodknadaaGreatDoor
end

section
namespace Go.Proofs.YtngklbnodknadaaGreatDoor
open Go.RowKit

section
variable {P : Program} {F : Fax} {V : List Nat} {Γ : Cx} {n : Nat} {o : Oper} {E : En} {L : Ob} {k : KO}
/-! ### Results -/
inductive RsE (F : Fax) (E : En) (L : Ob) : List ResultVar → List T → Prop
  | nil : RsE F E L [] []
  | tmp {r : Tmp} {t : T} {rs : List ResultVar} {ts : List T} (h : TLe (sl E r) t) (ht : RsE F E L rs ts) : RsE F E L (.tmp r :: rs) (t :: ts)
  | one {a ty id e m : Nat} {xs : List T} {v t : T} {rs : List ResultVar} {ts : List T} (h1 : sl E a = .ref id 0) (h2 : lk L id = some (.cells e xs)) (h3 : lk F.ag ty = some (false, m)) (h4 : xs[0]? = some v) (h5 : TLe v t) (ht : RsE F E L rs ts) : RsE F E L (.cell a ty :: rs) (t :: ts)
  | agg {a ty id e m : Nat} {xs : List T} {ds : List D} {t : T} {rs : List ResultVar} {ts : List T} (h1 : sl E a = .ref id 0) (h2 : lk L id = some (.cells e xs)) (h3 : lk F.ag ty = some (true, m)) (h4 : dsOf (xs.take m) = some ds) (h6 : Nat.beq ds.length m = true) (h5 : TLe (.d (.agg ds)) t) (ht : RsE F E L rs ts) : RsE F E L (.cell a ty :: rs) (t :: ts)
theorem rse_run {g : Gh} {tmps : Array Value} {w : World} {σ : Nat → T} {objs : Objs} (hF : FaxOK P F) (hr : ∀ t, RepT g (σ t) (tmps.getD t undef)) (hE : ∀ t, TLe (σ t) (sl E t)) (hL : ∀ id x, obE L id = some x → objs id = some x) (hw : WI Γ g objs w) :
    ∀ {rs : List ResultVar} {ts : List T}, RsE F E L rs ts → ∃ vs : List Value, (List.mapM (m := Sem) (fun r : ResultVar => match r with
    | .tmp t => pure (tmps.getD t undef)
    | .cell a t => do loadVar t (← asAddr (tmps.getD a undef))) rs).run P w = .ok vs w ∧ Reps g ts vs
  | _, _, .nil => ⟨[], rfl, .nil⟩
  | _, _, @RsE.tmp _ _ _ r t rs ts h ht => by
    obtain ⟨vs, h1, h2⟩ := rse_run hF hr hE hL hw ht
    refine ⟨tmps.getD r undef :: vs, ?_, .cons (h g _ (hE r g _ (hr r))) h2⟩
    rw [List.mapM_cons]
    simp only [Sem.run_bind, Sem.run_pure, Result.andThen_ok, h1]
  | _, _, @RsE.one _ _ _ a ty id e m xs v t rs ts k1 k2 k3 k4 k5 ht => by
    obtain ⟨vs, h1, h2⟩ := rse_run hF hr hE hL hw ht
    have e1 := hE a g _ (hr a)
    rw [k1] at e1
    obtain ⟨u, hu, hru, -⟩ := obj_cell hw (hL id _ k2) k4
    generalize hy : tmps.getD a undef = y at e1
    cases e1 with
    | ref ha =>
      refine ⟨u :: vs, ?_, .cons (k5 g _ hru) h2⟩
      rw [List.mapM_cons]
      have hl : (loadVar ty ⟨g.blk id, 0, none⟩).run P w = .ok u w := by simp [loadVar, (agg_spec (hF.ag _ _ _ k3) w).1, load, Sem.run, hu]
      have hadr : (asAddr (tmps.getD a undef)).run P w = .ok ⟨g.blk id, 0, none⟩ w := by rw [hy]; simp [asAddr]
      simp only [Sem.run_bind, Sem.run_pure, Result.andThen_ok, hadr, hl, h1]
  | _, _, @RsE.agg _ _ _ a ty id e m xs ds t rs ts k1 k2 k3 k4 k6 k5 ht => by
    obtain ⟨vs, h1, h2⟩ := rse_run hF hr hE hL hw ht
    have e1 := hE a g _ (hr a)
    rw [k1] at e1
    obtain ⟨ys, -, a1, a2, a3, a4, a5⟩ := hw.obj id _ (hL id _ k2)
    have h3 := dsOf_reps k4 (a3.take m)
    have h4 := reps_dd h3 (fun x hx => a4 x (List.mem_of_mem_take hx))
    have hl := h4.len
    have hm := Nat.eq_of_beq_eq_true k6
    generalize hy : tmps.getD a undef = y at e1
    cases e1 with
    | ref ha =>
      refine ⟨.agg (ys.take m).toArray :: vs, ?_, .cons (k5 g _ (.d (.agg h4))) h2⟩
      rw [List.mapM_cons]
      have hcell : ∀ j, j < m → w.cell? ⟨g.blk id, 0 + j, none⟩ = (ys.take m)[j]? := fun j hj => by
        have hj2 : j < ys.length := by
          have : (ys.take m).length = m := by rw [hl, hm]
          rw [List.length_take] at this
          omega
        unfold World.cell?
        dsimp only
        rw [a2, List.getElem?_take, if_pos hj, Nat.zero_add]
        simp
      have hlc := loadCells_run (P := P) (w := w) m 0 #[] ⟨g.blk id, 0, none⟩ (ys.take m) (by rw [hl, hm]) (fun j hj => by rw [add_lit', Nat.zero_add]; exact hcell j hj)
      have hlv : (loadVar ty ⟨g.blk id, 0, none⟩).run P w = .ok (.agg (ys.take m).toArray) w := by
        simp only [loadVar, Sem.run_bind, Sem.run_pure, Result.andThen_ok, (agg_spec (hF.ag _ _ _ k3) w).1, if_true, (agg_spec (hF.ag _ _ _ k3) w).2, loadCells, hlc]
        simp
      have hadr : (asAddr (tmps.getD a undef)).run P w = .ok ⟨g.blk id, 0, none⟩ w := by rw [hy]; simp [asAddr]
      simp only [Sem.run_bind, Sem.run_pure, Result.andThen_ok, hadr, hlv, h1]
theorem results_rse {fn : Func} {rs : List ResultVar} {ts : List T} {g : Gh} {tmps : Array Value} {w : World} {σ : Nat → T} {objs : Objs} (hF : FaxOK P F) (hf : fn.results = rs.toArray) (hr : ∀ t, RepT g (σ t) (tmps.getD t undef)) (hE : ∀ t, TLe (σ t) (sl E t)) (hL : ∀ id x, obE L id = some x → objs id = some x) (hw : WI Γ g objs w)
    (h : RsE F E L rs ts) : ∃ v, (results fn tmps).run P w = .ok v w ∧ RepT g (resOf ts) v := by
  obtain ⟨vs, h1, h2⟩ := rse_run hF hr hE hL hw h
  have hrun : (results fn tmps).run P w = .ok (if h : vs.toArray.size = 1 then vs.toArray[0] else .tuple vs.toArray) w := by
    unfold results
    rw [hf]
    simp only [List.mapM_toArray, Sem.run_bind, Sem.run_map, Sem.run_pure]
    exact congrArg (fun x => (Result.andThen x fun (a : List Value) w' => Result.ok a.toArray w').andThen fun (a : Array Value) w' => Result.ok (if h : a.size = 1 then a[0] else Value.tuple a) w') h1
  refine ⟨_, hrun, ?_⟩
  cases h2 with
  | nil => exact .tup .nil
  | @cons t l x xs h3 h4 =>
    cases h4 with
    | nil => exact h3
    | @cons t2 l2 x2 xs2 h5 h6 =>
      rw [dif_neg (by simp)]
      exact .tup (.cons h3 (.cons h5 h6))
def argsE : Nat → List T → En
  | _, [] => []
  | i, t :: ts => (i, t) :: argsE (i + 1) ts
theorem argsE_get : ∀ (ts : List T) (i t : Nat), sl (argsE i ts) t = if t < i then .und else envL ts (t - i)
  | [], i, t => by
    show T.und = _
    split
    · rfl
    · simp [envL]
  | x :: ts, i, t => by
    rw [argsE, sl_cons]
    cases e : Nat.beq t i with
    | true =>
      have := Nat.eq_of_beq_eq_true e
      subst this
      rw [if_neg (Nat.lt_irrefl _), Nat.sub_self]
      rfl
    | false =>
      have hne : t ≠ i := fun h => by rw [h, Nat.beq_refl] at e; cases e
      simp only [cond_false]
      rw [argsE_get ts (i + 1) t]
      by_cases h : t < i
      · rw [if_pos h, if_pos (by omega)]
      · rw [if_neg h, if_neg (by omega)]
        obtain ⟨m, rfl⟩ : ∃ m, t = i + 1 + m := ⟨t - i - 1, by omega⟩
        rw [show i + 1 + m - (i + 1) = m from by omega, show i + 1 + m - i = m + 1 from by omega]
        rfl
theorem argsE_env (ts : List T) : sl (argsE 0 ts) = envL ts := by
  funext t
  rw [argsE_get, if_neg (Nat.not_lt_zero t), Nat.sub_zero]
/-! ### Functions -/
abbrev QF (F : Fax) (rs : List ResultVar) (ress : List T) (post : Ob) : QE := fun e E L => (e = .ret ∨ e = .normal) ∧ RsE F E L rs ress ∧ FitO L post
theorem FnO.of_EV (V : List Nat) (hF : FaxOK P F) {f : FuncId} {fn : Func} {c : Code} {args ress : List T} {pre post : Ob} {rs : List ResultVar} (hf : P.funcs[f]? = some fn) (hb : fn.body = some c) (hr : fn.results = rs.toArray) (hN : fn.ntmps = n) (hk : Nat.ble args.length n = true) (hp : (pre.all fun p => Nat.ble 1000 p.1) = true) (hok : okC n c = true)
    (h : ∀ Γ : Cx, (∀ i, i < 1000 → ¬ Γ.A i) → bdTs args → bdO pre pre → evC P F V Γ n c (argsE 0 args) pre (QF F rs ress post)) : FnO P f args pre (resOf ress) post := by
  intro w g vs ht hx hw hreps
  have hl := reps_len hreps
  have hk' := Nat.le_of_ble_eq_true hk
  have hA : ∀ i, i < 1000 → ¬ (cxO w g pre ht hx).A i := fun i hi ⟨ob, hob⟩ => by
    have := List.all_eq_true.1 hp _ (objL_mem hob)
    have := Nat.le_of_ble_eq_true this
    simp only at this
    omega
  have haw := AW.bd fun _ hb => evC_AW hF hA hok (h (cxO w g pre ht hx) hA (bdTs_rep hreps) hb)
  rw [argsE_env, obE_obj] at haw
  refine calls_of_wp hf hb (wp_mono (haw _ w ⟨rfl, ?_, g, reps_slots hreps _, hw⟩) ?_)
  · simp [hN, hl]; omega
  · rintro e a' w' ⟨σ', objs', ⟨E', L', hE, hL, he, hres, hpost⟩, hd, hs, g', hr', hw'⟩
    obtain ⟨v, hv, hrv⟩ := results_rse hF hr hr' hE hL hw' hres
    have hsub : ∀ id ob, objL post id = some ob → objs' id = some ob := fun id ob h => hL id ob (hpost.le id ob (by rw [obE_obj]; exact h))
    have key : a'.defers = [] ∧ ∃ v, (results fn a'.tmps).run P w' = .ok v w' ∧ ∃ u g', Ending.returned v = .returned u ∧ RepT g' (resOf ress) u ∧ WI (cxO w g pre ht hx) g' (objL post) w' :=
      ⟨hd, v, hv, v, g', rfl, hrv, hw'.imm, fun id ob h => hw'.obj id ob (hsub id ob h), fun i j oi oj b h1 h2 => hw'.apart i j oi oj b (hsub _ _ h1) (hsub _ _ h2), hw'.fr, hw'.old, hw'.ext⟩
    rcases he with rfl | rfl
    · exact key
    · exact key
theorem FnD.of_EV (V : List Nat) (hF : FaxOK P F) {f : FuncId} {fn : Func} {c : Code} {args ress : List T} {rs : List ResultVar} (hf : P.funcs[f]? = some fn) (hb : fn.body = some c) (hr : fn.results = rs.toArray) (hN : fn.ntmps = n) (hk : Nat.ble args.length n = true) (hok : okC n c = true) (hid : ∀ id, (resOf ress).has id = false)
    (h : ∀ Γ : Cx, (∀ i, i < 1000 → ¬ Γ.A i) → bdTs args → evC P F V Γ n c (argsE 0 args) [] (QF F rs ress [])) : FnD P f args (resOf ress) := by
  intro w g vs htab hi hreps
  have hl := reps_len hreps
  have hk' := Nat.le_of_ble_eq_true hk
  have haw := evC_AW hF (fun _ _ => id) hok (h ⟨fun _ => False, w, g, fun _ => False, htab, fun _ _ => id, []⟩ (fun _ _ => id) (bdTs_rep hreps))
  rw [argsE_env, obE_obj] at haw
  refine calls_of_wp hf hb (wp_mono (haw _ w ⟨rfl, ?_, g, reps_slots hreps _, ⟨hi, fun id ob h => ?_, fun i j oi oj b h => ?_, Fr.refl _, fun _ _ _ _ _ => rfl, GLe.refl _ _⟩⟩) ?_)
  · simp [hN, hl]; omega
  · cases h
  · cases h
  · rintro e a' w' ⟨σ', objs', ⟨E', L', hE, hL, he, hres, -⟩, hd, hs, g', hr', hw'⟩
    obtain ⟨v, hv, hrv⟩ := results_rse hF hr hr' hE hL hw' hres
    have key : a'.defers = [] ∧ ∃ v, (results fn a'.tmps).run P w' = .ok v w' ∧ ∃ v' S', Ending.returned v = .returned v' ∧ SLe g.S S' ∧ (∀ b o, b < w.heap.size → ¬ TabB w b → S' b o = g.S b o) ∧ (∀ b o x, S' b o = some x → w'.cell? ⟨b, o, none⟩ = some x) ∧ RepT ⟨S', g.blk, g.row, g.len⟩ (resOf ress) v' ∧ Below w.heap.size w w' := by
      refine ⟨hd, v, hv, v, g'.S, rfl, hw'.ext.S, fun b o hb => hw'.old b o hb id, hw'.imm, ?_, hw'.fr.below fun _ => id⟩
      exact hrv.mono (A := fun _ => False) (g := g') (g' := ⟨g'.S, g.blk, g.row, g.len⟩) ⟨SLe.refl _, fun _ h => h.elim, fun _ h => h.elim, fun _ h => h.elim⟩ fun id h => by rw [hid id] at h; cases h
    rcases he with rfl | rfl
    · exact key
    · exact key
theorem FnO.of1 (V : List Nat) (hF : FaxOK P F) {f : FuncId} {fn : Func} {c : Code} {args : List T} {res : T} {pre post : Ob} {rs : List ResultVar} (hf : P.funcs[f]? = some fn) (hb : fn.body = some c) (hr : fn.results = rs.toArray) (hN : fn.ntmps = n) (hk : Nat.ble args.length n = true) (hp : (pre.all fun p => Nat.ble 1000 p.1) = true) (hok : okC n c = true)
    (h : ∀ Γ : Cx, (∀ i, i < 1000 → ¬ Γ.A i) → bdTs args → bdO pre pre → evC P F V Γ n c (argsE 0 args) pre (QF F rs [res] post)) : FnO P f args pre res post := FnO.of_EV V hF (ress := [res]) hf hb hr hN hk hp hok h
theorem FnO.ofT (V : List Nat) (hF : FaxOK P F) {f : FuncId} {fn : Func} {c : Code} {args : List T} {r1 r2 : T} {ress : List T} {pre post : Ob} {rs : List ResultVar} (hf : P.funcs[f]? = some fn) (hb : fn.body = some c) (hr : fn.results = rs.toArray) (hN : fn.ntmps = n) (hk : Nat.ble args.length n = true) (hp : (pre.all fun p => Nat.ble 1000 p.1) = true) (hok : okC n c = true)
    (h : ∀ Γ : Cx, (∀ i, i < 1000 → ¬ Γ.A i) → bdTs args → bdO pre pre → evC P F V Γ n c (argsE 0 args) pre (QF F rs (r1 :: r2 :: ress) post)) : FnO P f args pre (.tup (r1 :: r2 :: ress)) post := FnO.of_EV V hF (ress := r1 :: r2 :: ress) hf hb hr hN hk hp hok h
theorem FnO.of0 (V : List Nat) (hF : FaxOK P F) {f : FuncId} {fn : Func} {c : Code} {args : List T} {pre post : Ob} {rs : List ResultVar} (hf : P.funcs[f]? = some fn) (hb : fn.body = some c) (hr : fn.results = rs.toArray) (hN : fn.ntmps = n) (hk : Nat.ble args.length n = true) (hp : (pre.all fun p => Nat.ble 1000 p.1) = true) (hok : okC n c = true)
    (h : ∀ Γ : Cx, (∀ i, i < 1000 → ¬ Γ.A i) → bdTs args → bdO pre pre → evC P F V Γ n c (argsE 0 args) pre (QF F rs [] post)) : FnO P f args pre (.tup []) post := FnO.of_EV V hF (ress := []) hf hb hr hN hk hp hok h
theorem FnD.of1 (V : List Nat) (hF : FaxOK P F) {f : FuncId} {fn : Func} {c : Code} {args : List T} {res : T} {rs : List ResultVar} (hf : P.funcs[f]? = some fn) (hb : fn.body = some c) (hr : fn.results = rs.toArray) (hN : fn.ntmps = n) (hk : Nat.ble args.length n = true) (hok : okC n c = true) (hid : ∀ id, res.has id = false)
    (h : ∀ Γ : Cx, (∀ i, i < 1000 → ¬ Γ.A i) → bdTs args → evC P F V Γ n c (argsE 0 args) [] (QF F rs [res] [])) : FnD P f args res := FnD.of_EV V hF (ress := [res]) hf hb hr hN hk hok hid h
theorem FnD.ofT (V : List Nat) (hF : FaxOK P F) {f : FuncId} {fn : Func} {c : Code} {args : List T} {r1 r2 : T} {ress : List T} {rs : List ResultVar} (hf : P.funcs[f]? = some fn) (hb : fn.body = some c) (hr : fn.results = rs.toArray) (hN : fn.ntmps = n) (hk : Nat.ble args.length n = true) (hok : okC n c = true) (hid : ∀ id, (T.tup (r1 :: r2 :: ress)).has id = false)
    (h : ∀ Γ : Cx, (∀ i, i < 1000 → ¬ Γ.A i) → bdTs args → evC P F V Γ n c (argsE 0 args) [] (QF F rs (r1 :: r2 :: ress) [])) : FnD P f args (.tup (r1 :: r2 :: ress)) := FnD.of_EV V hF (ress := r1 :: r2 :: ress) hf hb hr hN hk hok hid h
/-! ### Calls -/
def AllO (L : Ob) : Ob → Prop
  | [] => True
  | p :: l => lk L p.1 = some p.2 ∧ AllO L l
theorem AllO.mem {L : Ob} : ∀ {l : Ob}, AllO L l → ∀ p ∈ l, obE L p.1 = some p.2
  | [], _, p, hp => by cases hp
  | q :: l, h, p, hp => by
    rcases List.mem_cons.1 hp with rfl | hp
    · exact h.1
    · exact h.2.mem p hp
theorem gen_d {f : FuncId} {xs : List Operand} {ts : Array TypeId} {args : List T} {res : T} (ho : o.op = .call { callee := .value (.func f), args := xs.toArray, argTypes := ts }) (hE : ∀ args w, (callFunc f args).run P w = .ok (.enter f args) w) (hC : FnD P f args res) (hx : TLes (sl E) xs args) (hk : k [] res []) : gen P o E L k :=
  gen_nil (t_callf ho hE hC hx) hk
theorem gen_o (R : List (Nat × Nat)) {f : FuncId} {xs : List Operand} {ts : Array TypeId} {args : List T} {pre post : Ob} {res : T} (ho : o.op = .call { callee := .value (.func f), args := xs.toArray, argTypes := ts }) (hE : ∀ args w, (callFunc f args).run P w = .ok (.enter f args) w) (hC : FnO P f args pre res post)
    (hx : TLes (sl E) xs (T.rens (rn R) args)) (hc : chkO (R.map (·.1)) (rn R) args pre res post = true) (hp : AllO L (renP (rn R) pre ++ (newsOf (R.map (·.1)) pre).map fun i => (rn R i, .vac)))
    (hk : k ((renP (rn R) pre ++ (newsOf (R.map (·.1)) pre).map fun i => (rn R i, GObj.vac)).map Prod.fst) (res.ren (rn R)) (renP (rn R) post)) : gen P o E L k :=
  ⟨_, _, _, t_callo R ho hE hC hx hc, hp.mem, hk⟩
theorem gen_v {c : Operand} {f : FuncId} {xs : List Operand} {ts : Array TypeId} {caps args : List T} {res : T} (ho : o.op = .call { callee := .value c, args := xs.toArray, argTypes := ts }) (hc : opT (sl E) c = .fn f caps)
    (hE : ∀ args w, (callFunc f args).run P w = .ok (.enter f args) w) (hC : FnD P f args res) (hx : Lend (opTs (sl E) xs ++ caps) args []) (hk : k [] res []) : gen P o E L k := gen_nil (t_callv ho hc hE hx hC) hk
theorem exA {z : Int} {m : Nat} {K : Nat → Prop} (j : Nat) (e : z = (j : Int)) (hj : j < m) (h : K j) : ∃ j : Nat, z = (j : Int) ∧ j < m ∧ K j := ⟨j, e, hj, h⟩
theorem TLe.int {t : Nat} {a b : Int} (h : sl E t = intT a) (e : a = b) : TLe (sl E t) (intT b) := TLe.of_eq (by rw [h, e])
theorem TLe.bool {t : Nat} {a b : Bool} (h : sl E t = boolT a) (e : a = b) : TLe (sl E t) (boolT b) := TLe.of_eq (by rw [h, e])
theorem TLe.str {t : Nat} {a b : List UInt8} (h : sl E t = strT a) (e : a = b) : TLe (sl E t) (strT b) := TLe.of_eq (by rw [h, e])
/-! ### Steps -/
theorem spT {c : Bool} {A B : Prop} (h : c = true) (a : A) : (c = true → A) ∧ (c = false → B) := ⟨fun _ => a, fun e => by rw [h] at e; cases e⟩
theorem spF {c : Bool} {A B : Prop} (h : c = false) (b : B) : (c = true → A) ∧ (c = false → B) := ⟨fun e => (by rw [h] at e; cases e), fun _ => b⟩
theorem guT {c want : Bool} {A B : Prop} (h : c = want) (a : A) : (c = want → A) ∧ (c = (!want) → B) := ⟨fun _ => a, fun e => by rw [h] at e; cases want <;> cases e⟩
theorem guF {c want : Bool} {A B : Prop} (h : c = !want) (b : B) : (c = want → A) ∧ (c = (!want) → B) := ⟨fun e => (by rw [h] at e; cases want <;> cases e), fun _ => b⟩
theorem sp2 {c : Bool} {A B : Prop} (a : c = true → A) (b : c = false → B) : (c = true → A) ∧ (c = false → B) := ⟨a, b⟩
theorem exR {α : Type} {x : α} {K : α → Prop} (h : K x) : ∃ r, x = r ∧ K r := ⟨x, rfl, h⟩
theorem exE {α : Type} {x : α} {K : α → Prop} (y : α) (e : x = y) (h : K y) : ∃ r, x = r ∧ K r := ⟨y, e, h⟩
theorem exC {a : Int} {K : List UInt8 → Prop} {l : List UInt8} (h : EncB a l) (hk : K l) : ∃ l, EncB a l ∧ K l := ⟨l, h, hk⟩
theorem exS {l : List D} {j : Nat} {K : D → Prop} (d : D) (hd : l[j]? = some d) (hl : d.lv = [d]) (h : K d) : ∃ d : D, l[j]? = some d ∧ d.lv = [d] ∧ K d := ⟨d, hd, hl, h⟩
theorem exBR {P : Program} {op : BinOp} {t : Nat} {x y : Value} {K : Bool → Prop} (c : Bool) (hr : BinR P op t x y (.bool c)) (h : K c) : ∃ c : Bool, BinR P op t x y (.bool c) ∧ K c := ⟨c, hr, h⟩
theorem exCl {rows : List (List D)} {j t0 : Nat} {K : D → Prop} (l : List D) (d : D) (h1 : rows[j]? = some l) (h2 : l[t0]? = some d) (hl : d.lv = [d]) (h : K d) : ∃ (l : List D) (d : D), rows[j]? = some l ∧ l[t0]? = some d ∧ d.lv = [d] ∧ K d := ⟨l, d, h1, h2, hl, h⟩
theorem exL {rows : List (List D)} {j : Nat} {K : List D → Prop} (l : List D) (h1 : rows[j]? = some l) (h : K l) : ∃ l : List D, rows[j]? = some l ∧ K l := ⟨l, h1, h⟩
theorem exL0 {rows : List (List D)} {j t0 : Nat} {d : D} {K : List D → Prop} (l : List D) (h1 : rows[j]? = some l) (h2 : t0 < l.length) (hl : d.lv = [d]) (h : K l) : ∃ l : List D, rows[j]? = some l ∧ t0 < l.length ∧ d.lv = [d] ∧ K l := ⟨l, h1, h2, hl, h⟩
theorem exRA {rows : List (List D)} {j : Nat} {z : Int} {K : List D → Nat → Prop} (l : List D) (t0 : Nat) (h1 : rows[j]? = some l) (e : z = (t0 : Int)) (h2 : t0 < l.length) (h : K l t0) : ∃ (l : List D) (t0 : Nat), rows[j]? = some l ∧ z = (t0 : Int) ∧ t0 < l.length ∧ K l t0 := ⟨l, t0, h1, e, h2, h⟩
theorem exMk {a b : Int} {m : Nat} {K : Nat → Prop} (n : Nat) (e1 : a = (n : Int)) (e2 : b = (n : Int)) (hn : n ≤ m) (h : K n) : ∃ n : Nat, a = (n : Int) ∧ b = (n : Int) ∧ n ≤ m ∧ K n := ⟨n, e1, e2, hn, h⟩
theorem exT {kv : Value} {K : List (Value × Option (List D)) → Prop} (M0 : List (Value × Option (List D))) (h : K M0) : ∃ M1, mtake M0 kv = mtake M1 kv ∧ K M1 := ⟨M0, rfl, h⟩
theorem exI {l : List D} {z : Int} {K : D → Prop} (j : Nat) {d : D} (e : z = (j : Int)) (hd : l[j]? = some d) (h : K d) : ∃ (j : Nat) (d : D), z = (j : Int) ∧ l[j]? = some d ∧ K d := ⟨j, d, e, hd, h⟩
theorem exB {l : List UInt8} {z : Int} {K : UInt8 → Prop} (j : Nat) {d : UInt8} (e : z = (j : Int)) (hd : l[j]? = some d) (h : K d) : ∃ (j : Nat) (d : UInt8), z = (j : Int) ∧ l[j]? = some d ∧ K d := ⟨j, d, e, hd, h⟩
theorem exN {z : Int} {m : Nat} {K : Nat → Prop} (a : Nat) (e : z = (a : Int)) (ha : a ≤ m) (h : K a) : ∃ a : Nat, z = (a : Int) ∧ a ≤ m ∧ K a := ⟨a, e, ha, h⟩
theorem w_inc {i : Nat} (h : i + 1 ≤ 9223372036854775807) : IntKind.i64.wrap ((i : Int) + 1) = ((i + 1 : Nat) : Int) := by rw [wrap_in (by omega) (by omega)]; omega
theorem w_dec {i : Nat} (h0 : 1 ≤ i) (h : i ≤ 9223372036854775807) : IntKind.i64.wrap ((i : Int) - 1) = ((i - 1 : Nat) : Int) := by rw [wrap_in (by omega) (by omega)]; omega
end
end Go.Proofs.YtngklbnodknadaaGreatDoor
end

section
namespace Go.Proofs.YtngklbnodknadaaGreatDoor
open Go.ChangeShapes Go.WideShapes Go.ChangeAt Go.RowKit Go.Deep

section
variable {H : Type} {enc : TypeId × Value → H} {P : Program} {w : World} {base : Nat} {spare : Nat → Bool} {held : Bool}
/-- What one of type E reads as. -/
def Opn (enc : TypeId × Value → H) (P : Program) (w : World) (base : Nat) (spare : Nat → Bool) (held : Bool) {α : Type} (E : TypeId) (f : α → D) (ok : α → Prop) : Prop :=
  ∀ (fuel : Nat) (cs : List Value) (x : DataW H × List MemPlace), DataW.trod enc P w base spare held fuel E cs = some x → ∃ a : α, ok a ∧ RepDs (allS w) (f a).lv cs
theorem Opn.int {t : TypeId} {k : IntKind} (ht : P.underlying t = some (.int k)) : Opn enc P w base spare held t (fun a : Int => D.v (.int k a)) (fun a => (Lit.int k a).wf = true) := by
  intro fuel cs x hf
  obtain ⟨n, rfl, -, hw⟩ := DataW.trod_int ht hf
  exact ⟨n, hw, .cons (.v rfl) rfl .nil⟩
theorem Opn.str {t : TypeId} (ht : P.underlying t = some .string) : Opn enc P w base spare held t strD (fun l => l.length ≤ maxLen) := by
  intro fuel cs x hf
  obtain ⟨s, rfl, -, hw⟩ := DataW.trod_string ht hf
  exact ⟨s.data.toList, hw, .cons (.v rfl) rfl .nil⟩
theorem Opn.sl {α : Type} {E T : TypeId} {k : Nat} {f : α → D} {ok : α → Prop} (ht : P.underlying T = some (.slice E)) (hE : P.cellsOf E = k) (hk0 : 0 < k) (hO : Opn enc P w base spare held E f ok) :
    Opn enc P w base spare held T (fun l : List α => .sl k (l.map f)) (fun l => ∀ x ∈ l, ok x) := by
  intro fuel cs x hf
  rcases open_slice ht hf with ⟨rfl, -⟩ | ⟨a, len, cap, m, n, D, Pl, rfl, -, hl, hm, hmm, -, hall⟩
  · exact ⟨[], fun _ h => by simp at h, .cons (.sl .nil (RowS.nil _ _) (Nat.le_refl _) (by decide) fun _ => rfl) rfl .nil⟩
  · rw [hE] at hall
    have hlm : len ≤ m := by rw [hmm]; split <;> omega
    have key : ∀ i, i ≤ len → ∃ (l : List α) (xs : List Value), l.length = i ∧ xs.length = i * k ∧ (∀ x ∈ l, ok x) ∧ RepLv (allS w) k (l.map f) xs ∧ ∀ j, j < i * k → w.cell? (a.add j) = xs[j]? := by
      intro i
      induction i with
      | zero => intro _; exact ⟨[], [], rfl, by simp, fun _ h => (by simp at h), .nil, fun j h => by omega⟩
      | succ i ih =>
        intro hi
        obtain ⟨l, xs, h1, h2, h3, h4, h5⟩ := ih (by omega)
        obtain ⟨cs', hc, htr⟩ := hall i (by omega)
        obtain ⟨b, hb, hr⟩ := hO _ _ _ htr
        obtain ⟨-, hlen, hat⟩ := World.cells?_some hc
        refine ⟨l ++ [b], xs ++ cs', by simp [h1], by rw [List.length_append, h2, hlen, Nat.succ_mul], fun x hx => ?_, ?_, fun j hj => ?_⟩
        · rcases List.mem_append.1 hx with hx | hx
          · exact h3 x hx
          · obtain rfl := List.mem_singleton.1 hx; exact hb
        · rw [List.map_append, List.map_cons, List.map_nil]
          refine RepLv.app h4 ?_
          have := RepLv.cons hr hlen (RepLv.nil (S := allS w) (k := k))
          rwa [List.append_nil] at this
        · by_cases hji : j < i * k
          · rw [List.getElem?_append_left (by omega)]; exact h5 j hji
          · rw [Nat.succ_mul] at hj
            have := hat (j - i * k) (by omega)
            rw [Go.Deep.add_add, show i * k + (j - i * k) = j from by omega] at this
            rw [List.getElem?_append_right (by omega), h2]
            exact this
    obtain ⟨l, xs, rfl, h2, h3, h4, h5⟩ := key len (Nat.le_refl _)
    have hml : (l.map f).length = l.length := List.length_map ..
    refine ⟨l, h3, .cons (hml ▸ .sl h4 ?_ (by rw [hml]; exact hl) (by unfold maxLen at hm; exact hm) fun h => by cases h) rfl .nil⟩
    by_cases h0 : 0 < l.length
    · obtain ⟨b, off, spot⟩ := a
      have hx0 : 0 < xs.length := by rw [h2]; exact Nat.mul_pos h0 hk0
      have h1 := h5 0 (by omega)
      rw [List.getElem?_eq_getElem hx0] at h1
      have hs : spot = none := by simpa [Addr.add] using World.cell?_spot h1
      subst hs
      refine ⟨b, off, fun _ => rfl, fun i hi => ?_⟩
      have := h5 i (by omega)
      rw [add_lit'] at this
      exact this
    · obtain rfl : xs = [] := List.eq_nil_of_length_eq_zero (by rw [h2]; simp at h0; simp [h0])
      exact RowS.nil _ _
theorem Opn.two {α β : Type} {t : TypeId} {f0 f1 : Field} {c0 c1 : Nat} {f : α → D} {g : β → D} {ok : α → Prop} {ok' : β → Prop} (ht : P.underlying t = some (.struct #[f0, f1])) (hc : P.cellsOf t = c0 + c1) (hc0 : P.cellsOf f0.type = c0) (hc1 : P.cellsOf f1.type = c1)
    (ho0 : f0.offset = 0) (ho1 : f1.offset = c0) (h0 : Opn enc P w base spare held f0.type f ok) (h1 : Opn enc P w base spare held f1.type g ok') :
    Opn enc P w base spare held t (fun p : α × β => .agg ((f p.1).lv ++ (g p.2).lv)) (fun p => ok p.1 ∧ ok' p.2) := by
  intro fuel cs x hf
  obtain ⟨y0, y1, n, -, hl, e0, e1⟩ := trod_struct2 ht hf
  rw [ho0, hc0, List.drop_zero] at e0
  rw [ho1, hc1] at e1
  obtain ⟨a, ha, ra⟩ := h0 _ _ _ e0
  obtain ⟨b, hb, rb⟩ := h1 _ _ _ e1
  refine ⟨(a, b), ⟨ha, hb⟩, ?_⟩
  have e : cs = cs.take c0 ++ (cs.drop c0).take c1 := by
    rw [List.take_of_length_le (l := cs.drop c0) (by simp; omega), List.take_append_drop]
  rw [e]
  exact ra.app rb
theorem open_arg {α : Type} {T E : TypeId} {f : α → D} {ok : α → Prop} {r : Reach} {b0 : Nat} {v : Value} {d : DataW H} {ps : List MemPlace} (ht : P.underlying T = some (.slice E)) (hO : Opn enc P w base spare held T f ok) (hf : ∀ a, (f a).lv = [f a])
    (hv : Value.okWide P w r b0 T v) (h : DataW.Trod enc P w base spare held T v d ps) : ∃ a, ok a ∧ RepD (allS w) (f a) v := by
  obtain ⟨a0, len, cap, rfl⟩ := okWide_slice ht hv
  obtain ⟨fuel, h⟩ := h
  obtain ⟨a, ha, hr⟩ := hO _ _ _ h
  rw [hf a] at hr
  have e : (Value.slice a0 len cap).cells.toList = [.slice a0 len cap] := rfl
  rw [e] at hr
  cases hr with
  | cons h1 _ _ => exact ⟨a, ha, h1⟩
end
end Go.Proofs.YtngklbnodknadaaGreatDoor
end
