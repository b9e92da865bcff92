/-
  Code over ghost values: rules; a function's contract; a call.
-/
import Derived.Test.YtenlhfmchhljdaaDoorGo
import Derived.Deep.LoopGhost
namespace Go.Proofs.YtenlhfmchhljdaaDoor
open Go.RowKit

abbrev GPost := Exit → (Nat → T) → Objs → Prop
def lift (Γ : Cx) (n : Nat) (Q : GPost) : Exit → Act → World → Prop := fun e a w => ∃ σ objs, Q e σ objs ∧ Conc Γ n σ objs a w
/-- From slots and objects such, c comes to Q. -/
def AW (P : Program) (Γ : Cx) (n : Nat) (c : Code) (σ : Nat → T) (objs : Objs) (Q : GPost) : Prop := ∀ a w, Conc Γ n σ objs a w → c.wp P (lift Γ n Q) a w
section
variable {P : Program} {Γ : Cx} {n : Nat} {σ σ' : Nat → T} {objs objs' : Objs} {Q : GPost}
theorem AW.seq {x y : Code} (h : AW P Γ n x σ objs fun e σ' objs' => match e with | .normal => AW P Γ n y σ' objs' Q | e => Q e σ' objs') : AW P Γ n (.seq x y) σ objs Q := fun a w hc =>
  wp_seq (wp_mono (h a w hc) fun e a' w' ⟨σ', objs', hq, hc'⟩ => by
    cases e with
    | normal => exact hq a' w' hc'
    | _ => exact ⟨σ', objs', hq, hc'⟩)
/-- What is behind kept under a name. -/
theorem AW.seq_k {x y : Code} (h : ∀ K : (Nat → T) → Objs → Prop, (∀ σ objs, AW P Γ n y σ objs Q → K σ objs) → AW P Γ n x σ objs fun e σ' objs' => match e with | .normal => K σ' objs' | e => Q e σ' objs') : AW P Γ n (.seq x y) σ objs Q :=
  AW.seq (h _ fun _ _ h => h)
theorem AW.skip (h : Q .normal σ objs) : AW P Γ n .skip σ objs Q := fun _ _ hc => wp_skip ⟨σ, objs, h, hc⟩
theorem AW.ret (h : Q .ret σ objs) : AW P Γ n .ret σ objs Q := fun _ _ hc => wp_ret ⟨σ, objs, h, hc⟩
theorem AW.exit {id : Nat} (h : Q (.exit id) σ objs) : AW P Γ n (.exit id) σ objs Q := fun _ _ hc => wp_exit ⟨σ, objs, h, hc⟩
theorem AW.block {id : Nat} {c : Code} (h : AW P Γ n c σ objs fun e σ' objs' => match e with | .exit i => if i = id then Q .normal σ' objs' else Q (.exit i) σ' objs' | e => Q e σ' objs') : AW P Γ n (.block id c) σ objs Q := fun a w hc =>
  wp_block (wp_mono (h a w hc) fun e a' w' ⟨σ', objs', hq, hc'⟩ => by
    cases e with
    | exit i =>
      show (if i = id then _ else _)
      replace hq : if i = id then Q Exit.normal σ' objs' else Q (Exit.exit i) σ' objs' := hq
      by_cases hi : i = id
      · rw [if_pos hi] at hq ⊢; exact ⟨σ', objs', hq, hc'⟩
      · rw [if_neg hi] at hq ⊢; exact ⟨σ', objs', hq, hc'⟩
    | _ => exact ⟨σ', objs', hq, hc'⟩)
theorem AW.cond {t : Tmp} {x y : Code} {b : Bool} (hb : σ t = .d (.v (.bool b))) (ht : b = true → AW P Γ n x σ objs Q) (hf : b = false → AW P Γ n y σ objs Q) : AW P Γ n (.cond (.tmp t) x y) σ objs Q := fun a w hc => by
  obtain ⟨hd, hs, g, hr, hw⟩ := hc
  have h1 := hr t
  rw [hb] at h1
  exact wp_cond_split (t := b) (inv_v h1) (fun e => ht e a w ⟨hd, hs, g, hr, hw⟩) (fun e => hf e a w ⟨hd, hs, g, hr, hw⟩)
/-- Less is known. -/
theorem Conc.weak {a : Act} {w : World} (h : Conc Γ n σ objs a w) (hσ : ∀ t, TLe (σ t) (σ' t)) (ho : ∀ id ob, objs' id = some ob → objs id = some ob) : Conc Γ n σ' objs' a w := by
  obtain ⟨hd, hs, g, hr, hw⟩ := h
  exact ⟨hd, hs, g, fun t => hσ t g _ (hr t), ⟨hw.imm, fun id ob h => hw.obj id ob (ho id ob h), fun i j oi oj b h1 h2 => hw.apart i j oi oj b (ho _ _ h1) (ho _ _ h2), hw.fr, hw.old, hw.ext⟩⟩
theorem AW.weak {c : Code} (h : AW P Γ n c σ' objs' Q) (hσ : ∀ t, TLe (σ t) (σ' t)) (ho : ∀ id ob, objs' id = some ob → objs id = some ob) : AW P Γ n c σ objs Q := fun a w hc => h a w (hc.weak hσ ho)
theorem AW.mono {c : Code} {Q' : GPost} (h : AW P Γ n c σ objs Q') (hq : ∀ e σ objs, Q' e σ objs → Q e σ objs) : AW P Γ n c σ objs Q := fun a w hc => wp_mono (h a w hc) fun _ _ _ ⟨σ', objs', h1, h2⟩ => ⟨σ', objs', hq _ _ _ h1, h2⟩
/-- A loop: at each round's head it is in one of the states st, of a number that goes down. -/
theorem AW.loop {c : Code} {ι : Type} (I : ι → Prop) (st : ι → Nat → T) (ob : ι → Objs) (μ : ι → Nat) (i0 : ι) (hi0 : I i0) (h0 : ∀ t, TLe (σ t) (st i0 t)) (ho0 : ∀ id x, ob i0 id = some x → objs id = some x)
    (round : ∀ i, I i → AW P Γ n c (st i) (ob i) fun e σ' objs' => match e with | .normal => ∃ j, I j ∧ μ j < μ i ∧ (∀ t, TLe (σ' t) (st j t)) ∧ (∀ id x, ob j id = some x → objs' id = some x) | e => Q e σ' objs') : AW P Γ n (.loop c) σ objs Q := by
  intro a w hc
  refine wp_loop_ghost (fun m a w => ∃ i, I i ∧ μ i = m ∧ Conc Γ n (st i) (ob i) a w) (μ i0) ⟨i0, hi0, rfl, hc.weak h0 ho0⟩ ?_
  rintro m a w ⟨i, hi, rfl, hci⟩
  refine wp_mono (round i hi a w hci) fun e a' w' ⟨σ', objs', hq, hc'⟩ => ?_
  cases e with
  | normal =>
    obtain ⟨j, hI, hj, h1, h2⟩ := hq
    exact ⟨μ j, hj, j, hI, rfl, hc'.weak h1 h2⟩
  | _ => exact ⟨σ', objs', hq, hc'⟩
theorem AW.condT {t : Tmp} {x y : Code} (hb : σ t = .d (.v (.bool true))) (h : AW P Γ n x σ objs Q) : AW P Γ n (.cond (.tmp t) x y) σ objs Q := AW.cond hb (fun _ => h) fun e => by cases e
theorem AW.condF {t : Tmp} {x y : Code} (hb : σ t = .d (.v (.bool false))) (h : AW P Γ n y σ objs Q) : AW P Γ n (.cond (.tmp t) x y) σ objs Q := AW.cond hb (fun e => by cases e) fun _ => h
theorem ifT {c : Prop} [Decidable c] {p q : Prop} (hc : c) (h : p) : if c then p else q := by rw [if_pos hc]; exact h
theorem ifF {c : Prop} [Decidable c] {p q : Prop} (hc : ¬ c) (h : q) : if c then p else q := by rw [if_neg hc]; exact h
/-- How long a slice may be. -/
theorem AW.len {c : Code} (t k : Nat) (l : List D) (ht : TLe (σ t) (.d (.sl k l))) (h : l.length ≤ 9223372036854775807 → AW P Γ n c σ objs Q) : AW P Γ n c σ objs Q := by
  intro a w hc
  obtain ⟨hd, hs, g, hr, hw⟩ := hc
  have h1 := ht g _ (hr t)
  generalize a.tmps.getD t undef = y at h1
  refine h ?_ a w ⟨hd, hs, g, hr, hw⟩
  cases h1 with
  | d h1 => cases h1 with | sl _ _ hc hb _ => omega
theorem AW.lenp {c : Code} (t k : Nat) (l : List D) {ds : List D} (ht : σ t = .pi ds) (i : Nat) (hi : ds[i]? = some (.sl k l)) (h : l.length ≤ 9223372036854775807 → AW P Γ n c σ objs Q) : AW P Γ n c σ objs Q := by
  intro a w hc
  obtain ⟨hd, hs, g, hr, hw⟩ := hc
  have h1 := hr t
  rw [ht] at h1
  generalize a.tmps.getD t undef = y at h1
  refine h ?_ a w ⟨hd, hs, g, hr, hw⟩
  cases h1 with
  | pi h1 _ =>
    obtain ⟨x, -, h2, -⟩ := h1.at_ hi
    cases h2 with | sl _ _ hc hb _ => omega
end
end Go.Proofs.YtenlhfmchhljdaaDoor
