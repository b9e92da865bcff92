/-
  A region in the order of its text, walked by the cheap steps of the quiet walk (go_big_quiet_step): reads, and calls that leave the old memory alone.
-/
import Derived.Test.YthdleldnjoamlaaFast
namespace Go.Proofs.Ythdleldnjoamlaa
open Go.RowKit Go.Sort

section
variable {P : Program} {ops : Array Oper} {C : World → Prop} {Q : Exit → Act → World → Prop}
theorem wpList_of_quiet : ∀ (l : List Oper) (a : Act) (w : World), C w → wpQuiet P ops C (fun a' => ∀ w', C w' → Q .normal a' w') l a → wpList P ops Q l a w
  | [], a, w, hC, h => h w hC
  | o :: rest, a, w, hC, h => by
    unfold wpQuiet at h
    unfold wpList
    split at h
    · next hw =>
      rw [if_pos hw]
      obtain ⟨v, hv, hn⟩ := h
      refine .inl ?_
      have hq := hv w hC
      unfold Oper.quietAt at hq
      unfold Oper.wp
      cases hr : (execOp a.eval o).run P w with
      | halt x w1 => rw [hr] at hq; exact hq.elim
      | ok n w1 =>
        rw [hr] at hq
        cases n with
        | value u =>
          obtain ⟨rfl, rfl⟩ := hq
          exact wpList_of_quiet rest _ _ hC hn
        | skip =>
          obtain ⟨rfl, rfl⟩ := hq
          exact wpList_of_quiet rest _ _ hC hn
        | enter f args =>
          obtain ⟨rfl, hc⟩ := hq
          refine hc.mono ?_
          rintro e w2 ⟨rfl, hC2⟩
          exact wpList_of_quiet rest _ _ hC2 hn
        | _ => exact hq.elim
    · next hw =>
      rw [if_neg hw]
      exact wpList_of_quiet rest _ _ hC h
end
/-- A region in the order of its text that only reads, and calls what leaves the old memory alone. -/
theorem seq_below {P : Program} {id : Nat} {Q : Exit → Act → World → Prop} {a : Act} {w : World} {l l' : List Oper} (hl : l = l')
    (h : wpQuiet P l'.toArray (fun w' => ∃ p : Regrown, w' = grow (redrawn w p.d) p.os) (fun a' => ∀ w', Below w.heap.size w w' → Q .normal a' w') l' a) : (Code.region id l.toArray false).wp P Q a w := by
  subst hl
  refine wp_region_lit (wpList_of_quiet (C := fun w' => ∃ p : Regrown, w' = grow (redrawn w p.d) p.os) l a w (regrown_of_below (Below.refl _ _)) ?_)
  have e : (fun a' => ∀ w', (∃ p : Regrown, w' = grow (redrawn w p.d) p.os) → Q .normal a' w') = (fun a' => ∀ w', Below w.heap.size w w' → Q .normal a' w') := by
    funext a'
    refine propext ⟨fun h w' hb => h w' (regrown_of_below hb), fun h w' ⟨p, hp⟩ => h w' (hp ▸ below_regrown w p.d p.os)⟩
  rw [e]; exact h
end Go.Proofs.Ythdleldnjoamlaa
