/-
  slices.SortFunc and slices.Compact of pairs, lent a row that grows.
-/
import Derived.Test.YtiaaoajnecppnaaCmp
import Derived.Test.YtiaaoajnecppnaaGj
namespace Go.Proofs.Ytiaaoajnecppnaa
open Go.RowKit

section
variable {P : Program} {Γ : Cx} {objs : Objs}
theorem one_lookup {i j : Nat} {a : GObj} : ([(i, a)] : List (Nat × GObj)).lookup j = if j = i then some a else none := by
  by_cases h : j = i
  · subst h; simp
  · have : (j == i) = false := by simpa using h
    simp [List.lookup, this, h]
theorem WI.weaken {g : Gh} {objs' : Objs} {w : World} (hw : WI Γ g objs w) (h : ∀ i ob, objs' i = some ob → objs i = some ob) : WI Γ g objs' w :=
  ⟨hw.imm, fun i ob hi => hw.obj i ob (h i ob hi), fun i j oi oj b h1 h2 => hw.apart i j oi oj b (h i oi h1) (h j oj h2), hw.fr, hw.old, hw.ext⟩
theorem WI.inplace {g : Gh} {w w' : World} {id e k ver : Nat} {l l' : List D} {xs' : List Value} (hw : WI Γ g objs w) (ho : objs id = some (.stk e k ver l)) (h2 : w'.ownsRow 0 e k (g.row id) l'.length xs') (h3 : w.grownBy w' (g.row id).ownBlock) (hm : RepLv g.S k l' xs') :
    WI Γ g (ovr objs [(id, .stk e k ver l')]) w' := by
  obtain ⟨xs, hlen, hown, hrep, hS⟩ := hw.obj id _ ho
  refine hw.re (b0 := (g.row id).ownBlock) rfl (GLe.refl _ _) (fun i _ => ⟨rfl, rfl, rfl⟩) h3 (fun b hb => ⟨⟨id, _, by rw [one_lookup, if_pos rfl]; rfl, ho, hb⟩, (hS b hb).2⟩) (fun i oi hi => ?_) (fun i oi b hi hb => ?_) (fun i j oi oj b hi hj _ _ => ?_)
  · rw [one_lookup] at hi
    by_cases h : i = id
    · rw [if_pos h] at hi; cases hi; subst h; exact ⟨xs', hlen, h2, hm, hS⟩
    · rw [if_neg h] at hi; cases hi
  · rw [one_lookup] at hi
    by_cases h : i = id
    · rw [if_pos h] at hi; cases hi; subst h; exact ⟨i, _, by rw [one_lookup, if_pos rfl]; rfl, ho, hb⟩
    · rw [if_neg h] at hi; cases hi
  · rw [one_lookup] at hi hj
    by_cases h : i = id <;> by_cases h' : j = id
    · rw [h, h']
    · rw [if_neg h'] at hj; cases hj
    · rw [if_neg h] at hi; cases hi
    · rw [if_neg h] at hi; cases hi
end
abbrev dpD (d : Dp) : D := .agg [.v (.int .i64 d.i), .v (.int .i64 d.j)]
theorem repds_v {S : Sm} {x : Value} {l : List D} {xs : List Value} (h : RepDs S (.v x :: l) xs) : ∃ ys, xs = x :: ys ∧ RepDs S l ys := by
  cases h with
  | cons h1 h2 h3 => cases h1 with | v _ => exact ⟨_, rfl, h3⟩
theorem repds_nil {S : Sm} {xs : List Value} (h : RepDs S [] xs) : xs = [] := by cases h; rfl
theorem rep_dps {S : Sm} : ∀ {L : List Dp} {xs : List Value}, RepLv S 2 (L.map dpD) xs → xs = dps L
  | [], _, h => by cases h; rfl
  | d :: L, _, h => by
    rw [List.map_cons] at h
    cases h with
    | cons h1 hk ht =>
      obtain ⟨ys, e1, h1⟩ := repds_v h1
      obtain ⟨zs, e2, h1⟩ := repds_v h1
      obtain rfl := repds_nil h1
      rw [dps_cons, rep_dps ht, e1, e2]; rfl
theorem dps_rep (S : Sm) : ∀ L : List Dp, RepLv S 2 (L.map dpD) (dps L)
  | [] => .nil
  | d :: L => by
    rw [dps_cons, List.map_cons]
    exact RepLv.cons (.cons (.v rfl) rfl (.cons (.v rfl) rfl .nil)) rfl (dps_rep S L)
theorem calls_list {P : Program} {f : FuncId} {vs vs' : List Value} {w : World} {Q : Ending → World → Prop} (e : vs = vs') (h : Calls P f vs'.toArray w Q) : Calls P f vs.toArray w Q := by rw [e]; exact h
theorem sort_fn (L : List Dp) (ver : Nat) (hl : L.length ≤ 100000) : FnO Try.prog 37 [.stk 1000 ver .all, .fn 38 []] [(1000, .stk 35 2 ver (L.map dpD))] (.tup []) [(1000, .stk 35 2 ver ((sortP L).map dpD))] := by
  intro w g vs ht hx hw hreps
  have hid : objL [(1000, .stk 35 2 ver (L.map dpD))] 1000 = some (.stk 35 2 ver (L.map dpD)) := rfl
  obtain ⟨xs, hlen, hown, hrep, hS⟩ := hw.obj 1000 _ hid
  obtain rfl := rep_dps hrep
  rw [List.length_map] at hown
  obtain ⟨p, cap, hrow, -, -⟩ := own_slice hown
  cases hreps with
  | @cons _ _ y ys h1 h2 =>
  cases h2 with
  | @cons _ _ y2 ys2 h3 h4 =>
  cases h4
  cases h1 with
  | stk q1 q2 q3 =>
  cases h3 with
  | fn h5 =>
  cases h5
  have hy : y = .slice p L.length cap := (q3 hlen).trans hrow
  subst hy
  have hown' : w.ownsRow 0 35 2 (.slice p L.length cap) L.length (dps L) := by rw [← hrow]; exact hown
  refine (sortP_any hown' rfl hl).mono ?_
  rintro e w' ⟨rfl, h6, h7⟩
  refine ⟨_, g, rfl, .tup .nil, ?_⟩
  have hlen2 : ((sortP L).map dpD).length = L.length := by rw [List.length_map, (sortP_perm L).length_eq]
  have := hw.inplace hid (l' := (sortP L).map dpD) (xs' := dps (sortP L)) (by rw [hlen2, hrow]; exact h6) (by rw [hrow]; exact h7) (dps_rep _ _)
  exact this.weaken fun i ob hi => by
    unfold ovr
    have : ([(1000, GObj.stk 35 2 ver ((sortP L).map dpD))] : List (Nat × GObj)).lookup i = some ob := hi
    rw [this]; rfl
theorem compact_fn (L : List Dp) (ver : Nat) : FnO Try.prog 41 [.stk 1000 ver .all] [(1000, .stk 35 2 ver (L.map dpD))] (.d (.sl 2 ((compP L).map dpD))) [(1000, .gone)] := by
  intro w g vs ht hx hw hreps
  have hid : objL [(1000, .stk 35 2 ver (L.map dpD))] 1000 = some (.stk 35 2 ver (L.map dpD)) := rfl
  obtain ⟨xs, hlen, hown, hrep, hS⟩ := hw.obj 1000 _ hid
  obtain rfl := rep_dps hrep
  rw [List.length_map] at hown
  obtain ⟨p, cap, hrow, -, -⟩ := own_slice hown
  cases hreps with
  | @cons _ _ y ys h1 h2 =>
  cases h2
  cases h1 with
  | stk q1 q2 q3 =>
  have hy : y = .slice p L.length cap := (q3 hlen).trans hrow
  subst hy
  have hown' : w.ownsRow 0 35 2 (.slice p L.length cap) L.length (dps L) := by rw [← hrow]; exact hown
  refine (compact_any hown' rfl).mono ?_
  rintro e w' ⟨rfl, h6, h7⟩
  have hlen2 : ((compP L).map dpD).length = (compP L).length := List.length_map _
  obtain ⟨c1, c2⟩ := WI.stk hw hid (l' := (compP L).map dpD) (v' := .slice p (compP L).length cap) (xs' := dps (compP L)) (by rw [hlen2]; exact h6) (by rw [hrow]; exact h7) (.inl (by rw [hrow]; cases p <;> rfl)) (dps_rep _ _)
  have hid2 : ovr (objL [(1000, .stk 35 2 ver (L.map dpD))]) [(1000, .stk 35 2 (ver + 1) ((compP L).map dpD))] 1000 = some (.stk 35 2 (ver + 1) ((compP L).map dpD)) := rfl
  obtain ⟨xs2, b0, b1, b2, b3⟩ := c2.obj 1000 _ hid2
  obtain ⟨k1, k2⟩ := c2.freeze hid2 fun b hb => (b3 b hb).2
  refine ⟨_, _, rfl, .d ?_, k2.weaken fun i ob hi => ?_⟩
  · have hr := frz_row b1 b2 k1.S fun b hb => hb
    have e2 : (setK g 1000 (.slice p (compP L).length cap)).row 1000 = .slice p (compP L).length cap := by simp [setK]
    rw [e2] at hr
    exact hr
  · unfold ovr
    have : ([(1000, GObj.gone)] : List (Nat × GObj)).lookup i = some ob := hi
    rw [this]; rfl
end Go.Proofs.Ytiaaoajnecppnaa
