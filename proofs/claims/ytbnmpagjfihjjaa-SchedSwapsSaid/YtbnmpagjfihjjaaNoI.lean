/-
  How Normal's rows lie: a row of numbers, a row of rows that grows, each in a block of its own; BinarySearch.
-/
import Derived.Test.YtbnmpagjfihjjaaNorL
namespace Go.Proofs.Ytbnmpagjfihjjaa
open Go.RowKit

theorem types_apart {w : World} {B B' s s' n n' : Nat} {e e' : TypeId} {v v' : Value} {xs xs' : List Value} (h : w.ownsRow B e s v n xs) (h' : w.ownsRow B' e' s' v' n' xs') (hne : e ≠ e') : v.ownBlock = none ∨ v.ownBlock ≠ v'.ownBlock := by
  rcases h.2 with ⟨rfl, -⟩ | ⟨g, cap, cur, rfl, -, hg, -⟩
  · exact .inl rfl
  · right
    rcases h'.2 with ⟨rfl, -⟩ | ⟨g', cap', cur', rfl, -, hg', -⟩
    · simp [Value.ownBlock]
    · intro he
      simp only [Value.ownBlock, Option.some.injEq] at he
      subst he
      rw [hg] at hg'
      simp only [Option.some.injEq, Obj.cells.injEq] at hg'
      exact hne hg'.2.1
theorem svget_app (ps : List (Sv Int)) (x : Sv Int) (j : Nat) : (ps ++ [x]).getD j .none = if j < ps.length then ps.getD j .none else if j = ps.length then x else .none := by
  rw [List.getD_eq_getElem?_getD]
  split
  · next h => rw [List.getElem?_append_left h, List.getD_eq_getElem?_getD]
  · next h =>
    rw [List.getElem?_append_right (by omega)]
    split
    · next e => rw [e, Nat.sub_self]; rfl
    · next e => rw [List.getElem?_eq_none (by simp; omega)]; rfl
theorem svset_ne {ps : List (Sv Int)} {i j : Nat} {x : Sv Int} (h : i ≠ j) : (ps.set i x).getD j .none = ps.getD j .none := by
  rw [List.getD_eq_getElem?_getD, List.getElem?_set_ne h, List.getD_eq_getElem?_getD]
theorem svset_eq {ps : List (Sv Int)} {i : Nat} {x : Sv Int} (h : i < ps.length) : (ps.set i x).getD i .none = x := by
  rw [List.getD_eq_getElem?_getD, List.getElem?_set_self h]; rfl
theorem infoS : (Try.prog.info? 22).map (fun i => (i.zero, i.size, i.bytes)) = some (some (.slice none 0 0), 1, 24) := by kernel_rfl

structure NoI (B : Nat) (wr : World) (U : Nat) (nx : List Nat) (oP : Option Addr) (oC : Nat) (ps : List (Sv Int)) : Prop where
  nxt : wr.ownsRow B 3 1 (.slice (some ⟨U, 0, none⟩) nx.length nx.length) nx.length (ints .i64 (nl nx))
  row : wr.ownsRow B 22 1 (.slice oP ps.length oC) ps.length (ps.map Sv.val)
  each : ∀ j, j < ps.length → wr.ownsRow B 3 1 (ps.getD j .none).val (ps.getD j .none).l.length (ints .i64 (ps.getD j .none).l)
  sep : ∀ i j, i < ps.length → j < ps.length → i ≠ j → ((ps.getD i .none).val.ownBlock = none ∨ (ps.getD i .none).val.ownBlock ≠ (ps.getD j .none).val.ownBlock)
  sepU : ∀ j, j < ps.length → (ps.getD j .none).val.ownBlock ≠ some U
section
variable {B : Nat} {wr w' : World} {U : Nat} {nx : List Nat} {oP : Option Addr} {oC : Nat} {ps : List (Sv Int)}
theorem NoI.below (h : NoI B wr U nx oP oC ps) (hb : Below wr.heap.size wr w') : NoI B w' U nx oP oC ps :=
  ⟨own_below h.nxt hb, own_below h.row hb, fun j hj => own_below (h.each j hj) hb, h.sep, h.sepU⟩
theorem NoI.cell (h : NoI B wr U nx oP oC ps) {s b off : Nat} (hs : s < ps.length) (hp : oP = some ⟨b, off, none⟩) : wr.cell? ⟨b, off + s, none⟩ = some (ps.getD s .none).val := by
  have hS := Sl.of_own h.row
  subst hp
  refine hS.row.at_ ?_
  rw [List.getElem?_map, List.getD_eq_getElem?_getD, List.getElem?_eq_getElem hs]
  rfl
theorem NoI.ptr (h : NoI B wr U nx oP oC ps) (h0 : 0 < ps.length) : ∃ b, oP = some ⟨b, 0, none⟩ ∧ b < wr.heap.size := by
  rcases h.row.2 with ⟨-, e⟩ | ⟨g, cap', cur, hv, hb, hg, -⟩
  · omega
  · simp only [Value.slice.injEq, true_and] at hv
    exact ⟨g, hv.1, (Array.getElem?_eq_some_iff.1 hg).1⟩
theorem NoI.frozen (h : NoI B wr U nx oP oC ps) {b s : Nat} (hp : oP = some ⟨b, 0, none⟩) (h0 : 0 < ps.length) : wr.frozen? ⟨b, s, none⟩ = false := by
  rcases h.row.2 with ⟨-, e⟩ | ⟨g, cap', cur, hv, hb, hg, -⟩
  · omega
  · simp only [Value.slice.injEq, true_and] at hv
    rw [hp] at hv
    simp only [Option.some.injEq, Addr.mk.injEq, and_true] at hv
    have hB : Blk wr b cur 22 := by rw [hv.1]; exact hg
    exact hB.frozen s
/-- One row more, of nothing. -/
theorem NoI.more (h : NoI B wr U nx oP oC ps) {oP' : Option Addr} {oC' : Nat} (hown : w'.ownsRow B 22 1 (.slice oP' (ps.length + 1) oC') (ps.length + 1) (ps.map Sv.val ++ [.slice none 0 0])) (hg : wr.grownBy w' (Value.slice oP ps.length oC).ownBlock) : NoI B w' U nx oP' oC' (ps ++ [.none]) := by
  have hl : (ps ++ [(Sv.none : Sv Int)]).length = ps.length + 1 := by simp
  refine ⟨h.nxt.kept hg (types_apart h.nxt h.row (by decide)), ?_, fun j hj => ?_, fun i j hi hj hij => ?_, fun j hj => ?_⟩
  · rw [hl, List.map_append]; exact hown
  · rw [svget_app]
    split
    · next hlt => exact (h.each j hlt).kept hg (types_apart (h.each j hlt) h.row (by decide))
    · split
      · exact World.ownsRow_nil _ _ _ _
      · exact World.ownsRow_nil _ _ _ _
  · rw [svget_app, svget_app]
    rw [hl] at hi hj
    by_cases h1 : i < ps.length
    · rw [if_pos h1]
      by_cases h2 : j < ps.length
      · rw [if_pos h2]; exact h.sep i j h1 h2 hij
      · rw [if_neg h2, if_pos (by omega)]
        cases hob : (ps.getD i .none).val.ownBlock with
        | none => exact .inl rfl
        | some g => exact .inr (by simp [Value.ownBlock])
    · rw [if_neg h1, if_pos (by omega)]
      exact .inl rfl
  · rw [svget_app]
    split
    · next hlt => exact h.sepU j hlt
    · split <;> simp [Value.ownBlock]
/-- One row anew, stored. -/
theorem NoI.ins (h : NoI B wr U nx oP oC ps) {s b : Nat} (hs : s < ps.length) (hp : oP = some ⟨b, 0, none⟩) {p' : Option Addr} {c' m : Nat} {l' : List Int} (hm : l'.length = m)
    (hown : w'.ownsRow B 3 1 (.slice p' m c') m (ints .i64 l')) (hg : wr.grownBy w' (ps.getD s .none).val.ownBlock)
    (hn : (Value.slice p' m c').ownBlock = (ps.getD s .none).val.ownBlock ∨ (Value.slice p' m c').ownBlock = some wr.heap.size) :
    NoI B (w'.setCell ⟨b, s, none⟩ (.slice p' m c')) U nx oP oC (ps.set s ⟨p', c', l'⟩) := by
  subst hp
  have hset := grown_set w' b s (.slice p' m c')
  have hv : (⟨p', c', l'⟩ : Sv Int).val = .slice p' m c' := by simp [Sv.val, hm]
  have hb : (Value.slice (some ⟨b, 0, none⟩) ps.length oC).ownBlock = some b := rfl
  have r1 := h.row.kept hg (types_apart h.row (h.each s hs) (by decide))
  have n1 := h.nxt.kept hg (.inr (fun e => h.sepU s hs e.symm))
  have ap : ∀ {v : Value} {n : Nat} {xs : List Value}, w'.ownsRow B 3 1 v n xs → v.ownBlock = none ∨ v.ownBlock ≠ some b := fun hv => by
    have := types_apart hv r1 (by decide)
    rwa [hb] at this
  refine ⟨n1.kept hset (ap n1), ?_, fun j hj => ?_, fun i j hi hj hij => ?_, fun j hj => ?_⟩
  · have := (World.ownsRow.stored r1 s (.slice p' m c')).1
    rw [List.map_set, hv, List.length_set]
    exact this
  · rw [List.length_set] at hj
    by_cases e : s = j
    · subst e
      rw [svset_eq hs, hv]
      have := hown.kept hset (ap hown)
      simpa [hm] using this
    · rw [svset_ne e]
      have h1 := (h.each j hj).kept hg (h.sep j s hj hs (fun e' => e e'.symm))
      exact h1.kept hset (ap h1)
  · rw [List.length_set] at hi hj
    by_cases e : s = i
    · subst e
      rw [svset_eq hs, svset_ne hij, hv]
      rcases hn with hn | hn
      · rw [hn]; exact h.sep s j hi hj hij
      · rw [hn]
        refine .inr fun e => ?_
        have := ((h.each j hj).lt _ e.symm).2
        omega
    · by_cases e2 : s = j
      · subst e2
        rw [svset_eq hs, svset_ne e, hv]
        rcases hn with hn | hn
        · rw [hn]; exact h.sep i s hi hj hij
        · rw [hn]
          cases ho : (ps.getD i .none).val.ownBlock with
          | none => exact .inl rfl
          | some g =>
            refine .inr fun e3 => ?_
            have := ((h.each i hi).lt g ho).2
            simp only [Option.some.injEq] at e3
            omega
      · rw [svset_ne e, svset_ne e2]
        exact h.sep i j hi hj hij
  · rw [List.length_set] at hj
    by_cases e : s = j
    · subst e
      rw [svset_eq hs, hv]
      rcases hn with hn | hn
      · rw [hn]; exact h.sepU s hs
      · rw [hn]
        intro e
        have := (h.nxt.lt U rfl).2
        simp only [Option.some.injEq] at e
        omega
    · rw [svset_ne e]; exact h.sepU j hj
/-- One number of 'next' is written. -/
theorem NoI.put (h : NoI B wr U nx oP oC ps) (k v : Nat) : NoI B (wr.setCell ⟨U, k, none⟩ (.int .i64 (v : Int))) U (nx.set k v) oP oC ps := by
  have hset := grown_set wr U k (.int .i64 (v : Int))
  have hU : (Value.slice (some ⟨U, 0, none⟩) nx.length nx.length).ownBlock = some U := rfl
  refine ⟨?_, h.row.kept hset ?_, fun j hj => (h.each j hj).kept hset (.inr (h.sepU j hj)), h.sep, h.sepU⟩
  · have := own_set h.nxt k ((v : Nat) : Int)
    rw [nl_set] at this
    rw [List.length_set]
    exact this
  · have := types_apart h.row h.nxt (by decide)
    rwa [hU] at this
theorem NoI.rd (h : NoI B wr U nx oP oC ps) : RdR wr ⟨oP, oC, ps⟩ := by
  refine ⟨?_, fun x hx => ?_⟩
  · have := Sl.of_own h.row
    have e : ∀ qs : List (Sv Int), qs.flatMap rowCells = qs.map Sv.val := fun qs => by
      induction qs with
      | nil => rfl
      | cons a l ih => rw [List.flatMap_cons, List.map_cons, ih]; rfl
    dsimp only
    rw [e]
    exact this
  · dsimp only at hx
    obtain ⟨j, hj, rfl⟩ := List.getElem_of_mem hx
    have := h.each j hj
    rw [List.getD_eq_getElem?_getD, List.getElem?_eq_getElem hj] at this
    exact Sl.of_own this
end
end Go.Proofs.Ytbnmpagjfihjjaa
