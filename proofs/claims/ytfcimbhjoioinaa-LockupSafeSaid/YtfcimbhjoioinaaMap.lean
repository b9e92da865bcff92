/-
  A map that a call has made, as a function from keys to values, whatever its elements are.
-/
import Derived.Maps.OwnOps
import Derived.WalkKit
import Derived.Below
import Derived.Lib.Hide
namespace Go.Proofs.Ytfcimbhjoioinaa
open Go.RowKit
open Go.Maps (Keyed fit_look fit_store)
open Go.ChangeMaps (notKey putKey mem_insert_iff)
open Go.WideShapes (sorted_perm)
open Go.WideElems (Fit rd rg rd_key rd_val rg_of rd_mk)
open Go.ChangeMaps (setBlock heap_setBlock_same heap_setBlock_other)
open Go.MapKept

def heldR (v : Value) : Option (DataW Value × List MemPlace) := some (.held v, [])

/-- Block b of w is a map of at most n entries; of a key it holds what G says. -/
structure MapIs (P : Program) (w : World) (k : TypeId) (b n : Nat) (G : Value → Option Value) : Prop where
  ex : ∃ es clock, w.heap[b]? = some (.map es clock) ∧ Fit P k heldR es clock ∧ es.size ≤ n ∧
    ∀ key kl, keyOf P k key = some kl → ∀ v, G key = some v ↔ ∃ e ∈ es.toList, e.key = key ∧ e.val = v

section
variable {P : Program} {w w' : World} {k : TypeId} {b n : Nat} {G : Value → Option Value}

theorem MapIs.lt (h : MapIs P w k b n G) : b < w.heap.size := by
  obtain ⟨es, clock, hb, -⟩ := h.ex
  exact (Array.getElem?_eq_some_iff.1 hb).1
theorem MapIs.of_heap (h : MapIs P w k b n G) (e : w'.heap[b]? = w.heap[b]?) : MapIs P w' k b n G := by
  obtain ⟨es, clock, hb, r⟩ := h.ex
  exact ⟨es, clock, e.trans hb, r⟩
theorem MapIs.below (h : MapIs P w k b n G) {B : Nat} (hw : Below B w w') (hb : b < B) : MapIs P w' k b n G := h.of_heap (hw.block b hb)
theorem MapIs.drew (h : MapIs P w k b n G) : MapIs P w.drew k b n G := h.of_heap rfl
theorem MapIs.alloc (h : MapIs P w k b n G) (o : Obj) : MapIs P (w.alloc o) k b n G := h.of_heap (by
  show (w.heap.push o)[b]? = _
  rw [Array.getElem?_push, if_neg (Nat.ne_of_lt h.lt)])
theorem MapIs.mono (h : MapIs P w k b n G) {m : Nat} (hm : n ≤ m) : MapIs P w k b m G := by
  obtain ⟨es, clock, hb, F, hs, r⟩ := h.ex
  exact ⟨es, clock, hb, F, Nat.le_trans hs hm, r⟩
theorem MapIs.congr (h : MapIs P w k b n G) {G' : Value → Option Value} (e : ∀ key kl, keyOf P k key = some kl → G' key = G key) : MapIs P w k b n G' := by
  obtain ⟨es, clock, hb, F, hs, r⟩ := h.ex
  exact ⟨es, clock, hb, F, hs, fun key kl hk v => by rw [e key kl hk]; exact r key kl hk v⟩

theorem mapIs_made (w : World) (P : Program) (k : TypeId) : MapIs P (w.alloc (.map #[] 0)) k w.heap.size 0 (fun _ => none) :=
  ⟨#[], 0, (MapKept.heap_alloc w _).1, ⟨by simp, stamped_empty 0, by simp⟩, Nat.le_refl _, fun _ _ _ v => by simp⟩

theorem held_mem {es : Array MapEntry} {clock : Nat} (F : Fit P k heldR es clock) (K : Keyed P k) {key : Value} {kl : Lit} (hk : keyOf P k key = some kl) (v : Value) :
    (kl, DataW.held v) ∈ (es.toList.map (rg P k heldR)).foldr DataW.insert [] ↔ ∃ e ∈ es.toList, e.key = key ∧ e.val = v := by
  rw [(sorted_perm _).mem_iff, List.mem_map]
  constructor
  · rintro ⟨e, he, h⟩
    obtain ⟨y, hy⟩ := F.reads e he
    rw [rg_of hy] at h
    subst h
    obtain ⟨z, hz, hd⟩ := rd_val hy
    simp only [heldR, Option.some.injEq] at hz
    subst hz
    simp only [DataW.held.injEq] at hd
    exact ⟨e, he, K.inj (rd_key hy) hk, hd.symm⟩
  · rintro ⟨e, he, rfl, rfl⟩
    refine ⟨e, he, ?_⟩
    have : rd P k heldR e = some (kl, .held e.val) := by unfold rd; rw [hk]; rfl
    rw [rg_of this]

theorem MapIs.look {t e : TypeId} (h : MapIs P w k b n G) (c : Bool) (K : Keyed P k) (ht : P.underlying t = some (.map k e)) {z : Value} (hz : (zeroValue e).run P w = .ok z w) {key : Value} {kl : Lit} (hkey : keyOf P k key = some kl) :
    (Instr.lookup t (.map (some b)) key c).run P w = .ok (if c then .tuple #[(G key).getD z, .bool (G key).isSome] else (G key).getD z) w := by
  obtain ⟨es, clock, hb, F, hs, r⟩ := h.ex
  rcases fit_look c K ht hz hb F hkey with ⟨hrun, hno, -⟩ | ⟨e0, y, hm, hk0, hrun, -⟩
  · have hG : G key = none := by
      cases hg : G key with
      | none => rfl
      | some v =>
        obtain ⟨x, hx, hxk, -⟩ := (r key kl hkey v).1 hg
        exact absurd hxk (hno x hx)
    rw [hG]; exact hrun
  · have hG : G key = some e0.val := (r key kl hkey _).2 ⟨e0, hm, hk0, rfl⟩
    rw [hG]; exact hrun

noncomputable def putG (G : Value → Option Value) (key val : Value) (x : Value) : Option Value := by
  classical exact if x = key then some val else G x
theorem putG_same (G : Value → Option Value) (key val : Value) : putG G key val key = some val := by unfold putG; simp
theorem putG_other (G : Value → Option Value) {key x : Value} (val : Value) (h : x ≠ key) : putG G key val x = G x := by unfold putG; simp [h]

theorem MapIs.update {t e : TypeId} (h : MapIs P w k b n G) (K : Keyed P k) (ht : P.underlying t = some (.map k e)) (hn : n < maxLen) {key val : Value} {kl : Lit} (hkey : keyOf P k key = some kl) :
    ∃ w', (Instr.mapUpdate t (.map (some b)) key val).run P w = .ok () w' ∧ MapIs P w' k b (n + 1) (putG G key val) ∧ w.grownBy w' (some b) := by
  obtain ⟨es, clock, hb, F, hs, r⟩ := h.ex
  obtain ⟨es', clock', hrun, F', hput, -, -, hwho⟩ := fit_store (R := heldR) (R' := heldR) K ht hb F (Nat.lt_of_le_of_lt hs hn) (fun _ _ _ _ hz => hz) hkey (yv := (.held val, [])) rfl
  refine ⟨_, hrun, ⟨es', clock', heap_setBlock_same hb _, F', ?_, ?_⟩, ⟨rfl, rfl, rfl, by simp [setBlock], fun i _ hi => heap_setBlock_other hb _ (fun e => hi (by rw [e]))⟩⟩
  · have e1 : es'.size = ((es'.toList.map (rg P k heldR)).foldr DataW.insert []).length := by rw [length_sorted]; simp
    rw [e1, hput]
    unfold putKey
    rw [length_insert]
    have e2 := List.length_filter_le (notKey kl) ((es.toList.map (rg P k heldR)).foldr DataW.insert [])
    rw [length_sorted] at e2
    simp at e2
    omega
  · intro x klx hx v
    by_cases e : x = key
    · subst e
      rw [putG_same]
      constructor
      · intro hv
        cases hv
        rw [← held_mem F' K hkey, hput]
        exact mem_insert_iff.2 (.inl rfl)
      · rintro ⟨e, he, hek, rfl⟩
        rcases hwho e he with ⟨-, hne⟩ | ⟨-, hv⟩
        · exact absurd hek hne
        · rw [hv]
    · rw [putG_other G val e, r x klx hx v]
      constructor
      · intro hv
        rw [← held_mem F K hx] at hv
        rw [← held_mem F' K hx, hput]
        refine mem_insert_iff.2 (.inr (List.mem_filter.2 ⟨hv, ?_⟩))
        have hne : klx ≠ kl := fun e1 => e (K.inj (e1 ▸ hx) hkey)
        exact (Maps.notKey_iff (K.key hkey)).2 hne
      · rintro ⟨e', he, hek, rfl⟩
        rcases hwho e' he with ⟨h1, -⟩ | ⟨h1, -⟩
        · exact ⟨e', h1, hek, rfl⟩
        · exact absurd (hek.symm.trans h1) e

theorem wpList_lookup_is {ops : Array Oper} {rest : List Oper} {o : Oper} {a : Act} {Q : Exit → Act → World → Prop}
    (hg : o.guard = none) (m x : Operand) (t : TypeId) (c : Bool) (hop : o.op = Op.lookup t m x c) (e : TypeId) (K : Keyed P k) (ht : P.underlying t = some (.map k e)) (z : Value) (hz : (zeroValue e).run P w = .ok z w)
    (hm : a.eval m = .map (some b)) (hown : MapIs P w k b n G) (key : Value) (kl : Lit) (hx : a.eval x = key) (hkey : keyOf P k key = some kl) (r : Option Value) (hr : G key = r)
    (hK : wpList P ops Q rest (a.put o.dst (if c then .tuple #[r.getD z, .bool r.isSome] else r.getD z)) w) :
    wpList P ops Q (o :: rest) a w := by
  refine wpList_plain hg fun K' hK' => ?_
  subst hr
  have hrun := hown.look c K ht hz hkey
  unfold Oper.wp
  simp [execOp, hop, hm, hx, hrun, Result.andThen]
  exact hK' _ _ hK

theorem wpList_mapUpdate_is {ops : Array Oper} {rest : List Oper} {o : Oper} {a : Act} {Q : Exit → Act → World → Prop}
    (hg : o.guard = none) (m x v : Operand) (t : TypeId) (hop : o.op = Op.mapUpdate t m x v) (e : TypeId) (K : Keyed P k) (ht : P.underlying t = some (.map k e))
    (hm : a.eval m = .map (some b)) (hown : MapIs P w k b n G) (hn : n < maxLen) (key val : Value) (kl : Lit) (hx : a.eval x = key) (hv : a.eval v = val) (hkey : keyOf P k key = some kl)
    (hK : ∀ w', MapIs P w' k b (n + 1) (putG G key val) → w.grownBy w' (some b) → wpList P ops Q rest (a.put o.dst undef) w') :
    wpList P ops Q (o :: rest) a w := by
  refine wpList_plain hg fun K' hK' => ?_
  obtain ⟨w', hrun, r1, r2⟩ := hown.update K ht hn hkey (val := val)
  unfold Oper.wp
  simp [execOp, hop, hm, hx, hv, hrun, Result.andThen]
  exact hK' _ _ (hK w' r1 r2)
end
end Go.Proofs.Ytfcimbhjoioinaa
