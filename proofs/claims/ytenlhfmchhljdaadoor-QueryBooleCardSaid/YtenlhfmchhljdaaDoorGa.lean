/-
  Operations over ghost values: rows that grow.
-/
import Derived.Test.YtenlhfmchhljdaaDoorGf
import Derived.Test.YtenlhfmchhljdaaDoorSep
import Derived.Test.YtenlhfmchhljdaaDoorKeep
namespace Go.Proofs.YtenlhfmchhljdaaDoor
open Go.RowKit

/-- A slice type's row: its element, how many cells, how many bytes. -/
def rowT? (P : Program) (t : TypeId) : Option (TypeId × Nat × Nat) := match P.underlying t with
  | some (.slice e) => match P.info? e with
    | some i => match i.zero with
      | some z => if z.cells.size = i.size ∧ 0 < i.size ∧ i.bytes ≤ 1000 then some (e, i.size, i.bytes) else none
      | none => none
    | none => none
  | _ => none
section
variable {P : Program} {Γ : Cx} {o : Oper} {σ : Nat → T}
theorem rowT_spec {t e : TypeId} {k b : Nat} (h : rowT? P t = some (e, k, b)) : P.underlying t = some (.slice e) ∧ ∃ i z, P.info? e = some i ∧ i.zero = some z ∧ i.size = k ∧ i.bytes = b ∧ z.cells.size = k ∧ 0 < k ∧ b ≤ 1000 := by
  unfold rowT? at h
  split at h
  · next e' hu =>
    split at h
    · next i hi =>
      split at h
      · next z hz =>
        split at h
        · next hc => cases h; exact ⟨hu, i, z, hi, hz, rfl, rfl, hc.1, hc.2.1, hc.2.2⟩
        · cases h
      · cases h
    · cases h
  · cases h
theorem run_append_all (w : World) (t ty e : TypeId) (k b : Nat) (hT : rowT? P t = some (e, k, b)) (v : Value) (n : Nat) (xs : List Value) (hown : w.ownsRow 0 e k v n xs)
    (S : Sm) (hS : ∀ b o x, S b o = some x → w.cell? ⟨b, o, none⟩ = some x) (p : Option Addr) (m c : Nat) (news : List Value) (hr : RowS S p news) (hl : news.length = m * k) (h1 : ∀ u ∈ news, u.oneCell' = true) (hp : p = none → m = 0 ∧ c = 0) (hn : n + m ≤ 10000000) :
    ∃ v' w', (Builtin.append_ #[t, t] ty #[v, .slice p m c]).run P w = .ok v' w' ∧ w'.ownsRow 0 e k v' (n + m) (xs ++ news) ∧ w.grownBy w' v.ownBlock ∧ (v'.ownBlock = v.ownBlock ∨ v'.ownBlock = some w.heap.size) ∧ w'.ownsRow 0 e k v n xs ∧ (m = 0 → v' = v) := by
  obtain ⟨ht, i, z, hi, hz, hsize, hby, hzs, hsz, hb⟩ := rowT_spec hT
  cases p with
  | none =>
    obtain ⟨rfl, rfl⟩ := hp rfl
    have : news = [] := List.eq_nil_of_length_eq_zero (by simpa using hl)
    subst this
    exact ⟨v, w, run_append_owned_none w 0 t ty e i k ht hi v n xs hown, by simpa using hown, World.grownBy.refl _ _, .inl rfl, hown, fun _ => rfl⟩
  | some a =>
    by_cases hm : m = 0
    · -- nothing comes
      subst hm
      have : news = [] := List.eq_nil_of_length_eq_zero (by simpa using hl)
      subst this
      obtain ⟨v', w', hrun, h2, h3, h4, h5⟩ := run_append_own (P := P) w 0 t ty e i z k b ht hi hz hsize hby hzs hsz v n xs hown a 0 c [] (by simp) (fun j u h => by simp at h) (fun u h => by simp at h) (by unfold maxLen; omega) (Nat.le_trans (Nat.mul_le_mul hn hb) (by decide)) (Nat.zero_le _)
      obtain ⟨v2, w2, hrun2, -, -, h6⟩ := run_append_keep (P := P) w 0 t ty e i z k b ht hi hz hsize hby hzs hsz v n xs hown a 0 c [] (by simp) (fun j u h => by simp at h) (fun u h => by simp at h) hn hb (Nat.zero_le _)
      rw [hrun] at hrun2
      simp only [Result.ok.injEq] at hrun2
      obtain ⟨rfl, rfl⟩ := hrun2
      have hv : v' = v := by
        rcases hown.2 with ⟨e1, -⟩ | ⟨gb, cap, cur, e1, hbg, hg, hnc, hcm, hcs, htake⟩
        · rw [h5 ⟨e1, rfl⟩, e1]
        · subst hsize
          have hroom := run_append_room (P := P) w t ty e i ht hi gb n cap cur hg a 0 c [] (by simp) (fun j u h => by simp at h) (fun u h => by simp at h) (by omega) (by simp [hcs]; exact Nat.mul_le_mul_right _ hnc)
          subst e1
          rw [hrun] at hroom
          simp only [Result.ok.injEq] at hroom
          rw [hroom.1]; simp
      subst hv
      exact ⟨v', w', hrun, h2, h3, .inl rfl, h6, fun _ => rfl⟩
    · obtain ⟨b', off, hpp, hcell⟩ := hr
      have hpos : 0 < news.length := by rw [hl]; exact Nat.mul_pos (by omega) hsz
      have := hpp hpos
      obtain rfl : a = ⟨b', off, none⟩ := by simpa using this
      have hnews : ∀ j u, news[j]? = some u → w.cell? (Addr.add ⟨b', off, none⟩ j) = some u := fun j u hj => by
        have hlt := (List.getElem?_eq_some_iff.1 hj).1
        rw [add_lit']
        exact hS _ _ _ ((hcell j hlt).trans hj)
      obtain ⟨v', w', hrun, h2, h3, h4⟩ := run_append_sep (P := P) w 0 t ty e i z k b ht hi hz hsize hby hzs hsz v n xs hown ⟨b', off, none⟩ m c news hl hnews h1 hn hb (Nat.zero_le _)
      obtain ⟨v2, w2, hrun2, -, -, h6⟩ := run_append_keep (P := P) w 0 t ty e i z k b ht hi hz hsize hby hzs hsz v n xs hown ⟨b', off, none⟩ m c news hl hnews h1 hn hb (Nat.zero_le _)
      rw [hrun] at hrun2
      simp only [Result.ok.injEq] at hrun2
      obtain ⟨rfl, rfl⟩ := hrun2
      exact ⟨v', w', hrun, h2, h3, h4, h6, fun e => absurd e hm⟩
def ptrOf : Value → Option Addr
  | .slice p _ _ => p
  | _ => none
/-- The ghost behind an append: the row's block reads on. -/
def rowS (S : Sm) (v : Value) (xs : List Value) : Sm := fun b o => if v.ownBlock = some b then xs[o]? else S b o
def setRow (g : Gh) (id : Nat) (v : Value) (n : Nat) (xs : List Value) : Gh :=
  ⟨rowS g.S v xs, g.blk, fun i => if i = id then v else g.row i, fun i => if i = id then n + 1 else g.len i⟩
theorem own_get {w : World} {e : TypeId} {k n : Nat} {v : Value} {xs : List Value} (h : w.ownsRow 0 e k v n xs) {b : Nat} (hb : v.ownBlock = some b) {j : Nat} {x : Value} (hx : xs[j]? = some x) : w.cell? ⟨b, j, none⟩ = some x := by
  rcases h.2 with ⟨e1, -⟩ | ⟨gb, cap, cur, e1, h2, h3, h4, h5, h6, h7⟩
  · rw [e1] at hb; cases hb
  · subst e1
    simp only [Value.ownBlock, Option.some.injEq] at hb
    subst hb
    have hj := (List.getElem?_eq_some_iff.1 hx).1
    rw [h.cellAt j (by rw [← h.1]; exact hj), hx]
theorem WI.grow {g : Gh} {objs : Objs} {w w' : World} {id e k : Nat} {l m : List D} {v' : Value} {xs ys : List Value} (hw : WI Γ g objs w) (ho : objs id = some (.row e k l)) (hl : RepLv g.S k l xs) (hs : ∀ b, (g.row id).ownBlock = some b → ∀ o, g.S b o = xs[o]?)
    (h2 : w'.ownsRow 0 e k v' (l.length + m.length) (xs ++ ys)) (h3 : w.grownBy w' (g.row id).ownBlock) (h4 : v'.ownBlock = (g.row id).ownBlock ∨ v'.ownBlock = some w.heap.size) (h6 : w'.ownsRow 0 e k (g.row id) l.length xs)
    (h7 : m.length = 0 → v' = g.row id) (hm : RepLv g.S k m ys) :
    GLe (fun _ => True) g (setRow g id v' (l.length + m.length) (xs ++ ys)) ∧ WI Γ (setRow g id v' (l.length + m.length) (xs ++ ys)) (ovr objs [(id, .row e k (l ++ m))]) w' ∧ RowS (setRow g id v' (l.length + m.length) (xs ++ ys)).S (ptrOf v') (xs ++ ys) := by
  have hob := hw.obj id _ ho
  obtain ⟨xs', hlen, hown, hrep', hS'⟩ := hob
  have hcs : ∀ b o x, g.S b o = some x → b < w.heap.size := fun b o x h => World.block_lt_of_cell? w ⟨b, o, none⟩ (hw.imm b o x h)
  have hSle : SLe g.S (rowS g.S v' (xs ++ ys)) := by
    intro b o x h
    unfold rowS
    split
    · next e1 =>
      rcases h4 with h4 | h4
      · rw [h4] at e1
        rw [hs b e1 o] at h
        rw [List.getElem?_append_left (List.getElem?_eq_some_iff.1 h).1]
        exact h
      · rw [h4] at e1
        cases e1
        exact absurd (hcs _ _ _ h) (Nat.lt_irrefl _)
    · exact h
  have hne : ∀ b, b < w.heap.size → (g.row id).ownBlock ≠ some b → v'.ownBlock ≠ some b := fun b hb h e1 => by
    rcases h4 with h4 | h4
    · exact h (h4 ▸ e1)
    · rw [h4] at e1; cases e1; exact Nat.lt_irrefl _ hb
  have hle : GLe (fun _ => True) g (setRow g id v' (l.length + m.length) (xs ++ ys)) := by
    refine ⟨hSle, fun _ _ _ => rfl, fun i _ => ?_, fun i _ e1 => ?_⟩
    · simp only [setRow]
      split
      · next e1 => rw [e1, hlen]; omega
      · exact Nat.le_refl _
    · simp only [setRow] at e1 ⊢
      split
      · next e2 =>
        rw [if_pos e2, e2, hlen] at e1
        rw [h7 (by omega), e2]
      · rfl
  have hmine : ∀ b, v'.ownBlock = some b → Mine Γ b := fun b hb => by
    rcases h4 with h4 | h4
    · exact (hS' b (h4 ▸ hb)).1
    · rw [h4] at hb; cases hb; exact .inl hw.fr.size
  refine ⟨hle, ⟨?_, ?_, ?_, ?_, ?_, ?_⟩, ?_⟩
  · intro b o x h
    simp only [setRow, rowS] at h
    split at h
    · next e1 => exact own_get h2 e1 h
    · next e1 =>
      have hlt := hcs b o x h
      by_cases hb : (g.row id).ownBlock = some b
      · rw [hs b hb o] at h
        exact own_get h6 hb h
      · have := h3.block b hlt (fun e2 => hb e2.symm)
        rw [World.cell?_of_block (w := w) this]
        exact hw.imm b o x h
  · intro i ob hi
    by_cases hid : i = id
    · subst hid
      have : ob = .row e k (l ++ m) := by
        simp [ovr] at hi
        exact hi.symm
      subst this
      refine ⟨xs ++ ys, by simp [setRow], by simpa [setRow] using h2, (hl.app hm).mono hSle, fun b hb => ?_⟩
      simp only [setRow, if_true] at hb
      exact ⟨hmine b hb, fun o => by simp only [setRow, rowS]; rw [if_pos hb]⟩
    · have hi' : objs i = some ob := by
        have : (i == id) = false := by simpa using hid
        simpa [ovr, List.lookup, this] using hi
      have hoi := hw.obj i ob hi'
      refine hoi.same hle rfl (by simp [setRow, hid]) (by simp [setRow, hid]) (fun _ _ => trivial) fun b hb => ?_
      have hlt := hoi.blk_lt hb
      have hne2 : (g.row id).ownBlock ≠ some b := fun e1 => hid (hw.apart i id _ _ b hi' ho hb e1)
      refine ⟨h3.block _ hlt fun e1 => hne2 e1.symm, fun o => ?_⟩
      simp only [setRow, rowS]
      rw [if_neg (hne _ hlt hne2)]
  · have back : ∀ (i : Nat) (oi : GObj) (b : Nat), ovr objs [(id, .row e k (l ++ m))] i = some oi → oi.blk (setRow g id v' (l.length + m.length) (xs ++ ys)) i b → (i = id ∧ v'.ownBlock = some b) ∨ (i ≠ id ∧ objs i = some oi ∧ oi.blk g i b) := by
      intro i oi b h1 hb
      by_cases hid : i = id
      · subst hid
        have : oi = .row e k (l ++ m) := by simp [ovr] at h1; exact h1.symm
        subst this
        exact .inl ⟨rfl, by simpa [GObj.blk, setRow] using hb⟩
      · have hi' : objs i = some oi := by
          have : (i == id) = false := by simpa using hid
          simpa [ovr, List.lookup, this] using h1
        refine .inr ⟨hid, hi', ?_⟩
        rw [← blk_same (g := g) (g' := setRow g id v' (l.length + m.length) (xs ++ ys)) (i := i) rfl (by simp [setRow, hid]) oi]; exact hb
    have blt : ∀ (i : Nat) (oi : GObj) (b : Nat), objs i = some oi → oi.blk g i b → b < w.heap.size := fun i oi b h1 hb => hw.blk_lt h1 hb
    intro i j oi oj b h1 h2' h3' h4'
    rcases back i oi b h1 h3' with ⟨e1, b1⟩ | ⟨n1, o1, b1⟩ <;> rcases back j oj b h2' h4' with ⟨e2, b2⟩ | ⟨n2, o2, b2⟩
    · rw [e1, e2]
    · exfalso
      rcases h4 with h4 | h4
      · exact n2 (hw.apart j id _ _ b o2 ho b2 (h4.symm.trans b1))
      · rw [h4] at b1; cases b1; exact Nat.lt_irrefl _ (blt j oj _ o2 b2)
    · exfalso
      rcases h4 with h4 | h4
      · exact n1 (hw.apart i id _ _ b o1 ho b1 (h4.symm.trans b2))
      · rw [h4] at b2; cases b2; exact Nat.lt_irrefl _ (blt i oi _ o1 b1)
    · exact hw.apart i j oi oj b o1 o2 b1 b2
  · refine ⟨h3.os.trans hw.fr.os, h3.tape.trans hw.fr.tape, h3.output.trans hw.fr.output, Nat.le_trans hw.fr.size h3.size, fun b hb hx => ?_⟩
    refine (h3.block b (Nat.lt_of_lt_of_le hb hw.fr.size) fun e1 => ?_).trans (hw.fr.block b hb hx)
    rcases (hS' b e1.symm).1 with h | h
    · omega
    · exact hx h
  · intro b o hb hx
    simp only [setRow, rowS]
    rw [if_neg fun e1 => ?_]
    · exact hw.old b o hb hx
    · rcases hmine b e1 with h | h
      · omega
      · exact hx h
  · exact hw.ext.trans (hle.weak fun _ _ => trivial)
  · rcases h2.2 with ⟨e1, e2⟩ | ⟨gb, cap, cur, e1, -⟩
    · have : xs ++ ys = [] := List.eq_nil_of_length_eq_zero (by rw [h2.1, e2]; simp)
      rw [this]
      exact RowS.nil _ _
    · refine ⟨gb, 0, fun _ => by rw [e1]; rfl, fun j _ => ?_⟩
      simp only [setRow, rowS, e1, Value.ownBlock, if_true, Nat.zero_add]
theorem t_append {s x : Operand} {t e : TypeId} {k b id : Nat} {l m : List D} (ho : o.op = .call { callee := .builtin .append, args := #[s, x], argTypes := #[t, t] }) (hT : rowT? P t = some (e, k, b)) (hs : opT σ s = .own k l id) (hx : TLe (opT σ x) (.d (.sl k m)))
    (hn : l.length + m.length ≤ 10000000) : Tri P o σ [(id, .row e k l)] (.own k (l ++ m) id) [(id, .row e k (l ++ m))] := by
  intro Γ g objs a w Q hr hp hw
  have e1 := rep_op hr (x := s) (by rw [ho]; simp [Op.operands, Call.operands])
  have e2 := hx g _ (rep_op hr (x := x) (by rw [ho]; simp [Op.operands, Call.operands]))
  rw [hs] at e1
  have hid := hp _ (List.mem_singleton.2 rfl)
  obtain ⟨xs, hlen, hown, hrep, hS⟩ := hw.obj id _ hid
  generalize hy : a.eval s = y at e1
  cases e1 with
  | own h1 h2 h3 =>
    have hyr := h3 hlen
    subst hyr
    generalize hz : a.eval x = z at e2
    cases e2 with
    | d h4 =>
      cases h4 with
      | @sl _ _ p cap ys hm hrow hc hb hnil =>
        have hmlen := hm.len
        obtain ⟨v', w', hrun, a1, a2, a3, a4, a5⟩ := run_append_all w t o.type e k b hT (g.row id) l.length xs hown g.S hw.imm p m.length cap ys hrow hmlen hm.one (fun e3 => by have := hnil e3; omega) hn
        obtain ⟨c1, c2, c3⟩ := WI.grow hw hid hrep (fun b hb => (hS b hb).2) a1 a2 a3 a4 a5 hm
        obtain ⟨p', c', rfl, hc1, hc2⟩ := own_slice a1
        unfold Oper.wp execOp
        simp only [ho, resolve, invoke, builtin, Sem.run_bind, Sem.run_pure, Result.andThen_ok, List.map_toArray, List.map_cons, List.map_nil, hy, hz, hrun]
        refine ⟨_, _, rfl, c1, ?_, c2⟩
        refine RepT.own ?_ (by simp [setRow]) (fun _ => by simp [setRow])
        have := RepD.sl ((hrep.app hm).mono c1.S) c3 (cap := c') (by simpa using hc1) hc2 (fun e3 => by
          rcases a1.2 with ⟨e4, -⟩ | ⟨gb, cap2, cur, e4, -⟩
          · simp only [Value.slice.injEq] at e4; exact e4.2.2
          · simp only [Value.slice.injEq] at e4; rw [e4.1] at e3; cases e3)
        simpa [ptrOf] using this
end
end Go.Proofs.YtenlhfmchhljdaaDoor
