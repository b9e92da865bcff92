/-
  Ga, Gb, Gs, Gx, in one.
-/
import Derived.Test.YtngklbnodknadaaGreatDoorMac
section
namespace Go.Proofs.YtngklbnodknadaaGreatDoor
open Go.RowKit

/-- A slice type's row: its element, how many cells, how many bytes. -/
def rowT? (P : Program) (t : TypeId) : Option (TypeId × Nat × Nat) := match P.underlying t with
  | some (.slice e) => match P.info? e with
    | some i => match i.zero with
      | some z => if z.cells.size = i.size ∧ 0 < i.size ∧ i.bytes ≤ 1000 then some (e, i.size, i.bytes) else none
      | none => none
    | none => none
  | _ => none
section
variable {P : Program} {Γ : Cx} {o : Oper} {σ : Nat → T}
theorem rowT_spec {t e : TypeId} {k b : Nat} (h : rowT? P t = some (e, k, b)) : P.underlying t = some (.slice e) ∧ ∃ i z, P.info? e = some i ∧ i.zero = some z ∧ i.size = k ∧ i.bytes = b ∧ z.cells.size = k ∧ 0 < k ∧ b ≤ 1000 := by
  unfold rowT? at h
  split at h
  · next e' hu =>
    split at h
    · next i hi =>
      split at h
      · next z hz =>
        split at h
        · next hc => cases h; exact ⟨hu, i, z, hi, hz, rfl, rfl, hc.1, hc.2.1, hc.2.2⟩
        · cases h
      · cases h
    · cases h
  · cases h
theorem run_append_all (w : World) (t ty e : TypeId) (k b : Nat) (hT : rowT? P t = some (e, k, b)) (v : Value) (n : Nat) (xs : List Value) (hown : w.ownsRow 0 e k v n xs)
    (S : Sm) (hS : ∀ b o x, S b o = some x → w.cell? ⟨b, o, none⟩ = some x) (p : Option Addr) (m c : Nat) (news : List Value) (hr : RowS S p news) (hl : news.length = m * k) (h1 : ∀ u ∈ news, u.oneCell' = true) (hp : p = none → m = 0 ∧ c = 0) (hn : n + m ≤ 10000000) :
    ∃ v' w', (Builtin.append_ #[t, t] ty #[v, .slice p m c]).run P w = .ok v' w' ∧ w'.ownsRow 0 e k v' (n + m) (xs ++ news) ∧ w.grownBy w' v.ownBlock ∧ (v'.ownBlock = v.ownBlock ∨ v'.ownBlock = some w.heap.size) ∧ w'.ownsRow 0 e k v n xs ∧ (m = 0 → v' = v) := by
  obtain ⟨ht, i, z, hi, hz, hsize, hby, hzs, hsz, hb⟩ := rowT_spec hT
  cases p with
  | none =>
    obtain ⟨rfl, rfl⟩ := hp rfl
    have : news = [] := List.eq_nil_of_length_eq_zero (by simpa using hl)
    subst this
    exact ⟨v, w, run_append_owned_none w 0 t ty e i k ht hi v n xs hown, by simpa using hown, World.grownBy.refl _ _, .inl rfl, hown, fun _ => rfl⟩
  | some a =>
    by_cases hm : m = 0
    · -- nothing comes
      subst hm
      have : news = [] := List.eq_nil_of_length_eq_zero (by simpa using hl)
      subst this
      obtain ⟨v', w', hrun, h2, h3, h4, h5⟩ := run_append_own (P := P) w 0 t ty e i z k b ht hi hz hsize hby hzs hsz v n xs hown a 0 c [] (by simp) (fun j u h => by simp at h) (fun u h => by simp at h) (by unfold maxLen; omega) (Nat.le_trans (Nat.mul_le_mul hn hb) (by decide)) (Nat.zero_le _)
      obtain ⟨v2, w2, hrun2, -, -, h6⟩ := run_append_keep (P := P) w 0 t ty e i z k b ht hi hz hsize hby hzs hsz v n xs hown a 0 c [] (by simp) (fun j u h => by simp at h) (fun u h => by simp at h) hn hb (Nat.zero_le _)
      rw [hrun] at hrun2
      simp only [Result.ok.injEq] at hrun2
      obtain ⟨rfl, rfl⟩ := hrun2
      have hv : v' = v := by
        rcases hown.2 with ⟨e1, -⟩ | ⟨gb, cap, cur, e1, hbg, hg, hnc, hcm, hcs, htake⟩
        · rw [h5 ⟨e1, rfl⟩, e1]
        · subst hsize
          have hroom := run_append_room (P := P) w t ty e i ht hi gb n cap cur hg a 0 c [] (by simp) (fun j u h => by simp at h) (fun u h => by simp at h) (by omega) (by simp [hcs]; exact Nat.mul_le_mul_right _ hnc)
          subst e1
          rw [hrun] at hroom
          simp only [Result.ok.injEq] at hroom
          rw [hroom.1]; simp
      subst hv
      exact ⟨v', w', hrun, h2, h3, .inl rfl, h6, fun _ => rfl⟩
    · obtain ⟨b', off, hpp, hcell⟩ := hr
      have hpos : 0 < news.length := by rw [hl]; exact Nat.mul_pos (by omega) hsz
      have := hpp hpos
      obtain rfl : a = ⟨b', off, none⟩ := by simpa using this
      have hnews : ∀ j u, news[j]? = some u → w.cell? (Addr.add ⟨b', off, none⟩ j) = some u := fun j u hj => by
        have hlt := (List.getElem?_eq_some_iff.1 hj).1
        rw [add_lit']
        exact hS _ _ _ ((hcell j hlt).trans hj)
      obtain ⟨v', w', hrun, h2, h3, h4⟩ := run_append_sep (P := P) w 0 t ty e i z k b ht hi hz hsize hby hzs hsz v n xs hown ⟨b', off, none⟩ m c news hl hnews h1 hn hb (Nat.zero_le _)
      obtain ⟨v2, w2, hrun2, -, -, h6⟩ := run_append_keep (P := P) w 0 t ty e i z k b ht hi hz hsize hby hzs hsz v n xs hown ⟨b', off, none⟩ m c news hl hnews h1 hn hb (Nat.zero_le _)
      rw [hrun] at hrun2
      simp only [Result.ok.injEq] at hrun2
      obtain ⟨rfl, rfl⟩ := hrun2
      exact ⟨v', w', hrun, h2, h3, h4, h6, fun e => absurd e hm⟩
def ptrOf : Value → Option Addr
  | .slice p _ _ => p
  | _ => none
/-- The ghost behind an append: the row's block reads on. -/
def rowS (S : Sm) (v : Value) (xs : List Value) : Sm := fun b o => if v.ownBlock = some b then xs[o]? else S b o
def setRow (g : Gh) (id : Nat) (v : Value) (n : Nat) (xs : List Value) : Gh :=
  ⟨rowS g.S v xs, g.blk, fun i => if i = id then v else g.row i, fun i => if i = id then n + 1 else g.len i⟩
theorem own_get {w : World} {e : TypeId} {k n : Nat} {v : Value} {xs : List Value} (h : w.ownsRow 0 e k v n xs) {b : Nat} (hb : v.ownBlock = some b) {j : Nat} {x : Value} (hx : xs[j]? = some x) : w.cell? ⟨b, j, none⟩ = some x := by
  rcases h.2 with ⟨e1, -⟩ | ⟨gb, cap, cur, e1, h2, h3, h4, h5, h6, h7⟩
  · rw [e1] at hb; cases hb
  · subst e1
    simp only [Value.ownBlock, Option.some.injEq] at hb
    subst hb
    have hj := (List.getElem?_eq_some_iff.1 hx).1
    rw [h.cellAt j (by rw [← h.1]; exact hj), hx]
theorem WI.grow {g : Gh} {objs : Objs} {w w' : World} {id e k : Nat} {l m : List D} {v' : Value} {xs ys : List Value} (hw : WI Γ g objs w) (ho : objs id = some (.row e k l)) (hl : RepLv g.S k l xs) (hs : ∀ b, (g.row id).ownBlock = some b → ∀ o, g.S b o = xs[o]?)
    (h2 : w'.ownsRow 0 e k v' (l.length + m.length) (xs ++ ys)) (h3 : w.grownBy w' (g.row id).ownBlock) (h4 : v'.ownBlock = (g.row id).ownBlock ∨ v'.ownBlock = some w.heap.size) (h6 : w'.ownsRow 0 e k (g.row id) l.length xs)
    (h7 : m.length = 0 → v' = g.row id) (hm : RepLv g.S k m ys) :
    GLe (fun _ => True) g (setRow g id v' (l.length + m.length) (xs ++ ys)) ∧ WI Γ (setRow g id v' (l.length + m.length) (xs ++ ys)) (ovr objs [(id, .row e k (l ++ m))]) w' ∧ RowS (setRow g id v' (l.length + m.length) (xs ++ ys)).S (ptrOf v') (xs ++ ys) := by
  have hob := hw.obj id _ ho
  obtain ⟨xs', hlen, hown, hrep', hS'⟩ := hob
  have hcs : ∀ b o x, g.S b o = some x → b < w.heap.size := fun b o x h => World.block_lt_of_cell? w ⟨b, o, none⟩ (hw.imm b o x h)
  have hSle : SLe g.S (rowS g.S v' (xs ++ ys)) := by
    intro b o x h
    unfold rowS
    split
    · next e1 =>
      rcases h4 with h4 | h4
      · rw [h4] at e1
        rw [hs b e1 o] at h
        rw [List.getElem?_append_left (List.getElem?_eq_some_iff.1 h).1]
        exact h
      · rw [h4] at e1
        cases e1
        exact absurd (hcs _ _ _ h) (Nat.lt_irrefl _)
    · exact h
  have hne : ∀ b, b < w.heap.size → (g.row id).ownBlock ≠ some b → v'.ownBlock ≠ some b := fun b hb h e1 => by
    rcases h4 with h4 | h4
    · exact h (h4 ▸ e1)
    · rw [h4] at e1; cases e1; exact Nat.lt_irrefl _ hb
  have hle : GLe (fun _ => True) g (setRow g id v' (l.length + m.length) (xs ++ ys)) := by
    refine ⟨hSle, fun _ _ _ => rfl, fun i _ => ?_, fun i _ e1 => ?_⟩
    · simp only [setRow]
      split
      · next e1 => rw [e1, hlen]; omega
      · exact Nat.le_refl _
    · simp only [setRow] at e1 ⊢
      split
      · next e2 =>
        rw [if_pos e2, e2, hlen] at e1
        rw [h7 (by omega), e2]
      · rfl
  have hmine : ∀ b, v'.ownBlock = some b → Mine Γ b := fun b hb => by
    rcases h4 with h4 | h4
    · exact (hS' b (h4 ▸ hb)).1
    · rw [h4] at hb; cases hb; exact .inl hw.fr.size
  refine ⟨hle, ⟨?_, ?_, ?_, ?_, ?_, ?_⟩, ?_⟩
  · intro b o x h
    simp only [setRow, rowS] at h
    split at h
    · next e1 => exact own_get h2 e1 h
    · next e1 =>
      have hlt := hcs b o x h
      by_cases hb : (g.row id).ownBlock = some b
      · rw [hs b hb o] at h
        exact own_get h6 hb h
      · have := h3.block b hlt (fun e2 => hb e2.symm)
        rw [World.cell?_of_block (w := w) this]
        exact hw.imm b o x h
  · intro i ob hi
    by_cases hid : i = id
    · subst hid
      have : ob = .row e k (l ++ m) := by
        simp [ovr] at hi
        exact hi.symm
      subst this
      refine ⟨xs ++ ys, by simp [setRow], by simpa [setRow] using h2, (hl.app hm).mono hSle, fun b hb => ?_⟩
      simp only [setRow, if_true] at hb
      exact ⟨hmine b hb, fun o => by simp only [setRow, rowS]; rw [if_pos hb]⟩
    · have hi' : objs i = some ob := by
        have : (i == id) = false := by simpa using hid
        simpa [ovr, List.lookup, this] using hi
      have hoi := hw.obj i ob hi'
      refine hoi.same hle rfl (by simp [setRow, hid]) (by simp [setRow, hid]) (fun _ _ => trivial) fun b hb => ?_
      have hlt := hoi.blk_lt hb
      have hne2 : (g.row id).ownBlock ≠ some b := fun e1 => hid (hw.apart i id _ _ b hi' ho hb e1)
      refine ⟨h3.block _ hlt fun e1 => hne2 e1.symm, fun o => ?_⟩
      simp only [setRow, rowS]
      rw [if_neg (hne _ hlt hne2)]
  · have back : ∀ (i : Nat) (oi : GObj) (b : Nat), ovr objs [(id, .row e k (l ++ m))] i = some oi → oi.blk (setRow g id v' (l.length + m.length) (xs ++ ys)) i b → (i = id ∧ v'.ownBlock = some b) ∨ (i ≠ id ∧ objs i = some oi ∧ oi.blk g i b) := by
      intro i oi b h1 hb
      by_cases hid : i = id
      · subst hid
        have : oi = .row e k (l ++ m) := by simp [ovr] at h1; exact h1.symm
        subst this
        exact .inl ⟨rfl, by simpa [GObj.blk, setRow] using hb⟩
      · have hi' : objs i = some oi := by
          have : (i == id) = false := by simpa using hid
          simpa [ovr, List.lookup, this] using h1
        refine .inr ⟨hid, hi', ?_⟩
        rw [← blk_same (g := g) (g' := setRow g id v' (l.length + m.length) (xs ++ ys)) (i := i) rfl (by simp [setRow, hid]) oi]; exact hb
    have blt : ∀ (i : Nat) (oi : GObj) (b : Nat), objs i = some oi → oi.blk g i b → b < w.heap.size := fun i oi b h1 hb => hw.blk_lt h1 hb
    intro i j oi oj b h1 h2' h3' h4'
    rcases back i oi b h1 h3' with ⟨e1, b1⟩ | ⟨n1, o1, b1⟩ <;> rcases back j oj b h2' h4' with ⟨e2, b2⟩ | ⟨n2, o2, b2⟩
    · rw [e1, e2]
    · exfalso
      rcases h4 with h4 | h4
      · exact n2 (hw.apart j id _ _ b o2 ho b2 (h4.symm.trans b1))
      · rw [h4] at b1; cases b1; exact Nat.lt_irrefl _ (blt j oj _ o2 b2)
    · exfalso
      rcases h4 with h4 | h4
      · exact n1 (hw.apart i id _ _ b o1 ho b1 (h4.symm.trans b2))
      · rw [h4] at b2; cases b2; exact Nat.lt_irrefl _ (blt i oi _ o1 b1)
    · exact hw.apart i j oi oj b o1 o2 b1 b2
  · refine ⟨h3.os.trans hw.fr.os, h3.tape.trans hw.fr.tape, h3.output.trans hw.fr.output, Nat.le_trans hw.fr.size h3.size, fun b hb hx => ?_⟩
    refine (h3.block b (Nat.lt_of_lt_of_le hb hw.fr.size) fun e1 => ?_).trans (hw.fr.block b hb hx)
    rcases (hS' b e1.symm).1 with h | h
    · omega
    · exact hx h
  · intro b o hb hx hnt
    simp only [setRow, rowS]
    rw [if_neg fun e1 => ?_]
    · exact hw.old b o hb hx hnt
    · rcases hmine b e1 with h | h
      · omega
      · exact hx h
  · exact hw.ext.trans (hle.weak fun _ _ => trivial)
  · rcases h2.2 with ⟨e1, e2⟩ | ⟨gb, cap, cur, e1, -⟩
    · have : xs ++ ys = [] := List.eq_nil_of_length_eq_zero (by rw [h2.1, e2]; simp)
      rw [this]
      exact RowS.nil _ _
    · refine ⟨gb, 0, fun _ => by rw [e1]; rfl, fun j _ => ?_⟩
      simp only [setRow, rowS, e1, Value.ownBlock, if_true, Nat.zero_add]
theorem t_append {s x : Operand} {t e : TypeId} {k b id : Nat} {l m : List D} (ho : o.op = .call { callee := .builtin .append, args := #[s, x], argTypes := #[t, t] }) (hT : rowT? P t = some (e, k, b)) (hs : opT σ s = .own k l id) (hx : TLe (opT σ x) (.d (.sl k m)))
    (hn : l.length + m.length ≤ 10000000) : Tri P o σ [(id, .row e k l)] (.own k (l ++ m) id) [(id, .row e k (l ++ m))] := by
  intro Γ g objs a w Q hr hp hw
  have e1 := rep_op hr (x := s) (by rw [ho]; simp [Op.operands, Call.operands])
  have e2 := hx g _ (rep_op hr (x := x) (by rw [ho]; simp [Op.operands, Call.operands]))
  rw [hs] at e1
  have hid := hp _ (List.mem_singleton.2 rfl)
  obtain ⟨xs, hlen, hown, hrep, hS⟩ := hw.obj id _ hid
  generalize hy : a.eval s = y at e1
  cases e1 with
  | own h1 h2 h3 =>
    have hyr := h3 hlen
    subst hyr
    generalize hz : a.eval x = z at e2
    cases e2 with
    | d h4 =>
      cases h4 with
      | @sl _ _ p cap ys hm hrow hc hb hnil =>
        have hmlen := hm.len
        obtain ⟨v', w', hrun, a1, a2, a3, a4, a5⟩ := run_append_all w t o.type e k b hT (g.row id) l.length xs hown g.S hw.imm p m.length cap ys hrow hmlen hm.one (fun e3 => by have := hnil e3; omega) hn
        obtain ⟨c1, c2, c3⟩ := WI.grow hw hid hrep (fun b hb => (hS b hb).2) a1 a2 a3 a4 a5 hm
        obtain ⟨p', c', rfl, hc1, hc2⟩ := own_slice a1
        unfold Oper.wp execOp
        simp only [ho, resolve, invoke, builtin, Sem.run_bind, Sem.run_pure, Result.andThen_ok, List.map_toArray, List.map_cons, List.map_nil, hy, hz, hrun]
        refine ⟨_, _, rfl, c1, ?_, c2⟩
        refine RepT.own ?_ (by simp [setRow]) (fun _ => by simp [setRow])
        have := RepD.sl ((hrep.app hm).mono c1.S) c3 (cap := c') (by simpa using hc1) hc2 (fun e3 => by
          rcases a1.2 with ⟨e4, -⟩ | ⟨gb, cap2, cur, e4, -⟩
          · simp only [Value.slice.injEq] at e4; exact e4.2.2
          · simp only [Value.slice.injEq] at e4; rw [e4.1] at e3; cases e3)
        simpa [ptrOf] using this
end
end Go.Proofs.YtngklbnodknadaaGreatDoor
end

section
namespace Go.Proofs.YtngklbnodknadaaGreatDoor
open Go.RowKit

section
variable {P : Program} {Γ : Cx} {o : Oper} {σ : Nat → T} {n : Nat} {objs : Objs} {Q : GPost}
/-! ### Closures -/
def opTs (σ : Nat → T) (xs : List Operand) : List T := xs.map (opT σ)
theorem reps_ops {g : Gh} {a : Act} : ∀ {xs : List Operand}, (∀ x ∈ xs, RepT g (opT σ x) (a.eval x)) → Reps g (opTs σ xs) (xs.map a.eval)
  | [], _ => .nil
  | x :: xs, h => .cons (h x (by simp)) (reps_ops fun y hy => h y (by simp [hy]))
theorem t_func {f : FuncId} {xs : List Operand} (ho : o.op = .makeFunc (.func f) #[] xs.toArray) : Tri P o σ [] (.fn f (opTs σ xs)) [] :=
  .val fun _ g _ a w hr _ _ => ⟨.func (.func f) #[] (xs.map a.eval).toArray, by unfold execOp; rw [ho]; simp [Instr.makeFunc], .fn (reps_ops fun x hx => hr x (by rw [ho]; simp [Op.operands, hx]))⟩
theorem t_bfunc {f : FuncId} {xs : List Operand} (ho : o.op = .makeFunc (.func f) xs.toArray #[]) : Tri P o σ [] (.bf f (opTs σ xs)) [] :=
  .val fun _ g _ a w hr _ _ => ⟨.func (.func f) (xs.map a.eval).toArray #[], by unfold execOp; rw [ho]; simp [Instr.makeFunc], .bf (reps_ops fun x hx => hr x (by rw [ho]; simp [Op.operands, hx]))⟩

/-! ### New immutable cells -/
def newS (S : Sm) (b : Nat) (xs : List Value) : Sm := fun c o => if c = b then xs[o]? else S c o
theorem new_le {S : Sm} {w : World} {xs : List Value} (hi : ∀ b o x, S b o = some x → w.cell? ⟨b, o, none⟩ = some x) : SLe S (newS S w.heap.size xs) := fun b o x h => by
  unfold newS
  split
  · next e => subst e; exact absurd (World.block_lt_of_cell? w ⟨_, o, none⟩ (hi _ _ _ h)) (Nat.lt_irrefl _)
  · exact h
theorem WI.lay {g : Gh} {w : World} {xs : List Value} {e : TypeId} (hw : WI Γ g objs w) : WI Γ ⟨newS g.S w.heap.size xs, g.blk, g.row, g.len⟩ objs (w.alloc (.cells xs.toArray e)) := by
  have hb := (Below.refl w.heap.size w).alloc (Nat.le_refl _) (.cells xs.toArray e)
  refine hw.call (new_le hw.imm) (fun b o hlt _ => ?_) (fun b o x h => ?_) hb
  · unfold newS; rw [if_neg (Nat.ne_of_lt hlt)]
  · unfold newS at h
    split at h
    · next e1 => subst e1; rw [new_cell]; simpa using h
    · have h1 := hw.imm b o x h
      rw [hb.cell (p := ⟨b, o, none⟩) (World.block_lt_of_cell? w ⟨b, o, none⟩ h1)]; exact h1

/-! ### Structs -/
/-- Where the parts of one go, over its zero cells. -/
def fillD : List (Nat × Nat × D) → List D → Option (List D)
  | [], cells => some cells
  | (off, size, d) :: rest, cells => if d.lv.length = size ∧ off + size ≤ cells.length then fillD rest (cells.take off ++ d.lv ++ cells.drop (off + size)) else none
def zeroOf? (P : Program) (t : TypeId) : Option (List Value) := match P.info? t with
  | some i => match i.zero with
    | some z => if z.cells.all (·.oneCell') then some z.cells.toList else none
    | none => none
  | none => none
theorem zipIdx_set (off : Nat) : ∀ (ys : List Value) (xs : List Value) (j : Nat), off + j + ys.length ≤ xs.length →
    (ys.zipIdx j).foldl (fun cs (c, j) => cs.set (off + j) c) xs = xs.take (off + j) ++ ys ++ xs.drop (off + j + ys.length)
  | [], xs, j, _ => by simp
  | y :: ys, xs, j, h => by
    rw [List.length_cons] at h
    rw [List.zipIdx_cons, List.foldl_cons]
    have := zipIdx_set off ys (xs.set (off + j) y) (j + 1) (by simp; omega)
    rw [this, List.length_cons, show off + (j + 1) = off + j + 1 from by omega, show off + j + 1 + ys.length = off + j + (ys.length + 1) from by omega]
    rw [List.drop_set_of_lt (by omega), List.take_set, List.take_succ_eq_append_getElem (by omega), List.set_append_right _ _ (by simp; omega)]
    simp [Nat.min_eq_left (show off + j ≤ xs.length by omega)]
theorem rep_cells {S : Sm} {d : D} {v : Value} (h : RepD S d v) : RepDs S d.lv v.cells.toList := by
  cases h with
  | v h =>
    have : v.cells.toList = [v] := by cases v <;> first | rfl | cases h
    rw [this]
    exact .cons (.v h) h .nil
  | agg h => simpa [Value.cells, D.lv] using h
  | sl h hr hc hb hn => exact .cons (.sl h hr hc hb hn) rfl .nil
inductive Parts (σ : Nat → T) (place : Nat → Option (Nat × Nat)) : List (Nat × Operand) → List (Nat × Nat × D) → Prop
  | nil : Parts σ place [] []
  | cons {i off size : Nat} {x : Operand} {d : D} {ps : List (Nat × Operand)} {qs : List (Nat × Nat × D)} (h : TLe (opT σ x) (.d d)) (hf : place i = some (off, size)) (ht : Parts σ place ps qs) : Parts σ place ((i, x) :: ps) ((off, size, d) :: qs)
theorem foldl_zip (off : Nat) (v : Array Value) (cs : List Value) (h : off + v.size ≤ cs.length) : (v.zipIdx.foldl (fun cs (c, j) => cs.setIfInBounds (off + j) c) cs.toArray) = (cs.take off ++ v.toList ++ cs.drop (off + v.size)).toArray := by
  have key : ∀ (l : List (Value × Nat)) (xs : List Value), l.foldl (fun (cs : Array Value) (p : Value × Nat) => cs.setIfInBounds (off + p.2) p.1) xs.toArray = (l.foldl (fun (cs : List Value) (p : Value × Nat) => cs.set (off + p.2) p.1) xs).toArray := by
    intro l
    induction l with
    | nil => intro xs; rfl
    | cons p l ih => intro xs; rw [List.foldl_cons, List.foldl_cons, List.setIfInBounds_toArray, ih]
  have h1 := zipIdx_set off v.toList cs 0 (by simpa using h)
  rw [Nat.add_zero, Array.length_toList] at h1
  rw [← h1, ← key, ← Array.foldl_toList, Array.toList_zipIdx]
theorem fill_run {g : Gh} {a : Act} {place : Nat → Option (Nat × Nat)} : ∀ {ps : List (Nat × Operand)} {qs : List (Nat × Nat × D)} {zs ds : List D} {cs : List Value}, Parts σ place ps qs → (∀ p ∈ ps, RepT g (opT σ p.2) (a.eval p.2)) → RepDs g.S zs cs → fillD qs zs = some ds →
    ∃ cs', Instr.fill place cs.toArray (ps.map fun p => (p.1, a.eval p.2)) = some cs'.toArray ∧ RepDs g.S ds cs'
  | [], _, _, _, cs, .nil, _, h, hf => by cases hf; exact ⟨cs, rfl, h⟩
  | (i, x) :: ps, _, zs, ds, cs, .cons (off := off) (size := size) (d := d) hx hp ht, hr, h, hf => by
    rw [fillD] at hf
    split at hf
    · next hc =>
      have h1 := hx g _ (hr (i, x) (by simp))
      cases h1 with
      | d h1 =>
        have h2 := rep_cells h1
        have hl2 := h2.len
        have hl := h.len
        have hsz : (a.eval x).cells.size = size := by rw [← Array.length_toList, hl2]; exact hc.1
        have h3 : RepDs g.S (zs.take off ++ d.lv ++ zs.drop (off + size)) (cs.take off ++ (a.eval x).cells.toList ++ cs.drop (off + size)) := ((h.take off).app h2).app (h.drop (off + size))
        obtain ⟨cs', e1, e2⟩ := fill_run (g := g) (a := a) ht (fun p hp => hr p (by simp [hp])) h3 hf
        refine ⟨cs', ?_, e2⟩
        rw [List.map_cons, Instr.fill, hp]
        simp only
        have hcond : ¬ ((decide ((a.eval x).cells.size ≠ size) || decide (off + (a.eval x).cells.size > cs.toArray.size)) = true) := by simp [hsz, hl]; omega
        rw [if_neg hcond, foldl_zip off _ cs (by rw [hsz, hl]; exact hc.2), hsz]
        exact e1
    · cases hf
/-- Where a struct's fields lie. -/
def PlacesOK (P : Program) (t : TypeId) (fl : List (Nat × Nat)) : Prop := ∃ fs : Array Field, P.underlying t = some (.struct fs) ∧ ∀ w, (fs.mapM (fun f => do pure (f.offset, ← sizeOf f.type) : Field → Sem (Nat × Nat))).run P w = .ok fl.toArray w
theorem t_build {t : TypeId} {ps : List (Nat × Operand)} {qs : List (Nat × Nat × D)} {zs : List Value} {fl : List (Nat × Nat)} {ds : List D} (ho : o.op = .build t ps.toArray) (hz : zeroOf? P t = some zs) (hf : PlacesOK P t fl) (hP : Parts σ (fl[·]?) ps qs) (hd : fillD qs (zs.map .v) = some ds) :
    Tri P o σ [] (.d (.agg ds)) [] :=
  .val fun _ g _ a w hr _ _ => by
    obtain ⟨fs, hu, hpl⟩ := hf
    unfold zeroOf? at hz
    split at hz
    · next i hi =>
      split at hz
      · next z hzz =>
        split at hz
        · next hall =>
          cases hz
          obtain ⟨cs', e1, e2⟩ := fill_run (g := g) (a := a) (cs := z.cells.toList) hP (fun p hp => hr p.2 (by rw [ho]; simp [Op.operands]; exact ⟨p.1, hp⟩)) (reps_one fun x hx => Array.all_eq_true_iff_forall_mem.1 hall x (Array.mem_toList_iff.1 hx)) hd
          refine ⟨.agg cs'.toArray, ?_, .d (.agg e2)⟩
          have hplace : (fun (i : Nat) => fl.toArray[i]?) = (fl[·]?) := by funext i; simp
          have hb : (Instr.build t (ps.map fun p => (p.1, a.eval p.2)).toArray).run P w = .ok (.agg cs'.toArray) w := by
            unfold Instr.build
            simp only [zeroValue, typeInfo, program, Sem.run_bind, Sem.run, hi, Result.andThen_ok, Sem.run_pure, hzz, run_underlying hu, hpl, hplace]
            rw [Array.toArray_toList] at e1
            rw [e1]
            simp only [Sem.run_pure]
          unfold execOp; rw [ho]
          have hmap : ps.toArray.map (fun x => match x with | (i, x) => (i, a.eval x)) = (ps.map fun p => (p.1, a.eval p.2)).toArray := by simp
          simp only [hmap, Sem.run_bind, hb, Result.andThen_ok, Sem.run_pure]
        · cases hz
      · cases hz
    · cases hz
end
end Go.Proofs.YtngklbnodknadaaGreatDoor
end

section
namespace Go.Proofs.YtngklbnodknadaaGreatDoor
open Go.RowKit

section
variable {P : Program} {Γ : Cx} {o : Oper} {σ : Nat → T} {n : Nat} {objs : Objs} {Q : GPost}
theorem lv_of_flat {S : Sm} {k : Nat} : ∀ {l : List D} {xs : List Value}, (∀ d ∈ l, d.lv.length = k) → RepDs S (l.flatMap D.lv) xs → RepLv S k l xs
  | [], xs, _, h => by cases h; exact .nil
  | d :: l, xs, hk, h => by
    rw [List.flatMap_cons] at h
    have hl := h.len
    have h1 := h.take d.lv.length
    have h2 := h.drop d.lv.length
    rw [List.take_append_of_le_length (Nat.le_refl _), List.take_length] at h1
    rw [List.drop_append_of_le_length (Nat.le_refl _), List.drop_length, List.nil_append] at h2
    have := RepLv.cons h1 (by rw [h1.len]; exact hk d (by simp)) (lv_of_flat (fun d hd => hk d (by simp [hd])) h2)
    rwa [List.take_append_drop] at this
theorem row_new (S : Sm) (b : Nat) (xs : List Value) : RowS (newS S b xs) (some ⟨b, 0, none⟩) xs := ⟨b, 0, fun _ => rfl, fun i _ => by simp [newS]⟩
theorem build_slice_run {t e : TypeId} {k len : Nat} {ps : List (Nat × Operand)} {qs : List (Nat × Nat × D)} {zs : List Value} {l : List D} {g : Gh} {a : Act} (w : World) (ht : elemOf? P t = some (e, k)) (hz : zeroOf? P e = some zs)
    (hP : Parts σ (fun i => some (i * k, k)) ps qs) (hd : fillD qs ((List.range (len * k)).map fun j => .v (zs.getD (j % zs.length) default)) = some (l.flatMap D.lv)) (hb : len * k ≤ 1000) (hzl : 0 < zs.length) (hr : ∀ p ∈ ps, RepT g (opT σ p.2) (a.eval p.2)) :
    ∃ cs, (Instr.buildSlice t len (ps.map fun p => (p.1, a.eval p.2)).toArray).run P w = .ok (.slice (some ⟨w.heap.size, 0, none⟩) len len) (w.alloc (.cells cs.toArray e)) ∧ RepDs g.S (l.flatMap D.lv) cs := by
  obtain ⟨hu, i, hi, hsz⟩ := elem_spec ht
  unfold zeroOf? at hz
  rw [hi] at hz
  simp only at hz
  split at hz
  · next z hzz =>
    split at hz
    · next hall =>
      cases hz
      have h1 : ∀ x ∈ z.cells.toList, x.oneCell' = true := fun x hx => Array.all_eq_true_iff_forall_mem.1 hall x (Array.mem_toList_iff.1 hx)
      have hzr : RepDs g.S ((List.range (len * k)).map fun j => D.v (z.cells.toList.getD (j % z.cells.toList.length) default)) ((List.range (len * k)).map fun j => z.cells.toList.getD (j % z.cells.toList.length) default) := by
        have := reps_one (S := g.S) (l := (List.range (len * k)).map fun j => z.cells.toList.getD (j % z.cells.toList.length) default) (fun x hx => by
          obtain ⟨j, -, rfl⟩ := List.mem_map.1 hx
          have hlt := Nat.mod_lt j hzl
          rw [List.getD_eq_getElem?_getD, List.getElem?_eq_getElem hlt]
          exact h1 _ (List.getElem_mem _))
        rwa [List.map_map] at this
      obtain ⟨cs, e1, e2⟩ := fill_run (g := g) (a := a) hP hr hzr hd
      refine ⟨cs, ?_, e2⟩
      have hbig : ¬ (len * k > 2 ^ 24) := by have : (1000 : Nat) ≤ 2 ^ 24 := by decide
                                             omega
      have hzero : ((Array.range (len * k)).map (z.cells[· % z.cells.size]!)) = ((List.range (len * k)).map fun j => z.cells.toList.getD (j % z.cells.toList.length) default).toArray := by
        apply Array.ext'
        simp only [Array.toList_map, Array.toList_range]
        refine List.map_congr_left fun j _ => ?_
        have hlt : j % z.cells.size < z.cells.size := Nat.mod_lt _ (by simpa using hzl)
        rw [getElem!_pos z.cells _ hlt, Array.length_toList, List.getD_eq_getElem?_getD, Array.getElem?_toList, Array.getElem?_eq_getElem hlt]
        rfl
      unfold Instr.buildSlice
      simp only [run_underlying hu, Sem.run_bind, Result.andThen_ok, sizeOf, typeInfo, program, Sem.run, hi, Sem.run_pure, hsz, if_neg hbig]
      by_cases h0 : len * k = 0
      · have hcs : (Array.range (len * k)).map ((#[] : Array Value)[· % (#[] : Array Value).size]!) = ((List.range (len * k)).map fun j => z.cells.toList.getD (j % z.cells.toList.length) default).toArray := by rw [h0]; apply Array.ext'; simp
        simp only [if_pos h0, Sem.run_bind, Sem.run_pure, Result.andThen_ok, hcs, e1]
        rfl
      · simp only [if_neg h0, zeroValue, typeInfo, program, Sem.run_bind, Sem.run, hi, Result.andThen_ok, Sem.run_pure, hzz, hzero, e1]
        rfl
    · cases hz
  · cases hz
/-- A slice of given elements, that never turns. -/
theorem t_slit {t e : TypeId} {k len : Nat} {ps : List (Nat × Operand)} {qs : List (Nat × Nat × D)} {zs : List Value} (l : List D) (ho : o.op = .buildSlice t len ps.toArray) (ht : elemOf? P t = some (e, k)) (hz : zeroOf? P e = some zs)
    (hP : Parts σ (fun i => some (i * k, k)) ps qs) (hd : fillD qs ((List.range (len * k)).map fun j => .v (zs.getD (j % zs.length) default)) = some (l.flatMap D.lv)) (hb : len * k ≤ 1000) (hzl : 0 < zs.length) (hl : l.length = len) (hk : ∀ d ∈ l, d.lv.length = k) (hk0 : 0 < k) : Tri P o σ [] (.d (.sl k l)) [] := by
  intro Γ g objs a w Q hr _ hw
  obtain ⟨cs, e1, e2⟩ := build_slice_run (g := g) (a := a) w ht hz hP hd hb hzl (fun p hp => rep_op hr (by rw [ho]; simp [Op.operands]; exact ⟨p.1, hp⟩))
  have hmap : ps.toArray.map (fun x => match x with | (i, x) => (i, a.eval x)) = (ps.map fun p => (p.1, a.eval p.2)).toArray := by simp
  unfold Oper.wp execOp
  simp only [ho, hmap, Sem.run_bind, e1, Result.andThen_ok, Sem.run_pure]
  have hle : GLe (fun _ => True) g ⟨newS g.S w.heap.size cs, g.blk, g.row, g.len⟩ := ⟨new_le hw.imm, fun _ _ _ => rfl, fun _ _ => Nat.le_refl _, fun _ _ _ => rfl⟩
  refine ⟨⟨newS g.S w.heap.size cs, g.blk, g.row, g.len⟩, _, rfl, hle, ?_, hw.lay⟩
  have hn : l.length * k ≤ 1000 := by rw [hl]; exact hb
  have := RepD.sl (cap := len) ((lv_of_flat hk e2).mono hle.S) (row_new g.S w.heap.size cs) (by omega) (by
    have := Nat.le_mul_of_pos_right l.length hk0
    omega) (fun h => by cases h)
  rw [hl] at this
  exact .d this
/-- All elements, one behind the other. -/
inductive Full (σ : Nat → T) : Nat → List (Nat × Operand) → List D → Prop
  | nil {i : Nat} : Full σ i [] []
  | cons {i : Nat} {x : Operand} {d : D} {ps : List (Nat × Operand)} {ds : List D} (h : TLe (opT σ x) (.d d)) (ht : Full σ (i + 1) ps ds) : Full σ i ((i, x) :: ps) (d :: ds)
theorem Full.fill {k : Nat} : ∀ {i : Nat} {ps : List (Nat × Operand)} {ds : List D}, Full σ i ps ds → (∀ d ∈ ds, d.lv.length = k) → ∀ (pre rest : List D), pre.length = i * k → rest.length = ds.length * k →
    ∃ qs, Parts σ (fun i => some (i * k, k)) ps qs ∧ fillD qs (pre ++ rest) = some (pre ++ ds.flatMap D.lv)
  | _, _, _, .nil, _, pre, rest, _, hr => by
    have : rest = [] := List.eq_nil_of_length_eq_zero (by simpa using hr)
    subst this
    exact ⟨[], .nil, rfl⟩
  | i, _, _, .cons (d := d) (ds := ds) h ht, hk, pre, rest, hp, hr => by
    have hd := hk d (by simp)
    rw [List.length_cons, Nat.succ_mul] at hr
    obtain ⟨qs, h1, h2⟩ := ht.fill (fun d hd => hk d (by simp [hd])) (pre ++ d.lv) (rest.drop k) (by rw [List.length_append, hp, hd, Nat.succ_mul]) (by rw [List.length_drop, hr]; omega)
    refine ⟨(i * k, k, d) :: qs, .cons h rfl h1, ?_⟩
    rw [fillD, if_pos ⟨hd, by rw [List.length_append, hp, hr]; omega⟩, List.flatMap_cons, ← List.append_assoc, ← h2]
    congr 1
    rw [List.take_append_of_le_length (by omega), List.take_of_length_le (by omega), List.drop_append, List.drop_of_length_le (by omega), List.nil_append, hp, Nat.add_sub_cancel_left]
theorem t_sfull {t e : TypeId} {k len : Nat} {ps : List (Nat × Operand)} {zs : List Value} {l : List D} (ho : o.op = .buildSlice t len ps.toArray) (ht : elemOf? P t = some (e, k)) (hz : zeroOf? P e = some zs) (hP : Full σ 0 ps l) (hb : len * k ≤ 1000) (hzl : 0 < zs.length) (hl : l.length = len) (hk : ∀ d ∈ l, d.lv.length = k) (hk0 : 0 < k) : Tri P o σ [] (.d (.sl k l)) [] := by
  obtain ⟨qs, h1, h2⟩ := hP.fill hk [] ((List.range (len * k)).map fun j => .v (zs.getD (j % zs.length) default)) (by simp) (by simp [hl])
  exact t_slit l ho ht hz h1 h2 hb hzl hl hk hk0
end
end Go.Proofs.YtngklbnodknadaaGreatDoor
end

section
namespace Go.Proofs.YtngklbnodknadaaGreatDoor
open Go.RowKit

section
variable {P : Program} {Γ : Cx} {o : Oper} {σ : Nat → T} {n : Nat} {objs : Objs} {Q : GPost}
/-- What was vacant becomes an object. -/
theorem WI.turn {g g' : Gh} {w : World} {c : Nat} {ob : GObj} (hw : WI Γ g objs w) (hc : objs c = some .vac) (h1 : 1 ≤ g'.len c) (hS : g'.S = g.S) (hb : ∀ i, i ≠ c → g'.blk i = g.blk i) (hr : ∀ i, i ≠ c → g'.row i = g.row i) (hl : ∀ i, i ≠ c → g'.len i = g.len i)
    (hob : ObjAt Γ g' w c ob) (hap : ∀ j oj b, j ≠ c → objs j = some oj → oj.blk g j b → ¬ ob.blk g' c b) : GLe (fun _ => True) g g' ∧ WI Γ g' (ovr objs [(c, ob)]) w := by
  have h0 : g.len c = 0 := hw.obj c _ hc
  have hle : GLe (fun _ => True) g g' := by
    refine ⟨by rw [hS]; exact SLe.refl _, fun i _ h2 => ?_, fun i _ => ?_, fun i _ h2 => ?_⟩ <;> by_cases e : i = c
    · subst e; omega
    · exact hb i e
    · subst e; omega
    · rw [hl i e]; exact Nat.le_refl _
    · subst e; omega
    · exact hr i e
  have hget : ∀ i, i ≠ c → ovr objs [(c, ob)] i = objs i := fun i hi => by
    have : (i == c) = false := by simpa using hi
    simp [ovr, List.lookup, this]
  have hself : ovr objs [(c, ob)] c = some ob := by simp [ovr]
  have hblk : ∀ (i : Nat) (oi : GObj), i ≠ c → oi.blk g' i = oi.blk g i := fun i oi hi => blk_same (hb i hi) (hr i hi) oi
  refine ⟨hle, fun b o x h => hw.imm b o x (by rw [← hS]; exact h), fun i oi hi => ?_, fun i j oi oj b h1 h2 h3 h4 => ?_, hw.fr, fun b o h1 h2 => by rw [hS]; exact hw.old b o h1 h2, hw.ext.trans (hle.weak fun _ _ => trivial)⟩
  · by_cases hic : i = c
    · subst hic
      rw [hself] at hi
      cases hi
      exact hob
    · rw [hget i hic] at hi
      exact (hw.obj i oi hi).same hle (hb i hic) (hr i hic) (hl i hic) (fun _ _ => trivial) fun b _ => ⟨rfl, fun o => by rw [hS]⟩
  · by_cases hic : i = c <;> by_cases hjc : j = c
    · rw [hic, hjc]
    · subst hic
      rw [hself] at h1; cases h1
      rw [hget j hjc] at h2
      rw [hblk j oj hjc] at h4
      exact absurd h3 (hap j oj b hjc h2 h4)
    · subst hjc
      rw [hself] at h2; cases h2
      rw [hget i hic] at h1
      rw [hblk i oi hic] at h3
      exact absurd h4 (hap i oi b hic h1 h3)
    · rw [hget i hic] at h1
      rw [hget j hjc] at h2
      rw [hblk i oi hic] at h3
      rw [hblk j oj hjc] at h4
      exact hw.apart i j oi oj b h1 h2 h3 h4
def setC (g : Gh) (c b : Nat) : Gh := ⟨g.S, fun i => if i = c then b else g.blk i, g.row, fun i => if i = c then 1 else g.len i⟩
def setR (g : Gh) (c : Nat) (v : Value) (n : Nat) : Gh := ⟨g.S, g.blk, fun i => if i = c then v else g.row i, fun i => if i = c then n + 1 else g.len i⟩
/-- Room for an object, under a name that no one bears. -/
theorem AW.vac {code : Code} (c : Nat) (hA : ¬ Γ.A c) (hc : objs c = none) (hf : ∀ t, (σ t).has c = false) (hf2 : ∀ i ob, objs i = some ob → ob.has c = false) (h : AW P Γ n code σ (ovr objs [(c, .vac)]) Q) : AW P Γ n code σ objs Q := by
  intro a w hcc
  obtain ⟨hd, hs, g, hr, hw⟩ := hcc
  have hle : GLe (fun i => i ≠ c) g ⟨g.S, g.blk, g.row, fun i => if i = c then 0 else g.len i⟩ := ⟨SLe.refl _, fun _ _ _ => rfl, fun i hi => by simp [hi], fun _ _ _ => rfl⟩
  have hget : ∀ i, i ≠ c → ovr objs [(c, .vac)] i = objs i := fun i hi => by
    have : (i == c) = false := by simpa using hi
    simp [ovr, List.lookup, this]
  have hself : ovr objs [(c, GObj.vac)] c = some .vac := by simp [ovr]
  have key : ∀ (i : Nat) (oi : GObj) (b : Nat), ovr objs [(c, .vac)] i = some oi → oi.blk ⟨g.S, g.blk, g.row, fun i => if i = c then 0 else g.len i⟩ i b → objs i = some oi ∧ oi.blk g i b := fun i oi b h1 h2 => by
    by_cases hic : i = c
    · subst hic; rw [hself] at h1; cases h1; cases h2
    · rw [hget i hic] at h1
      exact ⟨h1, by rw [← blk_same (g := g) (g' := ⟨g.S, g.blk, g.row, fun i => if i = c then 0 else g.len i⟩) rfl rfl oi]; exact h2⟩
  refine h a w ⟨hd, hs, ⟨g.S, g.blk, g.row, fun i => if i = c then 0 else g.len i⟩, fun t => (hr t).mono hle (fun id hid e => by subst e; rw [hf t] at hid; cases hid), hw.imm, fun i oi hi => ?_, fun i j oi oj b h1 h2 h3 h4 => ?_, hw.fr, hw.old, hw.ext.trans (hle.weak fun i hi e => hA (e ▸ hi))⟩
  · by_cases hic : i = c
    · subst hic
      rw [hself] at hi
      cases hi
      simp [ObjAt]
    · rw [hget i hic] at hi
      refine (hw.obj i oi hi).same hle rfl rfl (by simp [hic]) (fun id hid e1 => ?_) fun b _ => ⟨rfl, fun _ => rfl⟩
      have := hf2 i _ hi
      rw [e1] at hid
      rw [this] at hid; cases hid
  · obtain ⟨k1, k2⟩ := key i oi b h1 h3
    obtain ⟨k3, k4⟩ := key j oj b h2 h4
    exact hw.apart i j oi oj b k1 k3 k2 k4
/-- A slice that is nil, as a row that may grow. -/
theorem t_nilrow {x : Operand} {c k e : Nat} (ho : o.op = .assign x) (hx : opT σ x = .d (.v (.slice none 0 0))) : Tri P o σ [(c, .vac)] (.own k [] c) [(c, .row e k [])] := by
  intro Γ g objs a w Q hr hp hw
  have e1 := rep_op hr (x := x) (by rw [ho]; simp [Op.operands])
  rw [hx] at e1
  have hv := inv_v e1
  obtain ⟨h1, h2⟩ := hw.turn (g' := setR g c (.slice none 0 0) 0) (ob := .row e k []) (hp _ (List.mem_singleton.2 rfl)) (by simp [setR]) rfl (fun _ _ => rfl) (fun i hi => by simp [setR, hi]) (fun i hi => by simp [setR, hi])
    ⟨[], by simp [setR], by simpa [setR] using World.ownsRow_nil w 0 e k, .nil, fun b hb => by simp [setR, Value.ownBlock] at hb⟩ (fun j oj b _ _ _ h => by simp [GObj.blk, setR, Value.ownBlock] at h)
  unfold Oper.wp execOp
  rw [ho]
  refine ⟨_, _, rfl, h1, ?_, h2⟩
  rw [hv]
  exact .own (.sl .nil (RowS.nil _ _) (Nat.le_refl _) (Nat.zero_le _) fun _ => rfl) (by simp [setR]) fun _ => by simp [setR]
/-- A new block of cells, as an object. -/
theorem WI.alloc_cells {g : Gh} {w : World} {c e : Nat} {ts : List T} {xs : List Value} (hw : WI Γ g objs w) (hc : objs c = some .vac) (hts : Reps g ts xs) (h1 : ∀ x ∈ xs, x.oneCell' = true) :
    GLe (fun _ => True) g (setC g c w.heap.size) ∧ WI Γ (setC g c w.heap.size) (ovr objs [(c, .cells e ts)]) (w.alloc (.cells xs.toArray e)) := by
  have h0 : g.len c = 0 := hw.obj c _ hc
  have hb := (Below.refl w.heap.size w).alloc (Nat.le_refl _) (.cells xs.toArray e)
  have hw2 : WI Γ ⟨g.S, g.blk, g.row, g.len⟩ objs (w.alloc (.cells xs.toArray e)) := hw.call (SLe.refl _) (fun _ _ _ _ => rfl) (fun b o x h => by
    have h2 := hw.imm b o x h
    rw [hb.cell (p := ⟨b, o, none⟩) (World.block_lt_of_cell? w ⟨b, o, none⟩ h2)]; exact h2) hb
  have hle : GLe (fun _ => True) g (setC g c w.heap.size) := by
    refine ⟨SLe.refl _, fun i _ h2 => ?_, fun i _ => ?_, fun i _ _ => rfl⟩
    · by_cases e1 : i = c
      · subst e1; omega
      · simp [setC, e1]
    · by_cases e1 : i = c
      · subst e1; simp [setC, h0]
      · simp [setC, e1]
  refine ⟨hle, (hw2.turn (g' := setC g c w.heap.size) hc (by simp [setC]) rfl (fun i hi => by simp [setC, hi]) (fun _ _ => rfl) (fun i hi => by simp [setC, hi]) ?_ ?_).2⟩
  · refine ⟨xs, by simp [setC], .inl ?_, ?_, hts.mono hle fun _ _ => trivial, h1, fun o => ?_⟩
    · simp only [setC, if_true]; exact hw.fr.size
    · simp only [setC, if_true]; show (w.heap.push _)[w.heap.size]? = _; simp
    · simp only [setC, if_true]
      cases h3 : g.S w.heap.size o with
      | none => rfl
      | some x => exact absurd (World.block_lt_of_cell? w ⟨_, o, none⟩ (hw.imm _ _ _ h3)) (Nat.lt_irrefl _)
  · intro j oj b _ h2 h3 h4
    have hlt := hw.blk_lt h2 h3
    simp only [GObj.blk, setC, if_true] at h4
    exact absurd h4 (Nat.ne_of_gt hlt)
theorem reps_dv {g : Gh} : ∀ {xs : List Value}, (∀ x ∈ xs, x.oneCell' = true) → Reps g (xs.map fun x => .d (.v x)) xs
  | [], _ => .nil
  | x :: xs, h => .cons (.d (.v (h x (by simp)))) (reps_dv fun y hy => h y (by simp [hy]))
theorem hass_dv {c : Nat} : ∀ (xs : List Value), T.hass c (xs.map fun x => .d (.v x)) = false
  | [] => rfl
  | x :: xs => by simp [T.hass, T.has, hass_dv xs]
theorem reps_d {g : Gh} : ∀ {ds : List D} {xs : List Value}, RepDs g.S ds xs → Reps g (ds.map .d) xs
  | [], _, .nil => .nil
  | _ :: _, _, .cons h _ ht => .cons (.d h) (reps_d ht)
theorem hass_d {c : Nat} : ∀ (ds : List D), T.hass c (ds.map .d) = false
  | [] => rfl
  | x :: xs => by simp [T.hass, T.has, hass_d xs]
theorem t_alloc {e c : Nat} {zs : List Value} (ho : o.op = .alloc e) (hz : zeroOf? P e = some zs) : Tri P o σ [(c, .vac)] (.ref c 0) [(c, .cells e (zs.map fun x => .d (.v x)))] := by
  intro Γ g objs a w Q hr hp hw
  unfold zeroOf? at hz
  split at hz
  · next i hi =>
    split at hz
    · next z hzz =>
      split at hz
      · next hall =>
        cases hz
        have h1 : ∀ x ∈ z.cells.toList, x.oneCell' = true := fun x hx => Array.all_eq_true_iff_forall_mem.1 hall x (Array.mem_toList_iff.1 hx)
        unfold Oper.wp execOp
        have hrun : (Instr.alloc e true (.tuple #[])).run P w = .ok (.pointer (some ⟨w.heap.size, 0, none⟩)) (w.alloc (.cells z.cells.toList.toArray e)) := by
          unfold Instr.alloc
          simp only [zeroValue, typeInfo, program, Sem.run_bind, Sem.run, hi, Result.andThen_ok, Sem.run_pure, hzz, newVar, newRow, newObj, Array.toArray_toList]
          rfl
        simp only [ho, Sem.run_bind, hrun, Result.andThen_ok, Sem.run_pure]
        obtain ⟨k1, k2⟩ := hw.alloc_cells (e := e) (hp _ (List.mem_singleton.2 rfl)) (reps_dv h1) h1
        refine ⟨_, _, rfl, k1, ?_, k2⟩
        have := RepT.ref (g := setC g c w.heap.size) (id := c) (off := 0) (by simp [setC])
        simpa [setC] using this
      · cases hz
    · cases hz
  · cases hz
theorem t_box {e c : Nat} {x : Operand} {d : D} (ho : o.op = .box e x) (hx : TLe (opT σ x) (.d d)) : Tri P o σ [(c, .vac)] (.ref c 0) [(c, .cells e (d.lv.map .d))] := by
  intro Γ g objs a w Q hr hp hw
  have e1 := hx g _ (rep_op hr (x := x) (by rw [ho]; simp [Op.operands]))
  cases e1 with
  | d h1 =>
    have h2 := rep_cells h1
    unfold Oper.wp execOp
    have hrun : (Instr.box e (a.eval x)).run P w = .ok (.pointer (some ⟨w.heap.size, 0, none⟩)) (w.alloc (.cells (a.eval x).cells.toList.toArray e)) := by
      unfold Instr.box
      simp only [newVar, newRow, newObj, Sem.run_bind, Sem.run, Result.andThen_ok, Sem.run_pure, Array.toArray_toList]
      rfl
    simp only [ho, Sem.run_bind, hrun, Result.andThen_ok, Sem.run_pure]
    obtain ⟨k1, k2⟩ := hw.alloc_cells (e := e) (hp _ (List.mem_singleton.2 rfl)) (reps_d h2) h2.one
    refine ⟨_, _, rfl, k1, ?_, k2⟩
    have := RepT.ref (g := setC g c w.heap.size) (id := c) (off := 0) (by simp [setC])
    simpa [setC] using this
/-- A slice of given elements, as a row that may grow. -/
theorem t_slitrow {t e : TypeId} {k len c : Nat} {ps : List (Nat × Operand)} {qs : List (Nat × Nat × D)} {zs : List Value} (l : List D) (ho : o.op = .buildSlice t len ps.toArray) (ht : elemOf? P t = some (e, k)) (hz : zeroOf? P e = some zs)
    (hP : Parts σ (fun i => some (i * k, k)) ps qs) (hd : fillD qs ((List.range (len * k)).map fun j => .v (zs.getD (j % zs.length) default)) = some (l.flatMap D.lv)) (hb : len * k ≤ 1000) (hzl : 0 < zs.length) (hl : l.length = len) (hk : ∀ d ∈ l, d.lv.length = k) (hk0 : 0 < k) :
    Tri P o σ [(c, .vac)] (.own k l c) [(c, .row e k l)] := by
  intro Γ g objs a w Q hr hp hw
  obtain ⟨cs, e1, e2⟩ := build_slice_run (g := g) (a := a) w ht hz hP hd hb hzl (fun p hp => rep_op hr (by rw [ho]; simp [Op.operands]; exact ⟨p.1, hp⟩))
  have hmap : ps.toArray.map (fun x => match x with | (i, x) => (i, a.eval x)) = (ps.map fun p => (p.1, a.eval p.2)).toArray := by simp
  unfold Oper.wp execOp
  simp only [ho, hmap, Sem.run_bind, e1, Result.andThen_ok, Sem.run_pure]
  have hle0 : SLe g.S (newS g.S w.heap.size cs) := new_le hw.imm
  have hw2 := hw.lay (xs := cs) (e := e)
  have hlv := lv_of_flat hk e2
  have hcl : cs.length = l.length * k := hlv.len
  have hn : l.length * k ≤ 1000 := by rw [hl]; exact hb
  have hlen : len ≤ 1000 := by
    have := Nat.le_mul_of_pos_right l.length hk0
    omega
  have hown : (w.alloc (.cells cs.toArray e)).ownsRow 0 e k (.slice (some ⟨w.heap.size, 0, none⟩) len len) l.length cs := by
    refine ⟨hcl, .inr ⟨w.heap.size, len, cs.toArray, by rw [hl], Nat.zero_le _, ?_, by omega, by unfold maxLen; omega, by rw [List.size_toArray, hcl, hl], ?_⟩⟩
    · show (w.heap.push _)[w.heap.size]? = _
      simp
    · rw [← hcl]; simp
  have hS2 : ∀ b, (Value.slice (some ⟨w.heap.size, 0, none⟩) len len).ownBlock = some b → Mine Γ b ∧ ∀ o, newS g.S w.heap.size cs b o = cs[o]? := fun b hb => by
    simp only [Value.ownBlock, Option.some.injEq] at hb
    subst hb
    exact ⟨.inl hw.fr.size, fun o => by simp [newS]⟩
  have hap : ∀ j oj b, j ≠ c → objs j = some oj → oj.blk ⟨newS g.S w.heap.size cs, g.blk, g.row, g.len⟩ j b → (Value.slice (some ⟨w.heap.size, 0, none⟩) len len).ownBlock ≠ some b := fun j oj b _ h1 h2 h3 => by
    simp only [Value.ownBlock, Option.some.injEq] at h3
    have h4 : oj.blk g j b := by rw [← blk_same (g := g) (g' := ⟨newS g.S w.heap.size cs, g.blk, g.row, g.len⟩) rfl rfl oj]; exact h2
    exact absurd h3 (Nat.ne_of_gt (hw.blk_lt h1 h4))
  have hob : ObjAt Γ (setR ⟨newS g.S w.heap.size cs, g.blk, g.row, g.len⟩ c (.slice (some ⟨w.heap.size, 0, none⟩) len len) l.length) (w.alloc (.cells cs.toArray e)) c (.row e k l) :=
    ⟨cs, by simp [setR], by simpa only [setR, if_true] using hown, hlv.mono hle0, fun b hb => by
      simp only [setR, if_true] at hb
      exact hS2 b hb⟩
  obtain ⟨k1, k2⟩ := hw2.turn (g' := setR ⟨newS g.S w.heap.size cs, g.blk, g.row, g.len⟩ c (.slice (some ⟨w.heap.size, 0, none⟩) len len) l.length) (ob := .row e k l) (hp _ (List.mem_singleton.2 rfl)) (by simp [setR]) rfl (fun _ _ => rfl) (fun i hi => by simp [setR, hi]) (fun i hi => by simp [setR, hi]) hob (fun j oj b h1 h2 h3 => by
      simp only [GObj.blk, setR, if_true]
      exact hap j oj b h1 h2 h3)
  refine ⟨_, _, rfl, ⟨hle0.trans k1.S, k1.blk, k1.len, k1.row⟩, ?_, k2⟩
  have h3 := RepD.sl (cap := len) (hlv.mono hle0) (row_new g.S w.heap.size cs) (by omega) (by omega) (fun h => by cases h)
  rw [hl] at h3
  exact .own h3 (by simp [setR]) fun _ => by simp [setR]
theorem t_sfullrow {t e : TypeId} {k len c : Nat} {ps : List (Nat × Operand)} {zs : List Value} {l : List D} (ho : o.op = .buildSlice t len ps.toArray) (ht : elemOf? P t = some (e, k)) (hz : zeroOf? P e = some zs) (hP : Full σ 0 ps l) (hb : len * k ≤ 1000) (hzl : 0 < zs.length) (hl : l.length = len) (hk : ∀ d ∈ l, d.lv.length = k) (hk0 : 0 < k) :
    Tri P o σ [(c, .vac)] (.own k l c) [(c, .row e k l)] := by
  obtain ⟨qs, h1, h2⟩ := hP.fill hk [] ((List.range (len * k)).map fun j => .v (zs.getD (j % zs.length) default)) (by simp) (by simp [hl])
  exact t_slitrow l ho ht hz h1 h2 hb hzl hl hk hk0
theorem all_nil {p : D → Prop} : ∀ d ∈ ([] : List D), p d := fun d h => by cases h
theorem all_cons {p : D → Prop} {x : D} {l : List D} (h : p x) (ht : ∀ d ∈ l, p d) : ∀ d ∈ (x :: l), p d := fun d hd => by rcases List.mem_cons.1 hd with rfl | hd; exact h; exact ht d hd
/-- Reading an object. -/
theorem obj_cell {g : Gh} {w : World} {id e off : Nat} {ts : List T} {t : T} (hw : WI Γ g objs w) (ho : objs id = some (.cells e ts)) (ht : ts[off]? = some t) : ∃ x, w.cell? ⟨g.blk id, off, none⟩ = some x ∧ RepT g t x ∧ x.oneCell' = true := by
  obtain ⟨xs, -, a1, a2, a3, a4, a5⟩ := hw.obj id _ ho
  obtain ⟨x, hx, hrx⟩ := reps_at a3 ht
  refine ⟨x, ?_, hrx, a4 x (List.mem_of_getElem? hx)⟩
  unfold World.cell?
  dsimp only
  rw [a2]
  simpa using hx
theorem t_load_ref {t : TypeId} {x : Operand} {k id off e : Nat} {ts : List T} {v : T} (ho : o.op = .load t x) (ht : aggOf? P t = some (false, k)) (hx : opT σ x = .ref id off) (hv : ts[off]? = some v) : Tri P o σ [(id, .cells e ts)] v [] :=
  .val fun _ g objs ac w hrp hp hw => by
    have e1 := hrp x (by rw [ho]; simp [Op.operands])
    rw [hx] at e1
    generalize he : ac.eval x = y at e1
    cases e1 with
    | ref ha =>
      obtain ⟨u, hu, hru, -⟩ := obj_cell hw (hp _ (List.mem_singleton.2 rfl)) hv
      exact ⟨u, by unfold execOp; rw [ho]; simp [he, load_run ht hu], hru⟩
theorem reps_dd {g : Gh} : ∀ {ds : List D} {xs : List Value}, Reps g (ds.map .d) xs → (∀ x ∈ xs, x.oneCell' = true) → RepDs g.S ds xs
  | [], _, .nil, _ => .nil
  | _ :: _, _, .cons h ht, h1 => by cases h with | d h => exact .cons h (h1 _ (by simp)) (reps_dd ht fun x hx => h1 x (by simp [hx]))
theorem Reps.drop {g : Gh} : ∀ {l : List T} {xs : List Value} (n : Nat), Reps g l xs → Reps g (l.drop n) (xs.drop n)
  | _, _, 0, h => by simpa using h
  | _, _, n + 1, .nil => by simpa using Reps.nil
  | _, _, n + 1, .cons _ ht => by simpa using ht.drop n
theorem Reps.take {g : Gh} : ∀ {l : List T} {xs : List Value} (n : Nat), Reps g l xs → Reps g (l.take n) (xs.take n)
  | _, _, 0, h => by simpa using Reps.nil
  | _, _, n + 1, .nil => by simpa using Reps.nil
  | _, _, n + 1, .cons h ht => by simpa using Reps.cons h (ht.take n)
theorem Reps.app {g : Gh} : ∀ {l m : List T} {xs ys : List Value}, Reps g l xs → Reps g m ys → Reps g (l ++ m) (xs ++ ys)
  | _, _, _, _, .nil, h => h
  | _, _, _, _, .cons h ht, h' => .cons h (ht.app h')
theorem Reps.len {g : Gh} : ∀ {l : List T} {xs : List Value}, Reps g l xs → xs.length = l.length
  | _, _, .nil => rfl
  | _, _, .cons _ ht => by simp [ht.len]
theorem t_load_refa {t : TypeId} {x : Operand} {k id off e : Nat} {ts : List T} {ds : List D} (ho : o.op = .load t x) (ht : aggOf? P t = some (true, k)) (hx : opT σ x = .ref id off) (hv : (ts.drop off).take k = ds.map .d) (hk : ds.length = k) : Tri P o σ [(id, .cells e ts)] (.d (.agg ds)) [] :=
  .val fun _ g objs ac w hrp hp hw => by
    have e1 := hrp x (by rw [ho]; simp [Op.operands])
    rw [hx] at e1
    generalize he : ac.eval x = y at e1
    cases e1 with
    | ref ha =>
      obtain ⟨xs, -, a1, a2, a3, a4, a5⟩ := hw.obj id _ (hp _ (List.mem_singleton.2 rfl))
      have h3 := (a3.drop off).take k
      rw [hv] at h3
      have h4 := reps_dd h3 (fun x hx => a4 x (List.mem_of_mem_drop (List.mem_of_mem_take hx)))
      have hl := h4.len
      have := load_agg_run (P := P) (b := g.blk id) (off := off) (w := w) (xs := (xs.drop off).take k) ht (by rw [hl, hk]) (fun j hj => by
        have hj2 : off + j < xs.length := by
          have : ((xs.drop off).take k).length = k := by rw [hl, hk]
          rw [List.length_take, List.length_drop] at this
          omega
        unfold World.cell?
        dsimp only
        rw [a2, List.getElem?_take, if_pos hj, List.getElem?_drop]
        simp)
      exact ⟨_, by unfold execOp; rw [ho]; simp [he, this], .d (.agg h4)⟩
end
end Go.Proofs.YtngklbnodknadaaGreatDoor
end
