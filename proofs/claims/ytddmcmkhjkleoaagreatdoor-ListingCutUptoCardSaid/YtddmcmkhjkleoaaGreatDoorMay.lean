/-
  Lo, Lp, Lq, Lr, Pf, Sq, in one.
-/
import Derived.Test.YtddmcmkhjkleoaaGreatDoorMal
import Derived.Test.YtddmcmkhjkleoaaGreatDoorMax
import Derived.RangeFuncWrites
import Derived.Test.YtddmcmkhjkleoaaGreatDoorMar
import Derived.Lib.TrimUEq
import Derived.Test.YtddmcmkhjkleoaaGreatDoorMan
import Derived.Lib.ParseIntB
import Derived.Lib.ItoaMem
section
namespace Go.Proofs.YtddmcmkhjkleoaaGreatDoor
open Go.RowKit

theorem splitSeq_fn (s sep : List UInt8) : FnO Tryz.prog 35 [strT s, strT sep, intT 0] [] (.fn 61 [.ref 4 0, .ref 3 0, .ref 5 0]) [(3, .cells 9 [strT s]), (4, .cells 9 [strT sep]), (5, .cells 3 [intT 0])] := by
  refine FnO.of1 (n := 8) [] fax_ok Tryz.func35 rfl rfl rfl (by rfl) (by rfl) (by kernel_rfl) fun Γ hA hbA hbO => ?_
  (repeat ((conv => whnf); refine And.intro rfl ?_))
  exact ⟨eN, rS, fiO⟩
abbrev seqT : T := .fn 61 [.ref 802 0, .ref 801 0, .ref 803 0]
abbrev seqO (s sep : List UInt8) : Ob := [(801, .cells 9 [strT s]), (802, .cells 9 [strT sep]), (803, .cells 3 [intT 0])]
theorem splitseq_fn (s sep : List UInt8) : FnO Tryz.prog 20 [strT s, strT sep] [] seqT (seqO s sep) := by
  have h := splitSeq_fn s sep
  refine FnO.of_AW (n := 8) (ress := [seqT]) (rs := [.tmp 4]) Tryz.func20 rfl rfl rfl (by simp) rfl fun Γ hA => ?_
  rw [← argsE_env]
  refine AW.mono (Q' := liftE fun e E L => (e = .ret ∨ e = .normal) ∧ TLe (sl E 4) seqT ∧ FitO L (seqO s sep)) ?_ fun e σ objs h1 => ?_
  · rw [← obE_obj]
    refine AW.vacsE hA (cs := [801, 802, 803]) (E := argsE 0 [strT s, strT sep]) (L := []) rfl ?_
    refine evC_AW (V := []) fax_ok hA rfl ?_
    (repeat ((conv => whnf); refine gO [(3, 801), (4, 802), (5, 803)] (enters_of Tryz.func35 rfl rfl) h ?_))
    exact ⟨.inl rfl, TLe.of_eq rfl, fiO⟩
  · obtain ⟨E', L', k1, k2, k3, k4, k5⟩ := h1
    refine ⟨k3, .cons ((k1 4).trans' k4) .nil, fun p hp => ?_⟩
    refine k2 _ _ (k5.le _ _ ?_)
    rw [obE_obj]
    simp only [seqO, List.mem_cons, List.mem_nil_iff, or_false] at hp
    rcases hp with rfl | rfl | rfl <;> rfl
/-! ### What abides -/
def mapOk (p : Nat × GObj) : Prop := match p.2 with
  | .map _ _ => p.1 = 16
  | .rmap _ _ _ _ => False
  | .grid _ _ _ _ => False
  | .bld _ _ _ => False
  | _ => True
theorem mapOk_of {L : Ob} (h : ∀ p ∈ L, mapOk p) : ∀ i ob, obE L i = some ob → mapOk (i, ob) := fun i ob h1 => by
  rw [obE_obj] at h1
  exact h _ (objL_mem h1)
theorem own_cells {w : World} {e k n b : Nat} {v : Value} {xs : List Value} (h : w.ownsRow 0 e k v n xs) (hb : v.ownBlock = some b) : ∃ o : Obj, w.heap[b]? = some o ∧ o.isCells = true := by
  rcases h.2 with ⟨e1, -⟩ | ⟨g, cap, cur, e1, -, h2, -⟩
  · subst e1; cases hb
  · subst e1; cases hb; exact ⟨_, h2, rfl⟩
theorem ObjAt.cellsB {Γ : Cx} {g : Gh} {w : World} {i b : Nat} {ob : GObj} (h : ObjAt Γ g w i ob) (hb : ob.blk g i b) (hm : mapOk (i, ob)) : (∃ o : Obj, w.heap[b]? = some o ∧ o.isCells = true) ∨ b = g.blk 16 := by
  cases ob with
  | vac => cases hb
  | gone => cases hb
  | cells _ _ => obtain ⟨_, -, -, a2, -⟩ := h; cases hb; exact .inl ⟨_, a2, rfl⟩
  | row _ _ _ => obtain ⟨_, -, a2, -⟩ := h; exact .inl (own_cells a2 hb)
  | stk _ _ _ _ => obtain ⟨_, -, a2, -⟩ := h; exact .inl (own_cells a2 hb)
  | map _ _ =>
    have hm : i = 16 := hm
    subst hm
    have hb : g.blk 16 = b := hb
    exact .inr hb.symm
  | grid _ _ _ _ => exact hm.elim
  | rmap _ _ _ _ => exact hm.elim
  | bld _ _ _ => exact hm.elim
  | frow _ _ _ _ _ => obtain ⟨_, _, _, -, a2, -⟩ := h; exact .inl (own_cells a2 hb)
  | rdr _ _ => obtain ⟨_, _, -, -, a2, -⟩ := h; cases hb; exact .inl ⟨_, a2, rfl⟩
  | seen _ => cases hb
structure LI (Γ : Cx) (g0 : Gh) (B Bp Bs Bv : Nat) (L : Ob) (W : World) (g : Gh) : Prop where
  le : GLe (fun i => i < 1000) g0 g
  wi : WI Γ g (obE L) W
  S : ∀ o, g.S Bs o = none
  ap : ∀ b, reX g (obE L) b → b ≠ Bp ∧ b ≠ Bs ∧ b ≠ Bv
  mp : ∀ i ob, obE L i = some ob → mapOk (i, ob)
  lt : g.blk 16 < B
  sz : B ≤ W.heap.size
section
variable {Γ : Cx} {g0 g : Gh} {B Bp Bs Bv : Nat} {L : Ob} {W : World}
theorem LI.grown (h : LI Γ g0 B Bp Bs Bv L W g) (h0 : Γ.w0.heap.size ≤ B) {W' : World} {row : Option Nat} (hg : W.grownBy W' row) (hr : ∀ r, row = some r → B ≤ r ∧ ∃ o : Obj, W.heap[r]? = some o ∧ o.isCells = false) : LI Γ g0 B Bp Bs Bv L W' g := by
  refine ⟨h.le, h.wi.other hg.os hg.tape hg.output hg.size (fun k h1 h2 => ?_), h.S, h.ap, h.mp, h.lt, Nat.le_trans h.sz hg.size⟩
  have hrow : row = some k := Classical.byContradiction fun e => h2 (hg.block k h1 (Ne.symm e))
  obtain ⟨r1, o, r2, r3⟩ := hr k hrow
  refine ⟨by omega, fun oo => ?_, fun ⟨i, ob, q1, q2⟩ => ?_⟩
  · cases e : g.S k oo with
    | none => rfl
    | some x =>
      obtain ⟨o', e1, e2⟩ := cells_of_cell (h.wi.imm k oo x e)
      dsimp only at e1
      rw [r2] at e1; cases e1; rw [r3] at e2; cases e2
  · rcases (h.wi.obj i ob q1).cellsB q2 (h.mp i ob q1) with ⟨o', e1, e2⟩ | e1
    · rw [r2] at e1; cases e1; rw [r3] at e2; cases e2
    · have := h.lt; omega
theorem LI.setBox (h : LI Γ g0 B Bp Bs Bv L W g) (hB : Γ.w0.heap.size ≤ Bs) (v : Value) : LI Γ g0 B Bp Bs Bv L (W.setCell ⟨Bs, 0, none⟩ v) g := by
  refine ⟨h.le, h.wi.other rfl rfl rfl (by simp) (fun k _ h2 => ?_), h.S, h.ap, h.mp, h.lt, by simpa using h.sz⟩
  have e : k = Bs := Classical.byContradiction fun e => h2 (Below.heap_setCell W _ v k e)
  subst e
  exact ⟨hB, h.S, fun hx => (h.ap _ hx).2.1 rfl⟩
theorem LI.vac (h : LI Γ g0 B Bp Bs Bv L W g) (hA : ¬ Γ.A 2000) (hc : obE L 2000 = none) (hf : freshO 2000 L = true) : LI Γ g0 B Bp Bs Bv ((2000, .vac) :: L) W (vacG g 2000) := by
  have e : obE ((2000, .vac) :: L) = ovr (obE L) [(2000, .vac)] := by rw [← obE_app]; rfl
  have hget : ∀ i ob, obE ((2000, .vac) :: L) i = some ob → ob = .vac ∨ obE L i = some ob := fun i ob h1 => by
    rw [e] at h1
    by_cases hi : i = 2000
    · subst hi
      have : ovr (obE L) [(2000, GObj.vac)] 2000 = some .vac := by simp [ovr]
      rw [this] at h1; cases h1; exact .inl rfl
    · have hne : (i == 2000) = false := by simpa using hi
      have : ovr (obE L) [(2000, GObj.vac)] i = obE L i := by simp [ovr, List.lookup, hne]
      rw [this] at h1; exact .inr h1
  refine ⟨h.le.trans ((vacG_le g 2000).weak fun i hi => by omega), ?_, h.S, fun b ⟨i, ob, q1, q2⟩ => ?_, fun i ob q1 => ?_, h.lt, h.sz⟩
  · rw [e]; exact h.wi.vac 2000 hA hc (freshO_ok hf)
  · rcases hget i ob q1 with rfl | q3
    · cases q2
    · rw [blk_same (g := g) (g' := vacG g 2000) rfl rfl ob] at q2
      exact h.ap b ⟨i, ob, q3, q2⟩
  · rcases hget i ob q1 with rfl | q3
    · trivial
    · exact h.mp i ob q3
theorem li_round {L' : Ob} {a : Act} {x : List UInt8} {e0 : Exit} (h : LI Γ g0 B Bp Bs Bv L W g) (hb : Bp < B ∧ Bs < B ∧ Bv < B) (hd : a.defers = []) (hs : a.tmps.size = 59) (hr : ∀ t, RepT g (sl (lE x) t) (a.tmps.getD t undef))
    (h16 : ∃ d M, obE L 16 = some (.map d M)) (hm : ∀ p ∈ L', mapOk p) {l m : Nat} (hR : ∀ Γ', AWI Tryz.prog Γ' l m 59 lBody (sl (lE x)) (obE L) (liftE fun e _ L2 => e = e0 ∧ FitO L2 L')) :
    lBody.wpIn (Fence.wide.inRound l) m Tryz.prog (fun e _ W' => e = e0 ∧ KeepsFrom B W W' ∧ KeepS (spK Bp Bs Bv) W W' ∧ ∃ g', LI Γ g0 B Bp Bs Bv L' W' g') a W := by
  have ht := h.wi.fr.tabs
  have hx := h.wi.tabX
  refine wpIn_mono (hR (reCx g (obE L) W [] ht hx) a W ⟨hd, hs, g, hr, h.wi.rebase [] ht hx⟩) ?_
  rintro e a' W' ⟨σ', objs', ⟨E', L2, -, h2, rfl, hfit⟩, -, -, g', -, hw'⟩
  have hw : WI (reCx g (obE L) W [] ht hx) g' (obE L') W' := by
    have hsub : ∀ id ob, obE L' id = some ob → objs' id = some ob := fun id ob h1 => h2 _ _ (hfit.le _ _ h1)
    exact ⟨hw'.imm, fun id ob h => hw'.obj id ob (hsub id ob h), fun i j oi oj b h1 h2 => hw'.apart i j oi oj b (hsub _ _ h1) (hsub _ _ h2), hw'.fr, hw'.old, hw'.ext⟩
  have hle : GLe (fun _ => True) g g' := hw.ext
  have hsz : W.heap.size ≤ W'.heap.size := hw.fr.size
  have hB := h.sz
  refine ⟨rfl, ⟨hsz, fun k o hk ho hc => ?_⟩, ⟨hsz, fun k hk => ?_⟩, g', h.le.trans (hle.weak fun _ _ => trivial), h.wi.back hw, fun o => ?_, fun b hbx => ?_, mapOk_of hm, ?_, Nat.le_trans hB hsz⟩
  · refine (hw.fr.block k (Array.getElem?_eq_some_iff.1 ho).1 fun ⟨i, ob, q1, q2⟩ => ?_).trans ho
    rcases (h.wi.obj i ob q1).cellsB q2 (h.mp i ob q1) with ⟨o', e1, e2⟩ | e1
    · rw [ho] at e1; cases e1; rw [hc] at e2; cases e2
    · have := h.lt; omega
  · rcases hk with rfl | rfl | rfl | ⟨p, hp, rfl⟩
    · exact hw.fr.block _ (Nat.lt_of_lt_of_le hb.1 hB) fun q => (h.ap _ q).1 rfl
    · exact hw.fr.block _ (Nat.lt_of_lt_of_le hb.2.1 hB) fun q => (h.ap _ q).2.1 rfl
    · exact hw.fr.block _ (Nat.lt_of_lt_of_le hb.2.2 hB) fun q => (h.ap _ q).2.2 rfl
    · obtain ⟨cs, t, fr, -, q1⟩ := ht p hp
      exact hw.fr.block _ (Array.getElem?_eq_some_iff.1 q1).1 (hx p hp)
  · exact (hw.old Bs o (Nat.lt_of_lt_of_le hb.2.1 hB) fun q => (h.ap _ q).2.1 rfl).trans (h.S o)
  · rcases hw.mineX hbx with q | q
    · have q : W.heap.size ≤ b := q
      exact ⟨by omega, by omega, by omega⟩
    · exact h.ap b q
  · obtain ⟨d, M, q⟩ := h16
    obtain ⟨es, a0, -⟩ := h.wi.obj 16 _ q
    rw [hle.blk 16 trivial (by omega)]
    exact h.lt
end
end Go.Proofs.YtddmcmkhjkleoaaGreatDoor
end

section
namespace Go.Proofs.YtddmcmkhjkleoaaGreatDoor
open Go.RowKit

def startM : PrR := ⟨[], [], opsL⟩
/-- Lines read, one after the other. -/
def readL (xs : List (List UInt8)) : Option PrR := xs.foldlM lineM startM
theorem readL_snoc (xs : List (List UInt8)) (x : List UInt8) : readL (xs ++ [x]) = (readL xs).bind fun p => lineM p x := by
  unfold readL
  rw [List.foldlM_append]
  cases h : List.foldlM lineM startM xs with
  | none => rfl
  | some p => simp
theorem readL_take {xs : List (List UInt8)} {k : Nat} (h : readL (xs.take k) = none) : readL xs = none := by
  have e : readL xs = (readL (xs.take k)).bind fun p => (xs.drop k).foldlM lineM p := by
    conv => lhs; rw [← List.take_append_drop k xs]
    unfold readL
    rw [List.foldlM_append]
    rfl
  rw [e, h]; rfl
def wgt (xs : List (List UInt8)) : Nat := (xs.map fun x => x.length + 1).sum
theorem wgt_snoc (xs : List (List UInt8)) (x : List UInt8) : wgt (xs ++ [x]) = wgt xs + (x.length + 1) := by simp [wgt]
theorem wgt_take (xs : List (List UInt8)) (k : Nat) : wgt (xs.take k) ≤ wgt xs := by
  have : wgt xs = wgt (xs.take k) + wgt (xs.drop k) := by
    conv => lhs; rw [← List.take_append_drop k xs]
    simp only [wgt, List.map_append, List.sum_append]
  omega
theorem lines_ne (s : List UInt8) : linesM s ≠ [] := by
  cases s with
  | nil => exact List.cons_ne_nil _ _
  | cons c l =>
    rw [linesM]
    split
    · exact List.cons_ne_nil _ _
    · split <;> exact List.cons_ne_nil _ _
theorem lines_wgt : ∀ s : List UInt8, wgt (linesM s) = s.length + 1
  | [] => rfl
  | c :: l => by
    have ih := lines_wgt l
    rw [linesM]
    split
    · show (0 + 1) + wgt (linesM l) = _
      rw [ih, List.length_cons]; omega
    · split
      · next x xs e =>
        rw [e] at ih
        have h1 : wgt ((c :: x) :: xs) = (x.length + 1 + 1) + wgt xs := rfl
        have h2 : wgt (x :: xs) = (x.length + 1) + wgt xs := rfl
        rw [h1, List.length_cons]; omega
      · next e => exact absurd e (lines_ne l)
theorem bd_start : Bd startM 0 := ⟨Nat.le_refl _, Nat.le_refl _, (by show opsL.length ≤ 19; decide +kernel), (fun _ hf => by cases hf), (fun _ hf => by cases hf)⟩
abbrev RFp (p : PrR) (v1 v2 v3 : Nat) (dn : List D) (fo : Option (Int × Int × Bool)) (ca co : List D) : Ob := RF v1 dn (FnF v2 v3 fo) (p.consts.map vaD) (p.texts.map strD) (wmap 39) v2 ca v3 co
abbrev lE3 : En := [(2, .ref 2 0), (3, .ref 3 0), (4, .ref 4 0)]
noncomputable def lAssign : Code := match cBx (cSy lRange) with | .rangeFunc _ _ a _ => a | c => c
theorem lRange_eq : cSy lRange = .block 2 (.rangeFunc (.tmp 36) #[37] lAssign lBody) := rfl
def lA0 (a : Act) (x : List UInt8) : Act := { tmps := a.tmps.setIfInBounds 37 (.string ⟨x.toArray⟩), defers := [] }
def lA1 (a : Act) (x : List UInt8) : Act := (lA0 a x).put (some 7) ((lA0 a x).eval (.tmp 37))
theorem lassign_wp {l m : Nat} {a : Act} {x : List UInt8} {W : World} {K : Act → World → Prop} (h : K (lA1 a x) W) : lAssign.wpIn (Fence.wide.inRound l) m Tryz.prog (Exit.then K (fun _ _ _ => False)) (lA0 a x) W := by
  refine wpIn_region ?_
  exact ⟨fun _ _ => trivial, h⟩
theorem lA1_rep {g : Gh} {a : Act} (x : List UInt8) (hs : a.tmps.size = 59) (hr : ∀ t, RepT g (sl lE3 t) (a.tmps.getD t undef)) : (∀ t, RepT g (sl (lE x) t) ((lA1 a x).tmps.getD t undef)) ∧ (lA1 a x).tmps.size = 59 ∧ (lA1 a x).defers = [] := by
  have r0 : ∀ t, RepT g (updT (sl lE3) (some 37) (strT x) t) ((lA0 a x).tmps.getD t undef) := rep_put (a := ⟨a.tmps, []⟩) hr (rep_v rfl) fun d e => by cases e; show 37 < a.tmps.size; omega
  have s0 : (lA0 a x).tmps.size = 59 := by simp [lA0, hs]
  have h37 : RepT g (strT x) ((lA0 a x).eval (.tmp 37)) := r0 37
  have r1 := rep_put (a := lA0 a x) (dst := some 7) r0 h37 fun d e => by cases e; rw [s0]; decide
  refine ⟨fun t => ?_, by unfold lA1; rw [put_size, s0], by unfold lA1; rw [put_defers]; rfl⟩
  have h1 := r1 t
  rw [← sl_up, ← sl_up] at h1
  have hf : FitE (up (up lE3 (some 37) (strT x)) (some 7) (strT x)) (lE x) := fiE
  exact hf.le t g _ h1
theorem rf_ok {v1 v2 v3 : Nat} {dn cs tx ca co : List D} {M : List (Value × D)} (ts : List T) : ∀ p ∈ RF v1 dn ts cs tx M v2 ca v3 co, mapOk p := by
  simp [mapOk]
theorem rb_ok : ∀ p ∈ RB, mapOk p := by
  simp [mapOk]
set_option maxRecDepth 100000 in
set_option maxHeartbeats 2000000 in
theorem read_loop (s : List UInt8) (hs : s.length ≤ 1048576) {Γ : Cx} (hA : ∀ i, ¬ Γ.A i) (hX : ∀ b, ¬ Γ.X b) (hds : Γ.ds = []) {m : Nat} (hm : 5 ≤ m) {Q : Exit → Act → World → Prop}
    (hgood : ∀ p dn fo ca co v1 v2 v3 a W g D, readL (linesM s) = some p → Bd p (s.length + 1) → RdOf p dn fo ca co → a.tmps.size = 59 → (∀ t, RepT g (sl lE3 t) (a.tmps.getD t undef)) → a.defers = [{ target := .collected D, args := #[] }] → WI Γ g (obE (RFp p v1 v2 v3 dn fo ca co)) W → Γ.w0.heap.size ≤ D → W.heap[D]? = some (.deferred (some [])) → (∀ b, reX g (obE (RFp p v1 v2 v3 dn fo ca co)) b → b ≠ D) → Q .normal a W)
    (hbad : ∀ a W g D, readL (linesM s) = none → a.tmps.size = 59 → (∀ t, RepT g (sl lE3 t) (a.tmps.getD t undef)) → a.defers = [{ target := .collected D, args := #[] }] → WI Γ g (obE RB) W → Γ.w0.heap.size ≤ D → W.heap[D]? = some (.deferred (some [])) → Q .ret a W)
    {ca co : List D} {v1 v2 v3 : Nat} : NX Tryz.prog Γ 59 m (cSy lRange) ((36, seqT) :: lE3) (seqO s [10] ++ RFp startM v1 v2 v3 [] none ca co) Q := by
  intro a w hc
  obtain ⟨hd, hsz, g0, hr, hw⟩ := hc
  rw [hds] at hd
  rw [lRange_eq]
  refine wpIn_block ?_
  have h36 : RepT g0 seqT (a.tmps.getD 36 undef) := hr 36
  have hr3 : ∀ t, RepT g0 (sl lE3 t) (a.tmps.getD t undef) := fun t => by
    have hf : FitE ((36, seqT) :: lE3) lE3 := fiE
    exact hf.le t g0 _ (hr t)
  generalize hv : a.tmps.getD 36 undef = v36 at h36
  cases h36 with
  | fn h =>
  cases h with
  | cons q1 h =>
  cases h with
  | cons q2 h =>
  cases h with
  | cons q3 h =>
  cases h
  cases q1 with
  | ref l1 =>
  cases q2 with
  | ref l2 =>
  cases q3 with
  | ref l3 =>
  have one : ∀ (i : Nat) (e : TypeId) (v : Value), obE (seqO s [10] ++ RFp startM v1 v2 v3 [] none ca co) i = some (.cells e [.d (.v v)]) → w.heap[g0.blk i]? = some (.cells #[v] e (0, 0)) ∧ (∀ o, g0.S (g0.blk i) o = none) ∧ Mine Γ (g0.blk i) := fun i e v ho => by
    obtain ⟨xs, -, m1, p1, r1, -, s1⟩ := hw.obj i _ ho
    cases r1 with
    | cons r1 rn =>
      cases rn
      have := inv_v r1
      subst this
      exact ⟨p1, s1, m1⟩
  obtain ⟨ps, ss, ms⟩ := one 801 _ _ rfl
  obtain ⟨pp, -, -⟩ := one 802 _ _ rfl
  obtain ⟨pv, -, -⟩ := one 803 _ _ rfl
  have n1 : g0.blk 802 ≠ g0.blk 801 := fun e => by have := hw.apart 802 801 _ _ (g0.blk 802) rfl rfl rfl e.symm; omega
  have n2 : g0.blk 803 ≠ g0.blk 801 := fun e => by have := hw.apart 803 801 _ _ (g0.blk 803) rfl rfl rfl e.symm; omega
  have n3 : ∀ p ∈ tabs, p.1 ≠ g0.blk 801 := fun p hp e => hw.tabX p hp ⟨801, _, rfl, e.symm⟩
  have lts := (Array.getElem?_eq_some_iff.1 ps).1
  have ltp := (Array.getElem?_eq_some_iff.1 pp).1
  have ltv := (Array.getElem?_eq_some_iff.1 pv).1
  have hfit : FitO (seqO s [10] ++ RFp startM v1 v2 v3 [] none ca co) (RFp startM v1 v2 v3 [] none ca co) := fiO
  have hw3 : WI Γ g0 (obE (RFp startM v1 v2 v3 [] none ca co)) w := ⟨hw.imm, fun id ob h => hw.obj id ob (hfit.le _ _ h), fun i j oi oj b h1 h2 => hw.apart i j oi oj b (hfit.le _ _ h1) (hfit.le _ _ h2), hw.fr, hw.old, hw.ext⟩
  have hap : ∀ b, reX g0 (obE (RFp startM v1 v2 v3 [] none ca co)) b → b ≠ g0.blk 802 ∧ b ≠ g0.blk 801 ∧ b ≠ g0.blk 803 := fun b ⟨i, ob, q1, q2⟩ => by
    refine ⟨fun e => ?_, fun e => ?_, fun e => ?_⟩
    · have := hw.apart i 802 ob _ b (hfit.le _ _ q1) rfl q2 e.symm
      subst this
      cases q1
    · have := hw.apart i 801 ob _ b (hfit.le _ _ q1) rfl q2 e.symm
      subst this
      cases q1
    · have := hw.apart i 803 ob _ b (hfit.le _ _ q1) rfl q2 e.symm
      subst this
      cases q1
  have hfr := hw.fr.size
  have hMs : Γ.w0.heap.size ≤ g0.blk 801 := ms.resolve_right (hX _)
  have htab := hw.fr.tabs
  have h0 : LI Γ g0 w.heap.size (g0.blk 802) (g0.blk 801) (g0.blk 803) (RFp startM v1 v2 v3 [] none ca co) w g0 := ⟨GLe.refl _ _, hw3, ss, hap, mapOk_of (rf_ok _), hw3.blk_lt (i := 16) (oi := .map .string (wmap 39)) rfl rfl, Nat.le_refl _⟩
  have r37 : ∀ (g : Gh), GLe (fun i => i < 1000) g0 g → ∀ t, RepT g (sl lE3 t) (a.tmps.getD t undef) := fun g hle t => (hr3 t).mono hle fun id hid => by
    have hh : ∀ p ∈ lE3, p.2.has id = true → id < 1000 := by
      intro p hp h
      simp only [List.mem_cons, List.mem_nil_iff, or_false] at hp
      rcases hp with rfl | rfl | rfl <;> (simp [T.has] at h; omega)
    rw [sl_cons, sl_cons, sl_cons] at hid
    cases e2 : Nat.beq t 2 with
    | true => rw [e2] at hid; exact hh _ (by simp) hid
    | false =>
      rw [e2] at hid
      cases e3 : Nat.beq t 3 with
      | true => rw [e3] at hid; exact hh (3, .ref 3 0) (by simp) hid
      | false =>
        rw [e3] at hid
        cases e4 : Nat.beq t 4 with
        | true => rw [e4] at hid; exact hh (4, .ref 4 0) (by simp) hid
        | false => rw [e4] at hid; cases hid
  generalize g0.blk 802 = Bp at *
  generalize g0.blk 801 = Bs at *
  generalize g0.blk 803 = Bv at *
  have hb3 : SpB Bp Bs Bv s w := ⟨pp, ps, pv⟩
  have hlw := lines_wgt s
  let I : List (List UInt8) → World → Prop := fun pre W => ∃ p dn fo ca co v1 v2 v3 g, readL pre = some p ∧ Bd p (wgt pre) ∧ RdOf p dn fo ca co ∧ LI Γ g0 w.heap.size Bp Bs Bv (RFp p v1 v2 v3 dn fo ca co) W g
  let Ix : List (List UInt8) → World → Prop := fun pre W => readL pre = none ∧ ∃ g, LI Γ g0 w.heap.size Bp Bs Bv RB W g
  refine range_box (F := Fence.wide) rfl (by omega) (gf := 61) (lb := #[.pointer (some ⟨Bp, 0, none⟩), .pointer (some ⟨Bs, 0, none⟩), .pointer (some ⟨Bv, 0, none⟩)]) hv trivial (enters_of Tryz.func61 rfl rfl) (encs := fun x : List UInt8 => #[Value.string ⟨x.toArray⟩]) (Ks := spK Bp Bs Bv) ?hKs (Bs := Bs) lts
    (S := fun xs => xs = linesM s) (Sp := fun pre => ∃ k, pre = (linesM s).take k) (split_seq (m - 1) (by omega) s (by omega) Bp Bs Bv n1 n2 n3 w hb3 htab) (fun _ => rfl) I Ix ?hI ?hIx ?hIs ?h0 (fun x => lA1 a x) ?hassign ?hbody ?hdone ?hstop
  case hKs =>
    rintro k (rfl | rfl | rfl | ⟨p, hp, rfl⟩)
    · exact ltp
    · exact lts
    · exact ltv
    · obtain ⟨cs, t, fr, -, q⟩ := htab p hp
      exact (Array.getElem?_eq_some_iff.1 q).1
  case hI =>
    rintro pre W W' row ⟨p, dn, fo, ca, co, u1, u2, u3, g, k1, k2, k3, k4⟩ hg hr'
    exact ⟨p, dn, fo, ca, co, u1, u2, u3, g, k1, k2, k3, k4.grown hfr hg hr'⟩
  case hIx =>
    rintro pre W W' row ⟨k1, g, k4⟩ hg hr'
    exact ⟨k1, g, k4.grown hfr hg hr'⟩
  case hIs =>
    rintro pre W v ⟨p, dn, fo, ca, co, u1, u2, u3, g, k1, k2, k3, k4⟩
    exact ⟨p, dn, fo, ca, co, u1, u2, u3, g, k1, k2, k3, k4.setBox hMs v⟩
  case h0 => exact ⟨startM, [], none, ca, co, v1, v2, v3, g0, rfl, bd_start, .inl ⟨rfl, rfl, rfl⟩, h0⟩
  case hassign =>
    intro l x W K hK
    have h9 := lassign_wp (l := l) (m := m - 1 - 1) (a := a) (x := x) hK
    have e9 : ((#[37] : Array Nat).zip #[Value.string ⟨x.toArray⟩]).foldl (fun t (p, v) => t.setIfInBounds p v) a.tmps = a.tmps.setIfInBounds 37 (.string ⟨x.toArray⟩) := by simp
    unfold lA0 at h9
    rw [← e9] at h9
    exact h9
  case hbody =>
    rintro l pre x W - ⟨p, dn, fo, ca, co, u1, u2, u3, g, k1, k2, k3, k4⟩ ⟨k, hk⟩
    have hwt : wgt pre + (x.length + 1) ≤ s.length + 1 := by
      rw [← wgt_snoc, hk, ← hlw]; exact wgt_take _ _
    obtain ⟨a1, a2, a3⟩ := lA1_rep x hsz (r37 g k4.le)
    rcases line_step x (by omega) p (k2.le (by omega)) k3 u1 u2 u3 with ⟨p', y1, y2, y3, dn', fo', ca', co', j1, j2, j3⟩ | ⟨j1, ⟨y1, y2, y3, dn', fo', cs', tx', ca', co', j3⟩ | ⟨y1, y2, y3, dn', fo', cs', tx', ca', co', j3⟩⟩
    · refine wpIn_mono (li_round k4 ⟨ltp, lts, ltv⟩ a3 a2 a1 ⟨_, _, rfl⟩ (rf_ok _) fun Γ' => round_ok x fo fo' Γ' l _ j3) ?_
      rintro e a' W' ⟨rfl, i1, i2, g', i3⟩
      exact ⟨i1, i2, p', dn', fo', ca', co', y1, y2, y3, g', by rw [readL_snoc, k1]; exact j1, by rw [wgt_snoc]; exact k2.line j1, j2, i3⟩
    · refine wpIn_mono (li_round k4 ⟨ltp, lts, ltv⟩ a3 a2 a1 ⟨_, _, rfl⟩ rb_ok fun Γ' => round_bad x fo fo' Γ' l _ j3) ?_
      rintro e a' W' ⟨rfl, i1, i2, g', i3⟩
      exact ⟨i1, by rw [readL_snoc, k1]; exact j1, g', i3⟩
    · have k5 := k4.vac (hA 2000) rfl (by rcases fo with _ | ⟨_, _, _⟩ <;> rfl)
      obtain ⟨a1, a2, a3⟩ := lA1_rep x hsz (r37 _ k5.le)
      refine wpIn_mono (li_round k5 ⟨ltp, lts, ltv⟩ a3 a2 a1 ⟨_, _, rfl⟩ rb_ok fun Γ' => round_rr x fo fo' Γ' l _ j3) ?_
      rintro e a' W' ⟨rfl, i1, i2, g', i3⟩
      exact ⟨i1, by rw [readL_snoc, k1]; exact j1, g', i3⟩
  case hdone =>
    rintro D xs W hD rfl ⟨p, dn, fo, ca, co, u1, u2, u3, g, k1, k2, k3, k4⟩ hK
    refine hgood p dn fo ca co u1 u2 u3 _ W g D k1 (k2.le (by omega)) k3 hsz (r37 g k4.le) (by rw [hd]) k4.wi (Nat.le_trans hfr hD) hK fun b ⟨i, ob, q1, q2⟩ e => ?_
    subst e
    rcases (k4.wi.obj i ob q1).cellsB q2 (k4.mp i ob q1) with ⟨o', e1, e2⟩ | e1
    · rw [hK] at e1; cases e1; cases e2
    · have := k4.lt; omega
  case hstop =>
    rintro D pre W hD ⟨k, rfl⟩ ⟨k1, g, k4⟩ hK
    exact wpIn_ret (hbad _ W g D (readL_take k1) hsz (r37 g k4.le) (by rw [hd]) k4.wi (Nat.le_trans hfr hD) hK)
end Go.Proofs.YtddmcmkhjkleoaaGreatDoor
end

section
namespace Go.Proofs.YtddmcmkhjkleoaaGreatDoor
open Go.RowKit

noncomputable def lR0 : Code := cSx lCode
noncomputable def lR1 : Code := cSx (cSy lCode)
noncomputable def lR2 : Code := cSx (cSy (cSy lCode))
noncomputable def lR3 : Code := cSx (cSy (cSy (cSy lCode)))
noncomputable def lR5 : Code := cSy (cSy (cSy (cSy (cSy lCode))))
theorem lCode_eq : lCode = .seq lR0 (.seq lR1 (.seq lR2 (.seq lR3 (.seq lRange lR5)))) := rfl
theorem lRange_split : lRange = .seq (cSx lRange) (cSy lRange) := rfl
/-! ### The reader read as data -/
abbrev dat (ts : List T) : List T := ts
abbrev RD (p : PrR) : Ob := [(2, .cells 26 nil3), (3, .cells 28 [intT 0]), (4, .cells 59 [.ref 18 0]), (18, .cells 63 [.d (fnsD p.fns), .d (vasD p.consts), .d (txD p.texts), .und, boolT false])]
theorem lk_ovr (L : Ob) (i : Nat) (ob : GObj) : ovr (obE L) [(i, ob)] = obE ((i, ob) :: L) := by
  rw [← obE_app]; rfl
theorem fns_data {p : PrR} {dn ca co : List D} {fo : Option (Int × Int × Bool)} {v2 v3 : Nat} (hR : RdOf p dn fo ca co) : dn ++ lastD ca co (FnF v2 v3 fo) = p.fns.map fnD := by
  rcases hR with ⟨e1, e2, e3⟩ | ⟨f, e1, -, e3, e4, e5, e6⟩
  · subst e2 e3; rw [e1]; rfl
  · subst e3 e4 e5 e6
    rw [e1, List.map_append, List.dropLast_concat]; rfl
theorem FnF_ts (v2 v3 : Nat) (fo : Option (Int × Int × Bool)) : FrTs 518 v2 618 v3 (FnF v2 v3 fo) := by
  rcases fo with _ | ⟨p, r, g⟩
  · exact .inl rfl
  · exact .inr ⟨p, r, g, rfl⟩
theorem WI.readD {Γ : Cx} {g : Gh} {W : World} {p : PrR} {v1 v2 v3 : Nat} {dn ca co : List D} {fo : Option (Int × Int × Bool)} (hw : WI Γ g (obE (RFp p v1 v2 v3 dn fo ca co)) W) (hR : RdOf p dn fo ca co) :
    ∃ S', GLe (fun _ => True) g ⟨S', g.blk, g.row, g.len⟩ ∧ WI Γ ⟨S', g.blk, g.row, g.len⟩ (obE (RD p)) W := by
  obtain ⟨S1, hle1, hw1, l2, l3, xs, hlen, hown, hrep, hS⟩ := fr_freeze (id := 318) (c2 := 518) (c3 := 618) hw rfl rfl rfl (by decide) (by decide) (by decide) (FnF_ts v2 v3 fo)
  rw [fns_data hR] at hown hrep
  rw [lk_ovr, lk_ovr] at hw1
  have hB : ∀ b, (GObj.frow 39 5 v1 dn (FnF v2 v3 fo)).blk (⟨S1, g.blk, g.row, g.len⟩ : Gh) 318 b → (g.row 318).ownBlock = some b := fun b hb => hb
  obtain ⟨hle2, hw2⟩ := hw1.freeze (id := 318) (ob := .frow 39 5 v1 dn (FnF v2 v3 fo)) rfl fun b hb o => (hS b (hB b hb)).2 o
  rw [lk_ovr] at hw2
  have hD : RepD (frzS S1 W ((GObj.frow 39 5 v1 dn (FnF v2 v3 fo)).blk (⟨S1, g.blk, g.row, g.len⟩ : Gh) 318)) (.sl 5 (p.fns.map fnD)) (g.row 318) := frz_row hown hrep hle2.S fun b hb => hb
  have hle := hle1.trans hle2
  dsimp only at hle hle2 hw2
  generalize frzS S1 W ((GObj.frow 39 5 v1 dn (FnF v2 v3 fo)).blk (⟨S1, g.blk, g.row, g.len⟩ : Gh) 318) = S2 at *
  refine ⟨S2, hle, ?_⟩
  have hw3 := hw2.less (id := 18) (ts := [.stk 318 v1 .all, .own 2 (p.consts.map vaD) 418, .own 1 (p.texts.map strD) 14, .mp 16, boolT false]) (ts' := [.d (fnsD p.fns), .d (vasD p.consts), .d (txD p.texts), .und, boolT false]) (e := 63) rfl fun xs hx _ => by
    cases hx with | cons q1 hx => cases hx with | cons q2 hx => cases hx with | cons q3 hx => cases hx with | cons q4 hx => cases hx with | cons q5 hx =>
    cases hx
    have e1 := inv_stk q1 hlen
    subst e1
    cases q2 with | own k2 _ _ =>
    cases q3 with | own k3 _ _ =>
    exact .cons (.d hD) (.cons (.d k2) (.cons (.d k3) (.cons .und (.cons q5 .nil))))
  rw [lk_ovr] at hw3
  have hfit : FitO ((18, .cells 63 [.d (fnsD p.fns), .d (vasD p.consts), .d (txD p.texts), .und, boolT false]) :: (318, .gone) :: (618, .gone) :: (518, .gone) :: RFp p v1 v2 v3 dn fo ca co) (RD p) := fiO
  exact ⟨hw3.imm, fun id ob h => hw3.obj id ob (hfit.le _ _ h), fun i j oi oj b h1 h2 => hw3.apart i j oi oj b (hfit.le _ _ h1) (hfit.le _ _ h2), hw3.fr, hw3.old, hw3.ext⟩
theorem WI.backF {Γ : Cx} {g g' : Gh} {objs objs' : Objs} {w w' : World} {ds : List Deferred} {ht : TabsIn w} {hx : ∀ p ∈ tabs, ¬ reX g objs p.1} (hA : ∀ i, ¬ Γ.A i) (hw : WI Γ g objs w) (h : WI (reCx g objs w ds ht hx).free g' objs' w') : WI Γ g' objs' w' := by
  have hM : ∀ b, Mine (reCx g objs w ds ht hx).free b → Mine Γ b := fun b hb => by
    rcases hb with hb | hb
    · exact .inl (Nat.le_trans hw.fr.size hb)
    · exact hw.mineX hb
  have hno : ∀ k, k < Γ.w0.heap.size → ¬ Γ.X k → ¬ reX g objs k := fun k h1 h2 h3 => by
    rcases hw.mineX h3 with h4 | h4
    · omega
    · exact h2 h4
  refine ⟨h.imm, fun i ob h1 => (h.obj i ob h1).mineTo fun b hb => hM b ((h.obj i ob h1).mine hb), h.apart, ⟨h.fr.os.trans hw.fr.os, h.fr.tape.trans hw.fr.tape, h.fr.output.trans hw.fr.output, Nat.le_trans hw.fr.size h.fr.size, fun k h1 h2 => ?_⟩, fun b o h1 h2 => ?_, ⟨fun b o x hb => h.ext.S b o x (hw.ext.S b o x hb), fun i hi => (hA i hi).elim, fun i hi => (hA i hi).elim, fun i hi => (hA i hi).elim⟩⟩
  · exact (h.fr.block k (Nat.lt_of_lt_of_le h1 hw.fr.size) (hno k h1 h2)).trans (hw.fr.block k h1 h2)
  · exact (h.old b o (Nat.lt_of_lt_of_le h1 hw.fr.size) (hno b h1 h2)).trans (hw.old b o h1 h2)
/-! ### How Read ends -/
/-- What is read, or why it is not. -/
def readM (s : List UInt8) : PrR × Int :=
  if 1048576 < s.length then (⟨[], [], []⟩, 2) else match readL (linesM s) with
  | none => (⟨[], [], []⟩, 4)
  | some p => if checkM p = 0 then (p, 0) else (⟨[], [], []⟩, checkM p)
abbrev RE (q : PrR) (e : Int) : Ob := [(2, .cells 26 [.d (fnsD q.fns), .d (vasD q.consts), .d (txD q.texts)]), (3, .cells 28 [intT e])]
abbrev rE2 : En := [(2, .ref 2 0), (3, .ref 3 0)]
def Marked (Γ : Cx) (g : Gh) (objs : Objs) (a : Act) (W : World) : Prop := a.defers = [] ∨ ∃ D, a.defers = [{ target := .collected D, args := #[] }] ∧ Γ.w0.heap.size ≤ D ∧ W.heap[D]? = some (.deferred (some [])) ∧ ¬ reX g objs D
def RQ (Γ : Cx) (q : PrR) (e : Int) : Exit → Act → World → Prop := fun ex a W => (ex = .ret ∨ ex = .normal) ∧ ∃ g', (∀ t, RepT g' (sl rE2 t) (a.tmps.getD t undef)) ∧ WI Γ g' (obE (RE q e)) W ∧ Marked Γ g' (obE (RE q e)) a W
theorem rse_end {q : PrR} {e : Int} : RsE fax rE2 (RE q e) [.cell 2 26, .cell 3 28] [.d (prD q), intT e] := rS
theorem read_open (s : List UInt8) (q : PrR) (e : Int) (h : ∀ Γ : Cx, (∀ i, ¬ Γ.A i) → (∀ b, ¬ Γ.X b) → Γ.ds = [] → bdTs [strT s] → NX Tryz.prog Γ 59 5 lCode [(0, strT s)] [] (RQ Γ q e)) : FnD Tryz.prog 8 [strT s] (.tup [.d (prD q), intT e]) := by
  intro w g vs htab hi hreps
  refine (callsIn_wide (n := 5)).1 ?_
  refine callsIn_of_wp_marks Tryz.func8 (c := lCode) rfl trivial ?_ rfl
  have hl := reps_len hreps
  let Γ : Cx := ⟨fun _ => False, w, g, fun _ => False, htab, fun _ _ => id, []⟩
  refine wpIn_mono (h Γ (fun _ => id) (fun _ => id) rfl (bdTs_rep hreps) _ w ⟨rfl, ?_, g, fun t => ?_, ⟨hi, fun id ob h => (by cases h), fun i j oi oj b h => (by cases h), Fr.refl _, fun _ _ _ _ => rfl, GLe.refl _ _⟩⟩) ?_
  · simp [Tryz.ntmps8, hl]
  · have := reps_slots hreps (59 - 1) t
    rw [← argsE_env] at this
    change RepT g (sl [(0, strT s)] t) _ at this
    simpa [Tryz.ntmps8, hl] using this
  · rintro ex a W ⟨hex, g', hr, hw, hm⟩
    have key : ∀ W', WI Γ g' (obE (RE q e)) W' → LeavesIn Fence.wide 5 Tryz.prog Tryz.f8 a.tmps (fun e' w' => ∃ v S', e' = .returned v ∧ SLe g.S S' ∧ (∀ b o, b < w.heap.size → S' b o = g.S b o) ∧ (∀ b o x, S' b o = some x → w'.cell? ⟨b, o, none⟩ = some x) ∧ RepT ⟨S', g.blk, g.row, g.len⟩ (.tup [.d (prD q), intT e]) v ∧ Below w.heap.size w w') [] .returning W' := fun W' hw' => by
      obtain ⟨v, hv, hrv⟩ := results_rse (fn := Tryz.f8) (rs := [.cell 2 26, .cell 3 28]) fax_ok rfl hr (fun _ => TLe.refl _) (fun _ _ h => h) hw' rse_end
      refine ⟨v, hv, v, g'.S, rfl, hw'.ext.S, fun b o hb => hw'.old b o hb id, hw'.imm, ?_, hw'.fr.below fun _ => id⟩
      exact hrv.mono (A := fun _ => False) (g := g') (g' := ⟨g'.S, g.blk, g.row, g.len⟩) ⟨SLe.refl _, fun _ h => h.elim, fun _ h => h.elim, fun _ h => h.elim⟩ fun id h => by cases h
    have fin : LeavesInM Fence.wide 5 Tryz.prog Tryz.f8 a.tmps (fun e' w' => ∃ v S', e' = .returned v ∧ SLe g.S S' ∧ (∀ b o, b < w.heap.size → S' b o = g.S b o) ∧ (∀ b o x, S' b o = some x → w'.cell? ⟨b, o, none⟩ = some x) ∧ RepT ⟨S', g.blk, g.row, g.len⟩ (.tup [.d (prD q), intT e]) v ∧ Below w.heap.size w w') a.defers .returning W := by
      rcases hm with hd | ⟨D, hd, hD, hK, hX⟩
      · rw [hd]; exact key W hw
      · rw [hd]
        refine ⟨by simp, .inl ⟨_, _, rfl, run_takeDeferred hK, ?_⟩⟩
        refine key _ (hw.other rfl rfl rfl (by simp) fun k _ h2 => ?_)
        have e : k = D := Classical.byContradiction fun e => h2 (World.putObj_heap_other e)
        subst e
        refine ⟨hD, fun o => ?_, hX⟩
        cases hS : g'.S k o with
        | none => rfl
        | some x =>
          obtain ⟨o', e1, e2⟩ := cells_of_cell (hw.imm k o x hS)
          dsimp only at e1
          rw [hK] at e1; cases e1; cases e2
    rcases hex with rfl | rfl
    · exact fin
    · exact fin
end Go.Proofs.YtddmcmkhjkleoaaGreatDoor
end

section
namespace Go.Proofs.YtddmcmkhjkleoaaGreatDoor
open Go.RowKit

set_option maxRecDepth 100000 in
set_option maxHeartbeats 1000000 in
theorem rest_read {p : PrR} (hc : ∀ f ∈ p.fns, f.caught.length ≤ 4000000) {Γ : Cx} (hA0 : ∀ i, ¬ Γ.A i) {dn ca co : List D} {fo : Option (Int × Int × Bool)} {v1 v2 v3 : Nat} (hR : RdOf p dn fo ca co) {a : Act} {W : World} {g : Gh} {D : Nat}
    (hs : a.tmps.size = 59) (hr : ∀ t, RepT g (sl lE3 t) (a.tmps.getD t undef)) (hd : a.defers = [{ target := .collected D, args := #[] }]) (hw : WI Γ g (obE (RFp p v1 v2 v3 dn fo ca co)) W) (hD : Γ.w0.heap.size ≤ D) (hK : W.heap[D]? = some (.deferred (some []))) (hX : ∀ b, reX g (obE (RFp p v1 v2 v3 dn fo ca co)) b → b ≠ D) :
    lR5.wpIn Fence.wide 5 Tryz.prog (RQ Γ (if checkM p = 0 then p else ⟨[], [], []⟩) (checkM p)) a W := by
  obtain ⟨S', hle, hw2⟩ := hw.readD hR
  have ht := hw2.fr.tabs
  have hx := hw2.tabX
  have hX2 : ¬ reX (⟨S', g.blk, g.row, g.len⟩ : Gh) (obE (RD p)) D := fun ⟨i, ob, q1, q2⟩ => by
    rw [obE_obj] at q1
    have := objL_mem q1
    simp only [RD, List.mem_cons, List.mem_nil_iff, or_false, Prod.mk.injEq] at this
    rcases this with ⟨rfl, rfl⟩ | ⟨rfl, rfl⟩ | ⟨rfl, rfl⟩ | ⟨rfl, rfl⟩
    · exact hX D ⟨2, _, rfl, q2⟩ rfl
    · exact hX D ⟨3, _, rfl, q2⟩ rfl
    · exact hX D ⟨4, _, rfl, q2⟩ rfl
    · exact hX D ⟨18, _, rfl, q2⟩ rfl
  have hC := check_fn p fun f hf => by have := hc f hf; omega
  obtain ⟨Γ2, hΓ2⟩ : ∃ Γ2, (reCx ⟨S', g.blk, g.row, g.len⟩ (obE (RD p)) W [{ target := .collected D, args := #[] }] ht hx).free = Γ2 := ⟨_, rfl⟩
  have hA : ∀ i, i < 1000 → ¬ Γ2.A i := fun i _ h => by rw [← hΓ2] at h; exact h
  have hDl := (Array.getElem?_eq_some_iff.1 hK).1
  have fin : ∀ {q : PrR} {e : Int} {ex : Exit} {E' : En} {L' : Ob}, (ex = .ret ∨ ex = .normal) → FitE E' rE2 → FitO L' (RE q e) → ∀ a w, Conc Γ2 59 (sl E') (obE L') a w → RQ Γ q e ex a w := fun {q e ex E' L'} hex hE hL a' w' ⟨hd', hs', g', hr', hw'⟩ => by
    subst hΓ2
    have hw3 : WI (reCx ⟨S', g.blk, g.row, g.len⟩ (obE (RD p)) W [{ target := .collected D, args := #[] }] ht hx).free g' (obE (RE q e)) w' := ⟨hw'.imm, fun id ob h => hw'.obj id ob (hL.le _ _ h), fun i j oi oj b h1 h2 => hw'.apart i j oi oj b (hL.le _ _ h1) (hL.le _ _ h2), hw'.fr, hw'.old, hw'.ext⟩
    refine ⟨hex, g', fun t => hE.le t g' _ (hr' t), WI.backF hA0 hw2 hw3, .inr ⟨D, hd', hD, (hw3.fr.block D hDl hX2).trans hK, fun h => ?_⟩⟩
    rcases hw3.mineX h with h1 | h1
    · exact absurd hDl (Nat.not_lt.2 h1)
    · exact hX2 h1
  refine NX.fin (Γ := Γ2) (E := lE3) (L := RD p) [] fax_ok hA (by kernel_rfl) (fun hbA hbO => ?_) a W ⟨by rw [hd, ← hΓ2]; rfl, hs, _, fun t => (hr t).mono hle fun _ _ => trivial, by subst hΓ2; exact WI.to (Γ := reCx ⟨S', g.blk, g.row, g.len⟩ (obE (RD p)) W [{ target := .collected D, args := #[] }] ht hx) rfl rfl rfl (GLe.no (SLe.refl _)) (hw2.rebase _ ht hx)⟩
  by_cases h0 : checkM p = 0
  · rw [if_pos h0, h0]
    rw [h0] at hC
    (repeat ((conv => whnf); (first | refine exR ?_ | refine gd (enters_of Tryz.func11 rfl rfl) hC ?_ | refine tF ?_)))
    exact fin (.inl rfl) fiE fiO
  · rw [if_neg h0]
    generalize checkM p = e at *
    have hq : (e != 0) = true := bne_iff_ne.2 h0
    (repeat ((conv => whnf); (first | refine exR ?_ | refine gd (enters_of Tryz.func11 rfl rfl) hC ?_ | refine tT ?_)))
    exact fin (.inl rfl) fiE fiO
theorem gen_buildT {P : Program} {F : Fax} {o : Oper} {E : En} {L : Ob} {k : KO} {t : Nat} {ps : Array (Nat × Operand)} {zs : List Value} {zd : List D} {fl : List (Nat × Nat)} {qs : List (Nat × List T)} (ho : o.op = .build t ps) (hz : lk F.ze t = some (zs, zd)) (hp : lk F.pl t = some fl) (hq : bPartsT E fl ps.toList = some qs)
    (hb : fitsT qs (zs.map fun x => T.d (.v x)).length = true) (hF : FaxOK P F) (hk : k [] (.ag (fillT qs (zs.map fun x => T.d (.v x)))) []) : gen P o E L k := gen_nil (t_buildT (ps := ps.toList) ho (hF.ze _ _ _ hz).1 (hF.pl _ _ hp) (bPartsT_ok hq) hb) hk
theorem lwordsAt {i : Nat} (h : i < 39) : ∃ w, lwordsL[i]? = some w := ⟨_, List.getElem?_eq_getElem (by rw [lwords_len]; exact h)⟩
set_option maxRecDepth 100000 in
set_option maxHeartbeats 2000000 in
theorem read_fn (s : List UInt8) : FnD Tryz.prog 8 [strT s] (.tup [.d (prD (readM s).1), intT (readM s).2]) := by
  refine read_open s _ _ fun Γ hA0 hX hds hbs => ?_
  have hA : ∀ i, i < 1000 → ¬ Γ.A i := fun i _ => hA0 i
  rw [lCode_eq]
  have fin : ∀ {q : PrR} {e : Int} {ex : Exit} {E' : En} {L' : Ob}, (ex = .ret ∨ ex = .normal) → FitE E' rE2 → FitO L' (RE q e) → ∀ a w, Conc Γ 59 (sl E') (obE L') a w → RQ Γ q e ex a w := fun {q e ex E' L'} hex hE hL a' w' ⟨hd', hs', g', hr', hw'⟩ => by
    have hw3 : WI Γ g' (obE (RE q e)) w' := ⟨hw'.imm, fun id ob h => hw'.obj id ob (hL.le _ _ h), fun i j oi oj b h1 h2 => hw'.apart i j oi oj b (hL.le _ _ h1) (hL.le _ _ h2), hw'.fr, hw'.old, hw'.ext⟩
    exact ⟨hex, g', fun t => hE.le t g' _ (hr' t), hw3, .inl (by rw [hd', hds])⟩
  have hW := words_fn
  have hLW := lwords_fn
  have hCl := cloneS_fn opsL (by decide +kernel)
  refine NX.seq [] fax_ok hA (by kernel_rfl) fun hbE hbO => ?_
  (repeat ((conv => whnf); refine And.intro rfl ?_))
  refine NX.seq [] fax_ok hA (by kernel_rfl) fun hbE hbO => ?_
  by_cases hl : 1048576 < s.length
  · have hm : readM s = (⟨[], [], []⟩, 2) := by unfold readM; rw [if_pos hl]
    rw [hm]
    (repeat ((conv => whnf); (first | refine exR ?_ | refine tT ?_)))
    exact fin (.inl rfl) fiE fiO
  · (repeat ((conv => whnf); (first | refine exR ?_ | refine tF ?_)))
    refine NX.to (E' := [(0, strT s), (2, .ref 2 0), (3, .ref 3 0)]) (L' := [(2, .cells 26 nil3), (3, .cells 28 [intT 0])]) fiE fiO ?_
    refine NX.seq [14, 5015, 5018] fax_ok hA (by kernel_rfl) fun hbE hbO => ?_
    (repeat ((conv => whnf); (first | refine gd (enters_of Tryz.func12 rfl rfl) hW ?_ | refine gO [(5, 14)] (enters_of Tryz.func19 rfl rfl) hCl ?_)))
    refine gen_buildT (F := fax) rfl rfl rfl rfl rfl fax_ok ?_
    (repeat ((conv => whnf); refine And.intro rfl ?_))
    refine ⟨_, _, _, t_rdbox (c := 18) (c1 := 318) (c2 := 418) (c3 := 518) (c4 := 618) (eF := 39) (eV := 55) (e3 := 3) (e4 := 41) rfl rfl (by decide) (by decide) (by decide) (by decide), AllO.mem ⟨rfl, rfl, rfl, rfl, rfl, trivial⟩, ?_⟩
    (repeat ((conv => whnf); refine And.intro rfl ?_))
    refine NX.to (E' := [(0, strT s), (2, .ref 2 0), (3, .ref 3 0), (4, .ref 4 0)]) (L' := RF 0 [] [] [] (opsL.map strD) (wmap 0) 0 [] 0 []) fiE fiO ?_
    refine NX.seq [] fax_ok hA (by kernel_rfl) fun hbE hbO => ?_
    (repeat ((conv => whnf); refine gd (enters_of Tryz.func16 rfl rfl) hLW ?_))
    refine ev_loop [] fax_ok hA (by kernel_rfl) (fun i : Nat => i ≤ 39) (fun i => [(0, strT s), (2, .ref 2 0), (3, .ref 3 0), (4, .ref 4 0), (19, .d (txD lwordsL)), (20, intT 39), (21, intT i)]) (fun i => RF 0 [] [] [] (opsL.map strD) (wmap i) 0 [] 0 []) (fun i => 39 - i) 0 (Nat.zero_le _) fiE fiO ?_
    rintro i hi hb -
    by_cases h : i < 39
    · obtain ⟨w, hw⟩ := lwordsAt h
      have hx : (lwordsL.map strD)[i]? = some (strD w) := by rw [List.getElem?_map, hw, Option.map_some]
      by_cases h0 : i = 0
      · subst h0
        obtain rfl : w = [] := by cases hw; rfl
        (repeat ((conv => whnf); (first | with_reducible refine exE _ (w_inc (by omega)) ?_ | refine exR ?_ | refine tT ?_ | refine tF ?_ | refine exI _ rfl (by assumption) ?_)))
        refine ⟨1, by omega, by omega, fiE, fiO⟩
      · have hs := wmap_step (by omega) hw
        have hne : w ≠ [] := fun e => by
          subst e
          have h1 : ∀ k : Fin 39, k.1 ≠ 0 → lwordsL[k.1]? ≠ some [] := by decide +kernel
          exact h1 ⟨i, h⟩ h0 hw
        have hq : (w == []) = false := beq_eq_false_iff_ne.2 hne
        generalize wmap i = M1 at *
        (repeat ((conv => whnf); (first | with_reducible refine exE _ (w_inc (by omega)) ?_ | refine exR ?_ | refine tT ?_ | refine And.intro rfl ?_ | refine And.intro (a := Go.MapKept.IsKey _ _) trivial ?_ | refine exI _ rfl (by assumption) ?_)))
        refine ⟨i + 1, by omega, by omega, fiE, (by dsimp only; rw [← hs]; exact fiO)⟩
    · have h39 : i = 39 := by omega
      subst h39
      (repeat ((conv => whnf); (first | refine exR ?_ | refine tF ?_)))
      refine NX.to (E' := [(0, strT s), (2, .ref 2 0), (3, .ref 3 0), (4, .ref 4 0)]) (L' := RF 0 [] [] [] (opsL.map strD) (wmap 39) 0 [] 0 []) fiE fiO ?_
      refine NX.vac 801 (hA _ (by decide)) rfl rfl rfl ?_
      refine NX.vac 802 (hA _ (by decide)) rfl rfl rfl ?_
      refine NX.vac 803 (hA _ (by decide)) rfl rfl rfl ?_
      have hSp := splitseq_fn s [10]
      have key : ∀ L0, FitO L0 ([(803, .vac), (802, .vac), (801, .vac)] ++ RF 0 [] [] [] (opsL.map strD) (wmap 39) 0 [] 0 []) → NX Tryz.prog Γ 59 5 lRange [(0, strT s), (2, .ref 2 0), (3, .ref 3 0), (4, .ref 4 0)] L0 (fun e a' w' => match e with | .normal => lR5.wpIn Fence.wide 5 Tryz.prog (RQ Γ (readM s).1 (readM s).2) a' w' | e => RQ Γ (readM s).1 (readM s).2 e a' w') := fun L0 hL0 => by
        refine NX.to (E' := [(0, strT s), (2, .ref 2 0), (3, .ref 3 0), (4, .ref 4 0)]) fiE hL0 ?_
        rw [lRange_split]
        refine NX.seq [] fax_ok hA (by kernel_rfl) fun hbE hbO => ?_
        (repeat ((conv => whnf); refine gO [(801, 801), (802, 802), (803, 803)] (enters_of Tryz.func20 rfl rfl) hSp ?_))
        refine NX.to (E' := (36, seqT) :: lE3) (L' := seqO s [10] ++ RFp startM 0 0 0 [] none [] []) fiE fiO ?_
        refine read_loop s (by omega) hA0 hX hds (Nat.le_refl _) ?_ ?_
        · intro p dn fo ca co v1 v2 v3 a W g D h1 hB hR hsz hr hd hw hD hK hXD
          have h2 := rest_read (p := p) (fun f hf => by have := hB.caught f hf; omega) hA0 hR hsz hr hd hw hD hK hXD
          have e1 : readM s = (if checkM p = 0 then p else ⟨[], [], []⟩, checkM p) := by
            unfold readM
            rw [if_neg hl, h1]
            dsimp only
            split
            · next e => rw [e]
            · rfl
          show lR5.wpIn Fence.wide 5 Tryz.prog (RQ Γ (readM s).1 (readM s).2) a W
          rw [e1]
          exact h2
        · intro a W g D h1 hsz hr hd hw hD hK
          have e1 : readM s = (⟨[], [], []⟩, 4) := by
            unfold readM
            rw [if_neg hl, h1]
          show RQ Γ (readM s).1 (readM s).2 .ret a W
          rw [e1]
          have hfe : FitE lE3 rE2 := fiE
          refine ⟨.inl rfl, g, fun t => hfe.le t g _ (hr t), hw, .inr ⟨D, hd, hD, hK, fun ⟨i, ob, q1, q2⟩ => ?_⟩⟩
          have q3 := hw.obj i ob q1
          rw [obE_obj] at q1
          have := objL_mem q1
          simp only [List.mem_cons, List.mem_nil_iff, or_false, Prod.mk.injEq] at this
          rcases this with ⟨rfl, rfl⟩ | ⟨rfl, rfl⟩
          · obtain ⟨_, -, -, a2, -⟩ := q3
            cases q2
            rw [hK] at a2; cases a2
          · obtain ⟨_, -, -, a2, -⟩ := q3
            cases q2
            rw [hK] at a2; cases a2
      exact fun a w hc => wpIn_seq (wpIn_mono (key _ fiO a w hc) fun e a' w' h => by cases e <;> exact h)
end Go.Proofs.YtddmcmkhjkleoaaGreatDoor
end

section
namespace Go.Proofs.YtddmcmkhjkleoaaGreatDoor

def blankB (c : UInt8) : Bool := c == 32 || c == 9
/-- Words: cur is the one under way. -/
def wordsA : List UInt8 → List UInt8 → List (List UInt8)
  | cur, [] => if cur = [] then [] else [cur]
  | cur, c :: l => if blankB c = true then (if cur = [] then wordsA [] l else cur :: wordsA [] l) else wordsA (cur ++ [c]) l
abbrev Asc (s : List UInt8) : Prop := ∀ c ∈ s, c.toNat < 128
theorem ext_list (l : List UInt8) (a b : Nat) : ((⟨l.toArray⟩ : ByteArray).extract a b).data.toList = (l.drop a).take (b - a) := by
  rw [ByteArray.data_extract, Array.toList_extract]
theorem get_list (l : List UInt8) (i : Nat) : (⟨l.toArray⟩ : ByteArray).get! i = l.getD i 0 := by
  show l.toArray[i]! = _
  simp [List.getD_eq_getElem?_getD, List.getElem!_eq_getElem?_getD]
  rfl
theorem decode_asc (pre : List UInt8) (c : UInt8) (l : List UInt8) (h : c.toNat < 128) : Utf8.decode ⟨(pre ++ c :: l).toArray⟩ pre.length = (c.toNat, 1) := by
  rw [Lib.decode_at]
  have h1 : (⟨(pre ++ c :: l).toArray⟩ : ByteArray).get! pre.length = c := by
    rw [get_list]; simp [List.getD_eq_getElem?_getD]
  rw [h1, Lib.decodeN_ascii _ _ _ _ _ h]
theorem blank_eq (c : UInt8) : blankR c.toNat = blankB c := by
  have h : ∀ d : UInt8, (c == d) = (c.toNat == d.toNat) := fun d => by
    rw [Bool.eq_iff_iff, beq_iff_eq, beq_iff_eq]; exact UInt8.toNat_inj.symm
  unfold blankR blankB
  rw [h, h]; rfl
theorem spans_words : ∀ (r pre cur : List UInt8) (st : Option Nat) (acc : List (Nat × Nat)) (f : Nat), r.length ≤ f → Asc r → (st = none ∧ cur = [] ∨ ∃ a, st = some a ∧ cur = pre.drop a ∧ a < pre.length) →
    (∀ x ∈ acc, x.2 ≤ pre.length) →
    (Lib.closeSpans ⟨(pre ++ r).toArray⟩ (Lib.spansFromP blankR ⟨(pre ++ r).toArray⟩ f pre.length st acc)).map (fun x => ((pre ++ r).drop x.1).take (x.2 - x.1)) = acc.map (fun x => ((pre ++ r).drop x.1).take (x.2 - x.1)) ++ wordsA cur r
  | [], pre, cur, st, acc, f, _, _, hst, _ => by
    rw [Lib.spansFromP_end _ _ _ _ _ _ (by rw [str_size]; simp)]
    unfold Lib.closeSpans
    rcases hst with ⟨rfl, rfl⟩ | ⟨a, rfl, rfl, ha⟩
    · simp [wordsA]
    · have hne : pre.drop a ≠ [] := fun e => by have := congrArg List.length e; simp at this; omega
      simp only [List.map_append, List.map_cons, List.map_nil, wordsA, if_neg hne, str_size, List.append_nil]
      rw [List.take_of_length_le (by rw [List.length_drop]; omega)]
  | c :: l, pre, cur, st, acc, 0, hf, _, _, _ => by simp at hf
  | c :: l, pre, cur, st, acc, f + 1, hf, hA, hst, hacc => by
    have hc := hA c (by simp)
    have hA' : Asc l := fun x hx => hA x (by simp [hx])
    have e : pre ++ c :: l = (pre ++ [c]) ++ l := by simp
    have hl : pre.length + 1 = (pre ++ [c]).length := by simp
    have hsz : pre.length < (⟨(pre ++ c :: l).toArray⟩ : ByteArray).size := by rw [str_size]; simp
    have ih := fun cur st acc => spans_words l (pre ++ [c]) cur st acc f (by simpa using hf) hA'
    have hacc' : ∀ x ∈ acc, x.2 ≤ (pre ++ [c]).length := fun x hx => by have := hacc x hx; rw [← hl]; omega
    unfold Lib.spansFromP
    rw [if_pos hsz, decode_asc pre c l hc]
    dsimp only
    rw [blank_eq, hl, e]
    rw [wordsA]
    cases hb : blankB c with
    | true =>
      rw [if_pos rfl, if_pos rfl]
      rcases hst with ⟨rfl, rfl⟩ | ⟨a, rfl, rfl, ha⟩
      · rw [if_pos rfl]
        exact ih [] none acc (.inl ⟨rfl, rfl⟩) hacc'
      · have hne : pre.drop a ≠ [] := fun e => by have := congrArg List.length e; simp at this; omega
        rw [if_neg hne]
        dsimp only
        rw [ih [] none _ (.inl ⟨rfl, rfl⟩) (fun x hx => by
          rcases List.mem_append.1 hx with hx | hx
          · exact hacc' x hx
          · rw [List.mem_singleton.1 hx]; simp)]
        simp only [List.map_append, List.map_cons, List.map_nil, List.append_assoc, List.cons_append, List.nil_append]
        congr 2
        rw [List.drop_append_of_le_length (by omega), List.take_append_of_le_length (by rw [List.length_drop]; omega), List.take_of_length_le (by rw [List.length_drop]; omega)]
    | false =>
      rw [if_neg (by decide), if_neg (by decide)]
      rcases hst with ⟨rfl, rfl⟩ | ⟨a, rfl, rfl, ha⟩
      · exact ih [c] (some pre.length) acc (.inr ⟨_, rfl, by simp, by simp⟩) hacc'
      · refine ih (pre.drop a ++ [c]) (some a) acc (.inr ⟨_, rfl, ?_, by simp; omega⟩) hacc'
        rw [List.drop_append_of_le_length (by omega)]
theorem fieldsT_words (s : List UInt8) (h : Asc s) : fieldsT s = wordsA [] s := by
  have := spans_words s [] [] none [] s.length (Nat.le_refl _) h (.inl ⟨rfl, rfl⟩) (fun x hx => by cases hx)
  unfold fieldsT Lib.goFieldsP Lib.spansOfP
  rw [List.map_map, str_size]
  simp only [List.nil_append, List.map_nil, List.length_nil] at this
  rw [← this]
  refine List.map_congr_left fun x _ => ?_
  exact ext_list s x.1 x.2
/-! ### Words of texts put together -/
theorem wordsA_plain : ∀ (w cur : List UInt8) (r : List UInt8), (∀ c ∈ w, blankB c = false) → wordsA cur (w ++ r) = wordsA (cur ++ w) r
  | [], cur, r, _ => by simp
  | c :: w, cur, r, h => by
    rw [List.cons_append, wordsA, if_neg (by rw [h c (by simp)]; decide), wordsA_plain w _ r fun x hx => h x (by simp [hx])]
    simp
theorem wordsA_blanks : ∀ (b r : List UInt8), (∀ c ∈ b, blankB c = true) → wordsA [] (b ++ r) = wordsA [] r
  | [], r, _ => rfl
  | c :: b, r, h => by
    rw [List.cons_append, wordsA, if_pos (h c (by simp)), if_pos rfl, wordsA_blanks b r fun x hx => h x (by simp [hx])]
theorem wordsA_end (cur : List UInt8) : ∀ (b : List UInt8), (∀ c ∈ b, blankB c = true) → wordsA cur b = if cur = [] then [] else [cur]
  | [], _ => rfl
  | c :: b, h => by
    have h0 := wordsA_end [] b fun x hx => h x (by simp [hx])
    rw [wordsA, if_pos (h c (by simp)), h0]
    split <;> rfl
theorem wordsA_sp (cur r : List UInt8) (h : cur ≠ []) : wordsA cur (32 :: r) = cur :: wordsA [] r := by
  rw [wordsA, if_pos (show blankB 32 = true from by decide), if_neg h]
/-- Blanks behind a line are nothing. -/
theorem wordsA_tail : ∀ (l cur b : List UInt8), (∀ c ∈ b, blankB c = true) → wordsA cur (l ++ b) = wordsA cur l
  | [], cur, b, h => by rw [List.nil_append, wordsA_end cur b h]; rfl
  | c :: l, cur, b, h => by
    rw [List.cons_append, wordsA, wordsA, wordsA_tail l [] b h, wordsA_tail l (cur ++ [c]) b h]
end Go.Proofs.YtddmcmkhjkleoaaGreatDoor
end

section
namespace Go.Proofs.YtddmcmkhjkleoaaGreatDoor

theorem pm_step (M acc d : Nat) (r : List UInt8) (hd : d < 10) (ha : acc < 1844674407370955162) (hm : acc * 10 + d ≤ M) : Lib.parseUintM M acc (UInt8.ofNat (48 + d) :: r) = Lib.parseUintM M (acc * 10 + d) r := by
  have e : (UInt8.ofNat (48 + d)).toNat = 48 + d := by rw [UInt8.toNat_ofNat']; omega
  rw [Lib.parseUintM, e, if_pos (by omega), if_neg (by omega), if_neg (by omega), show 48 + d - 48 = d by omega]
theorem pm_dec (M : Nat) (hM : M < 18446744073709551616) (u : Nat) : ∀ r : List UInt8, u ≤ M → Lib.parseUintM M 0 (Lib.decDigits u ++ r) = Lib.parseUintM M u r := by
  induction u using Nat.strongRecOn with
  | _ u ih =>
    intro r h
    rw [Lib.decDigits]
    by_cases h1 : u < 10
    · rw [dif_pos h1]
      have := pm_step M 0 u r h1 (by decide) (by omega)
      rw [show 0 * 10 + u = u by omega] at this
      exact this
    · rw [dif_neg h1, List.append_assoc, ih (u / 10) (by omega) _ (by omega)]
      have := pm_step M (u / 10) (u % 10) r (by omega) (by omega) (by omega)
      rw [show u / 10 * 10 + u % 10 = u by omega] at this
      exact this
theorem dec_head (u : Nat) : ∃ c r, Lib.decDigits u = c :: r ∧ 48 ≤ c.toNat ∧ c.toNat ≤ 57 := by
  induction u using Nat.strongRecOn with
  | _ u ih =>
    rw [Lib.decDigits]
    by_cases h1 : u < 10
    · rw [dif_pos h1]
      have e : (UInt8.ofNat (48 + u)).toNat = 48 + u := by rw [UInt8.toNat_ofNat']; omega
      exact ⟨_, [], rfl, by omega, by omega⟩
    · rw [dif_neg h1]
      obtain ⟨c, r, h2, h3⟩ := ih (u / 10) (by omega)
      exact ⟨c, r ++ [UInt8.ofNat (48 + u % 10)], by rw [h2]; rfl, h3⟩
theorem parse_itoa (n : Int) (h1 : -9223372036854775808 ≤ n) (h2 : n ≤ 9223372036854775807) : Lib.parseIntB 64 (Lib.itoa n) = .ok n := by
  unfold Lib.itoa
  by_cases h : n < 0
  · rw [if_pos h]
    obtain ⟨c, r, hc, -, -⟩ := dec_head n.natAbs
    have hp := pm_dec (2 ^ 64 - 1) (by decide) n.natAbs [] (by omega)
    rw [List.append_nil] at hp
    have hu : Lib.parseUintB 64 (Lib.decDigits n.natAbs) = .ok n.natAbs := by
      unfold Lib.parseUintB
      rw [if_neg (by rw [hc]; simp), hp]
      rfl
    have e45 : (45 : UInt8).toNat = 45 := rfl
    simp only [Lib.parseIntB, e45, or_true, if_true, hu, not_true, false_and, if_false, true_and]
    rw [if_neg (by omega)]
    exact congrArg _ (by omega)
  · rw [if_neg h]
    obtain ⟨c, r, hc, h3, h4⟩ := dec_head n.toNat
    have hp := pm_dec (2 ^ 64 - 1) (by decide) n.toNat [] (by omega)
    rw [List.append_nil] at hp
    have hu : Lib.parseUintB 64 (Lib.decDigits n.toNat) = .ok n.toNat := by
      unfold Lib.parseUintB
      rw [if_neg (by rw [hc]; simp), hp]
      rfl
    rw [hc] at hu ⊢
    have e45 : ¬ (c.toNat = 45) := by omega
    have e43 : ¬ (c.toNat = 43) := by omega
    simp only [Lib.parseIntB, e45, e43, or_self, if_false, hu, not_false_eq_true, true_and, false_and]
    rw [if_neg (by omega)]
    exact congrArg _ (by omega)
end Go.Proofs.YtddmcmkhjkleoaaGreatDoor
end
