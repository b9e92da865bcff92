/-
  The walk of uses.
-/
import Derived.Test.YtjabhkpifpcccaaRun
import Derived.Test.YtjabhkpifpcccaaDeps
import Derived.Test.YtjabhkpifpcccaaBools
namespace Go.Proofs.Ytjabhkpifpcccaa
open Go.RowKit

/-- Who put last into y, ahead of line k. -/
def lastTo (l : List Ln) : Nat → Int → Option Nat
  | 0, _ => none
  | k + 1, y => if y = (l.getD k .z).t then some k else lastTo l k y
def useOf (L : Int → Option Nat) (x : Ln) (y : Int) : List Int := if x.o < 3 then (match L y with | some n => [(n : Int)] | none => []) else []
def usesL (l : List Ln) (k : Nat) : List Int := useOf (lastTo l k) (l.getD k .z) (l.getD k .z).a ++ useOf (lastTo l k) (l.getD k .z) (l.getD k .z).b
theorem useOf_len (L : Int → Option Nat) (x : Ln) (y : Int) : (useOf L x y).length ≤ 1 := by
  unfold useOf
  split
  · split <;> simp
  · simp
def LastIs (w : World) (b n : Nat) (L : Int → Option Nat) : Prop := ∃ G, MapIs Try.prog w 3 b n G ∧ ∀ x, G (.int .i64 x) = (L x).map fun k => .int .i64 (k : Int)
theorem LastIs.of_heap {w w' : World} {b n : Nat} {L : Int → Option Nat} (h : LastIs w b n L) (e : w'.heap[b]? = w.heap[b]?) : LastIs w' b n L := by
  obtain ⟨G, h1, h2⟩ := h
  exact ⟨G, h1.of_heap e, h2⟩
theorem LastIs.lt {w : World} {b n : Nat} {L : Int → Option Nat} (h : LastIs w b n L) : b < w.heap.size := by obtain ⟨G, h1, h2⟩ := h; exact h1.lt
theorem LastIs.put {w : World} {b n : Nat} {l : List Ln} {k : Nat} {G : Value → Option Value} (h2 : ∀ x, G (.int .i64 x) = (lastTo l k x).map fun k => .int .i64 (k : Int)) (h : MapIs Try.prog w 3 b n (putG G (.int .i64 (l.getD k .z).t) (.int .i64 (k : Int)))) : LastIs w b n (lastTo l (k + 1)) := by
  refine ⟨_, h, fun y => ?_⟩
  show _ = (if y = (l.getD k .z).t then some k else lastTo l k y).map _
  by_cases hy : y = (l.getD k .z).t
  · subst hy; rw [putG_same, if_pos rfl]; rfl
  · rw [putG_other _ _ (fun e => hy (by simpa using e)), if_neg hy, h2]
theorem infoD : (Try.prog.info? 35).map (fun i => (i.zero, i.size, i.bytes)) = some (some (.agg #[.slice none 0 0]), 1, 24) := by kernel_rfl
/-- The row of slices at O. -/
abbrev RowD (w : World) (base O : Nat) (ps : List Pt) : Prop := w.ownsRow base 35 1 (.slice (some ⟨O, 0, none⟩) ps.length ps.length) ps.length (pts ps)
theorem pts_set (ps : List Pt) (i : Nat) (x : Pt) : (pts ps).set i x.val = pts (ps.set i x) := by simp [pts, List.map_set]
theorem RowD.set {w : World} {base O : Nat} {ps : List Pt} (h : RowD w base O ps) (i : Nat) (x : Pt) : RowD (w.setCell ⟨O, i, none⟩ x.val) base O (ps.set i x) := by
  have := (World.ownsRow.stored h i x.val).1
  rw [pts_set] at this
  unfold RowD
  rwa [List.length_set]
theorem RowD.cell {w : World} {base O : Nat} {ps : List Pt} (h : RowD w base O ps) {i : Nat} (hi : i < ps.length) : w.cell? ⟨O, i, none⟩ = some (ps.getD i .none).val := (World.ownsRow.cellAt h i (by omega)).trans (pts_get hi)
theorem madeD (n : Nat) : (madeCells (Value.agg #[.slice none 0 0]).cells (n * 1)).toList = pts (List.replicate n .none) := by
  rw [Nat.mul_one, show (Value.agg #[.slice none 0 0]).cells = #[Value.slice none 0 0] from rfl, toList_madeCells_one]
  simp [pts, Pt.val]
theorem ptOk_none (w : World) : PtOk w .none := Sl.zero _ _
theorem getD_set_ne {ps : List Pt} {i j : Nat} {x : Pt} (h : i ≠ j) : (ps.set i x).getD j .none = ps.getD j .none := by
  rw [List.getD_eq_getElem?_getD, List.getElem?_set_ne h, List.getD_eq_getElem?_getD]
theorem getD_set_eq {ps : List Pt} {i : Nat} {x : Pt} (h : i < ps.length) : (ps.set i x).getD i .none = x := by
  rw [List.getD_eq_getElem?_getD, List.getElem?_set_self h]; rfl
/-- What the outer loop keeps. -/
structure UseI (w wr : World) (l : List Ln) (k : Nat) (ps : List Pt) : Prop where
  len : ps.length = l.length
  row : RowD wr w.heap.size (w.heap.size + 1) ps
  each : ∀ j, j < l.length → PtOk wr (ps.getD j .none)
  far : ∀ j, j < l.length → ∀ a, (ps.getD j .none).p = some a → w.heap.size + 1 < a.block
  done : ∀ j, j < k → (ps.getD j .none).l = usesL l j
  rest : ∀ j, k ≤ j → ps.getD j .none = .none
  last : LastIs wr w.heap.size k (lastTo l k)
  bel : Below w.heap.size w wr

theorem own_of_heap {w w' : World} {base g n cap size : Nat} {e : TypeId} {xs : List Value} (h : w.ownsRow base e size (.slice (some ⟨g, 0, none⟩) n cap) n xs) (he : w'.heap[g]? = w.heap[g]?) : w'.ownsRow base e size (.slice (some ⟨g, 0, none⟩) n cap) n xs := by
  refine ⟨h.1, ?_⟩
  rcases h.2 with ⟨h', _⟩ | ⟨g', cap', cur, h', hb, hg, rest⟩
  · simp at h'
  · have h2 := h'
    simp only [Value.slice.injEq, Option.some.injEq, Addr.mk.injEq, and_true, true_and] at h2
    obtain ⟨rfl, rfl⟩ := h2
    exact .inr ⟨g, cap, cur, rfl, hb, he.trans hg, rest⟩
theorem RowD.set' {w : World} {base O : Nat} {ps : List Pt} {i : Nat} {x : Pt} {v : Value} (h : RowD w base O (ps.set i x)) (y : Pt) (hv : v = y.val) : RowD (w.setCell ⟨O, i, none⟩ v) base O (ps.set i y) := by
  subst hv
  have := RowD.set h i y
  rwa [List.set_set] at this

set_option maxRecDepth 100000 in
set_option maxHeartbeats 4000000 in
theorem uses_any {w : World} {p : Option Addr} {cap : Nat} {l : List Ln} (hR : Sl w 4 p l.length cap (lns l)) (hwf : ∀ x ∈ l, x.Wf) (h200 : l.length ≤ 200) :
    Calls Try.prog 17 #[.slice p l.length cap] w fun e w' => ∃ q c ps, e = .returned (.slice q ps.length c) ∧ Deps w' q c ps ∧ ps.length = l.length ∧ (∀ j, j < l.length → (ps.getD j .none).l = usesL l j) ∧ Below w.heap.size w w' := by
  have hmm := @run_makeMap Try.prog
  obtain ⟨i0, hi, hz0, hz1, hz2⟩ := info_parts infoI
  obtain ⟨iD, hiD, dz0, dz1, dz2⟩ := info_parts infoD
  go_enter Try.func17, Try.ntmps17
  go_wp2_with (at_make; refine wpList_make_full _ rfl _ _ 30 rfl w.heap.size 35 iD (.agg #[.slice none 0 0]) 1 Try.underlying30 hiD dz0 dz1 .i64 .i64 _ _ l.length rfl rfl rfl rfl (by rw [dz2]; omega) (by unfold maxLen; omega) (by simp) ?_; intro w1 hown hg)
  have hI0 : ∃ ps, UseI w w1 l 0 ps := by
    rw [madeD] at hown
    have hb : Below w.heap.size w (w.alloc (.map #[] 0)) := (Below.refl _ w).alloc (Nat.le_refl _) _
    have hl0 : LastIs (w.alloc (.map #[] 0)) w.heap.size 0 (lastTo l 0) := ⟨_, mapIs_made w Try.prog 3, fun x => rfl⟩
    refine ⟨List.replicate l.length .none, by simp, ?_, ?_, ?_, ?_, ?_, ?_, ?_⟩
    · simpa [RowD] using hown
    · intro j hj; rw [List.getD_eq_getElem?_getD, List.getElem?_replicate]; split <;> exact ptOk_none _
    · intro j hj a ha; rw [List.getD_eq_getElem?_getD, List.getElem?_replicate] at ha; split at ha <;> cases ha
    · intro j hj; omega
    · intro j hj; rw [List.getD_eq_getElem?_getD, List.getElem?_replicate]; split <;> rfl
    · exact hl0.of_heap (hg.block _ hl0.lt (by simp))
    · exact hb.trans ((below_of_none hg).mono (by simp))
  obtain ⟨ps0, hI0⟩ := hI0
  clear hown hg hmm
  go_wp2_with fail
  go_loopw [17] (fun s wr => ∃ (k : Nat) (ps : List Pt), k ≤ l.length ∧ s = .int .i64 (k : Nat) ∧ UseI w wr l k ps) (fun s _ => l.length - (intOf s).toNat)
  case atStart => exact ⟨0, ps0, Nat.zero_le _, rfl, hI0⟩
  case round =>
    clear hI0
    obtain ⟨k, ps, hk, rfl, hI⟩ := hrel
    rcases Nat.lt_or_ge k l.length with hlt | hge
    · have hlt' : (k : Int) < (l.length : Int) := by omega
      obtain ⟨bk, off, rfl, hbk, hL⟩ := hR.lns_ptr hlt
      have hL' := hL.below hI.bel hbk
      have hwx := hwf (l.getD k .z) (by rw [List.getD_eq_getElem?_getD, List.getElem?_eq_getElem hlt]; exact List.getElem_mem _)
      have hus : usesL l k = useOf (lastTo l k) (l.getD k .z) (l.getD k .z).a ++ useOf (lastTo l k) (l.getD k .z) (l.getD k .z).b := rfl
      have hput := fun (w' : World) (n : Nat) (G : Value → Option Value) h2 (h : MapIs Try.prog w' 3 w.heap.size n (putG G (.int .i64 (l.getD k .z).t) (.int .i64 (k : Int)))) => LastIs.put (k := k) (l := l) h2 h
      have hlk : ∀ y, ∀ m, lastTo l k y = some m → m < k := by
        have : ∀ k y m, lastTo l k y = some m → m < k := by
          intro k
          induction k with
          | zero => intro y m h; cases h
          | succ k ih => intro y m h; unfold lastTo at h; split at h
                         · cases h; omega
                         · have := ih y m h; omega
        exact this k
      have Hus := Lib.hid hus; have Hput := Lib.hid hput; have Hlk := Lib.hid hlk; clear hus hput hlk hL
      generalize l.getD k .z = x at *
      obtain ⟨xt, xo, xa, xb⟩ := x
      obtain ⟨e0, e1, e2, e3⟩ := hL'
      dsimp only at *
      have hz := hI.bel.size
      go_wp2_with fail
      have hal := ((Below.refl wr.heap.size wr).alloc (Nat.le_refl _) (.cells #[.int .i64 xt, .int .i64 xo, .int .i64 xa, .int .i64 xb] 41)).alloc (by simp) (.cells #[.int .i64 xa, .int .i64 xb] 3)
      have hX := (Blk.mk_ wr #[.int .i64 xt, .int .i64 xo, .int .i64 xa, .int .i64 xb] 41 rfl).alloc (.cells #[.int .i64 xa, .int .i64 xb] 3)
      have hAB : Blk ((wr.alloc (.cells #[.int .i64 xt, .int .i64 xo, .int .i64 xa, .int .i64 xb] 41)).alloc (.cells #[.int .i64 xa, .int .i64 xb] 3)) (wr.heap.size + 1) #[.int .i64 xa, .int .i64 xb] 3 := Blk.mk_ _ _ 3 (by simp)
      have hrow1 : RowD ((wr.alloc (.cells #[.int .i64 xt, .int .i64 xo, .int .i64 xa, .int .i64 xb] 41)).alloc (.cells #[.int .i64 xa, .int .i64 xb] 3)) w.heap.size (w.heap.size + 1) ps := own_below hI.row hal
      have heach1 := fun j hj => Sl.below (hI.each j hj) hal
      have hlast1 := hI.last.of_heap (hal.block _ hI.last.lt)
      have hbel1 := hI.bel.trans (hal.mono hz)
      have hfar := hI.far
      have hdone := hI.done
      have hrest := hI.rest
      have hlen := hI.len
      have hOlt : w.heap.size + 1 < wr.heap.size := (World.ownsRow.lt hI.row _ rfl).2
      have hzs : ((wr.alloc (.cells #[.int .i64 xt, .int .i64 xo, .int .i64 xa, .int .i64 xb] 41)).alloc (.cells #[.int .i64 xa, .int .i64 xb] 3)).heap.size = wr.heap.size + 1 + 1 := by simp
      generalize wr.heap.size = Bx at *
      generalize (wr.alloc (.cells #[.int .i64 xt, .int .i64 xo, .int .i64 xa, .int .i64 xb] 41)).alloc (.cells #[.int .i64 xa, .int .i64 xb] 3) = W1 at *
      clear hI hal e0 e1 e2 e3
      have hO1 : w.heap.size + 1 < W1.heap.size := by omega
      have HF := Lib.hid hfar; have HDn := Lib.hid hdone; have HRs := Lib.hid hrest; have HLn := Lib.hid hlen; have HZ := Lib.hid hzs; have HE := Lib.hid heach1
      clear hfar hdone hrest hlen hzs heach1
      obtain ⟨G, hM1, hG⟩ := hlast1
      have HG := Lib.hid hG; clear hG
      go_loopw [28] (fun s wr2 => ∃ (j : Nat) (u : List Int) (pu : Option Addr) (cu : Nat), j ≤ 2 ∧ s = .int .i64 (j : Nat) ∧ u.length ≤ j ∧
          Hid (u = ((if 1 ≤ j then useOf (lastTo l k) ⟨xt, xo, xa, xb⟩ xa else []) ++ (if 2 ≤ j then useOf (lastTo l k) ⟨xt, xo, xa, xb⟩ xb else []))) ∧
          RowD wr2 w.heap.size (w.heap.size + 1) (ps.set k ⟨pu, cu, u⟩) ∧ wr2.ownsRow W1.heap.size 3 1 (.slice pu u.length cu) u.length (ints .i64 u) ∧ W1.grownBy wr2 (some (w.heap.size + 1))) (fun s _ => 2 - (intOf s).toNat)
      case atStart =>
        refine ⟨0, [], none, 0, by omega, rfl, by simp, rfl, ?_, World.ownsRow_nil _ _ _ _, World.grownBy.refl _ _⟩
        have e : ps.set k ⟨none, 0, []⟩ = ps := by
          apply List.ext_getElem?
          intro j
          by_cases hj : k = j
          · subst hj
            have h1 := HRs.out k (Nat.le_refl _)
            rw [List.getD_eq_getElem?_getD] at h1
            have hkl : k < ps.length := by rw [HLn.out]; exact hlt
            rw [List.getElem?_set_self hkl, List.getElem?_eq_getElem hkl]
            rw [List.getElem?_eq_getElem hkl] at h1
            exact congrArg some h1.symm
          · rw [List.getElem?_set_ne hj]
        rw [e]; exact hrow1
      case round =>
        obtain ⟨j, u, pu, cu, hj, rfl, hul, hu, hrow, hown, hgr⟩ := hrel
        have hzg := hgr.size
        have hX2 : Blk wr Bx #[.int .i64 xt, .int .i64 xo, .int .i64 xa, .int .i64 xb] 41 := (hgr.block Bx hX.lt (by first | (simp; done) | (simp; omega))).trans hX
        have hAB2 : Blk wr (Bx + 1) #[.int .i64 xa, .int .i64 xb] 3 := (hgr.block _ hAB.lt (by first | (simp; done) | (simp; omega))).trans hAB
        have hM2 : MapIs Try.prog wr 3 w.heap.size k G := hM1.of_heap (hgr.block _ hM1.lt (by first | (simp; done) | (simp; omega)))
        have hkl : k < ps.length := by rw [HLn.out]; exact hlt
        have hx1 : wr.cell? ⟨Bx, 1, none⟩ = some (.int .i64 xo) := hX2.cell 1
        have hrc : wr.cell? ⟨w.heap.size + 1, k, none⟩ = some (.slice pu u.length cu) := by
          rw [hrow.cell (by simpa using hkl), getD_set_eq hkl]
        rcases Nat.lt_or_ge j 2 with hj2 | hj2
        · obtain ⟨y, kl, hy, hkl', hsn⟩ : ∃ y kl, wr.cell? ⟨Bx + 1, j, none⟩ = some (.int .i64 y) ∧ keyOf Try.prog 3 (.int .i64 y) = some kl ∧
              u ++ useOf (lastTo l k) ⟨xt, xo, xa, xb⟩ y = ((if 1 ≤ j + 1 then useOf (lastTo l k) ⟨xt, xo, xa, xb⟩ xa else []) ++ (if 2 ≤ j + 1 then useOf (lastTo l k) ⟨xt, xo, xa, xb⟩ xb else [])) := by
            rcases (by omega : j = 0 ∨ j = 1) with rfl | rfl
            · obtain ⟨kl, h⟩ := keyI hwx.a
              exact ⟨xa, kl, hAB2.cell 0, h, by rw [hu.out]; simp⟩
            · obtain ⟨kl, h⟩ := keyI hwx.b
              exact ⟨xb, kl, hAB2.cell 1, h, by rw [hu.out]; simp⟩
          have hla := hM2.look true keyedI Try.underlying44 (Try.zeroValue3 wr) hkl'
          rw [HG.out y] at hla
          simp only [if_true] at hla
          have hj2' : (j : Int) < 2 := by omega
          have Hsn := Lib.hid hsn; clear hsn hkl'
          cases hL : lastTo l k y with
          | none =>
            have hsn := Hsn.out
            have hu0 : useOf (lastTo l k) ⟨xt, xo, xa, xb⟩ y = [] := by unfold useOf; rw [hL]; simp
            rw [hu0, List.append_nil] at hsn
            have HS2 := Lib.hid hsn
            rw [hL] at hla
            simp only [Option.map_none, Option.getD_none, Option.isSome_none] at hla
            clear hsn Hsn hu0 hL hu
            go_wp2_with fail
            go_roundw
            case rel => exact ⟨j + 1, u, pu, cu, by omega, by go_num, by omega, HS2.out, hrow, hown, hgr⟩
            case measure => simp [intOf]; omega
          | some m =>
            have hmk := Hlk.out y m hL
            rw [hL] at hla
            simp only [Option.map_some, Option.getD_some, Option.isSome_some] at hla
            by_cases ho : xo < 3
            · have hu1 : useOf (lastTo l k) ⟨xt, xo, xa, xb⟩ y = [(m : Int)] := by unfold useOf; rw [hL, if_pos ho]
              have hsn := Hsn.out
              rw [hu1] at hsn
              have HS2 := Lib.hid hsn
              clear hsn Hsn hu1 hL hu
              have hO3 : w.heap.size + 1 < wr.heap.size := by omega
              have hfz := World.ownsRow.frozenAt hrow k
              have hal3 := (Below.refl wr.heap.size wr).alloc (Nat.le_refl _) (.cells #[.int .i64 (m : Int)] 3)
              go_wp2_with (at_builtin; refine wpList_append_sl _ rfl _ _ 31 rfl W1.heap.size 3 i0 (.int .i64 0) 1 8 Try.underlying31 hi hz0 hz1 hz2 rfl (by decide) _ _ _ rfl (own_below hown hal3) _ 1 1 (ints .i64 [(m : Int)]) rfl (lit_sl wr [(m : Int)] (by simp) #[.int .i64 (m : Int)] rfl _ rfl 1 rfl) ints_one (by omega) (by omega) (by simp; omega) ?_; intro p' c' w3 hown3 hb3; have hc3 := (hb3.cell (p := ⟨w.heap.size + 1, k, none⟩) hO1).trans ((hal3.cell (p := ⟨w.heap.size + 1, k, none⟩) hO3).trans hrc); have hf3 := (hb3.frozen (p := ⟨w.heap.size + 1, k, none⟩) hO1).trans ((hal3.frozen (p := ⟨w.heap.size + 1, k, none⟩) hO3).trans hfz))
              have hro3 : RowD w3 w.heap.size (w.heap.size + 1) (ps.set k ⟨pu, cu, u⟩) := own_of_heap hrow ((hb3.block _ hO1).trans (hal3.block _ hO3))
              have hg3 : W1.grownBy w3 (some (w.heap.size + 1)) := ⟨hb3.os.trans hgr.os, hb3.tape.trans hgr.tape, hb3.output.trans hgr.output, Nat.le_trans hzg (Nat.le_trans hal3.size hb3.size), fun n hn hne => (hb3.block n hn).trans ((hal3.block n (Nat.lt_of_lt_of_le hn hzg)).trans (hgr.block n hn hne))⟩
              have hse := grown_set w3 (w.heap.size + 1) k (.slice p' (u.length + 1) c')
              have hro4 := RowD.set' hro3 (v := .slice p' (u.length + 1) c') ⟨p', c', u ++ [(m : Int)]⟩ (by simp [Pt.val])
              have hown4 := hown3.kept hse (by
                cases hob : (Value.slice p' (u.length + 1) c').ownBlock with
                | none => exact .inl rfl
                | some g => exact .inr (by have := (hown3.lt g hob).1; simp; omega))
              rw [← ints_append] at hown4
              have hlu : u.length + 1 = (u ++ [(m : Int)]).length := by simp
              have Hlu := Lib.hid hlu; clear hlu
              go_roundw
              case rel => exact ⟨j + 1, u ++ [(m : Int)], p', c', by omega, by go_num, by rw [← Hlu.out]; omega, HS2.out, hro4, by rw [← Hlu.out]; exact hown4, grown_trans hg3 hse⟩
              case measure => simp [intOf]; omega
            · have hu1 : useOf (lastTo l k) ⟨xt, xo, xa, xb⟩ y = [] := by unfold useOf; rw [if_neg ho]
              have hsn := Hsn.out
              rw [hu1, List.append_nil] at hsn
              have HS2 := Lib.hid hsn
              clear hsn Hsn hu1 hL hu
              go_wp2_with fail
              go_roundw
              case rel => exact ⟨j + 1, u, pu, cu, by omega, by go_num, by omega, HS2.out, hrow, hown, hgr⟩
              case measure => simp [intOf]; omega
        · obtain rfl : j = 2 := by omega
          have hx0 : wr.cell? ⟨Bx, 0, none⟩ = some (.int .i64 xt) := hX2.cell 0
          obtain ⟨kt, hkt⟩ := keyI hwx.t
          have hMl := hM2.lt
          have hro := hrow
          have Hro := Lib.hid hro; have Hown := Lib.hid hown; have Hgr := Lib.hid hgr
          clear hrow hown hgr hrc hx1 hX2 hAB2 hX hAB hro
          go_wp2_with (at_mapUpdate; refine wpList_mapUpdate_is rfl _ _ _ 44 rfl 3 keyedI Try.underlying44 rfl hM2 (by unfold maxLen; omega) (.int .i64 xt) _ kt rfl rfl hkt ?_; intro w5 hmap5 hg5)
          go_roundw
          case rel =>
            have hrow := Hro.out; have hown := Hown.out; have hgr := Hgr.out
            have hbw := below_of_grown hbel1 hgr hbel1.size (by omega)
            have hOw : w.heap.size + 1 < wr.heap.size := by omega
            have hne : ∀ j, j < l.length → j ≠ k → 0 < (ps.getD j .none).l.length → ∀ a, (ps.getD j .none).p = some a → a.block ≠ w.heap.size + 1 ∧ a.block ≠ w.heap.size := fun j hj _ _ a ha => by
              have := HF.out j hj a ha; omega
            refine ⟨k + 1, ps.set k ⟨pu, cu, u⟩, by omega, by go_num, ?_⟩
            refine ⟨by simpa using HLn.out, own_of_heap hrow (hg5.block _ hOw (by simp)), fun j hj => ?_, fun j hj a ha => ?_, fun j hj => ?_, fun j hj => ?_, Hput.out w5 (k + 1) G HG.out hmap5, below_of_grown hbw hg5 hbw.size (Nat.le_refl _)⟩
            · by_cases e : k = j
              · subst e
                rw [getD_set_eq hkl]
                exact Sl.kept (Sl.of_own hown) hg5 (fun _ a ha => by have := own_ge hown a ha; omega)
              · rw [getD_set_ne e]
                have h1 := Sl.kept (HE.out j hj) hgr (fun h a ha => (hne j hj (fun h => e h.symm) (by simpa using h) a ha).1)
                exact Sl.kept h1 hg5 (fun h a ha => (hne j hj (fun h => e h.symm) (by simpa using h) a ha).2)
            · by_cases e : k = j
              · subst e
                rw [getD_set_eq hkl] at ha
                have := own_ge hown a ha; omega
              · rw [getD_set_ne e] at ha
                exact HF.out j hj a ha
            · by_cases e : k = j
              · subst e
                rw [getD_set_eq hkl, Hus.out]
                have := hu.out
                simpa using this
              · rw [getD_set_ne e]
                exact HDn.out j (by omega)
            · rw [getD_set_ne (by omega)]
              exact HRs.out j (by omega)
          case measure => simp [intOf]; omega
    · obtain rfl : k = l.length := by omega
      have hlen := hI.len
      have hrow := hI.row
      unfold RowD at hrow
      have Hlen := Lib.hid hlen; have HI := Lib.hid hI; clear hlen hI hrow
      go_wp2_with fail
      go_ret
      have hI := HI.out
      refine ⟨some ⟨w.heap.size + 1, 0, none⟩, l.length, ps, by rw [Hlen.out]; rfl, ⟨?_, fun i hi => hI.each i (by rw [← Hlen.out]; exact hi)⟩, Hlen.out, fun j hj => hI.done j hj, hI.bel⟩
      have := Sl.of_own hI.row
      rw [Hlen.out] at this ⊢
      exact this
end Go.Proofs.Ytjabhkpifpcccaa
