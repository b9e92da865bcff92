/-
  into: all places that lead to one, and it.
-/
import Derived.Test.YtiaaoajnecppnaaIt
import Derived.Test.YtiaaoajnecppnaaHasC
import Derived.Test.YtiaaoajnecppnaaSortJ
import Derived.RangeFuncBound
import Derived.Maps.AppendAt
namespace Go.Proofs.Ytiaaoajnecppnaa
open Go.RowKit Go.Shelf
attribute [local go_sem] Oper.semAt_some

def inStep (out : List Int) (d : Dp) : List Int := if d.j ∈ out ∧ d.i ∉ out then out ++ [d.i] else out
def inF (n : Int) (pre : List (Nat × Dp)) : List Int := (pre.map (·.2)).foldl inStep [n]
theorem inF_snoc (n : Int) (pre : List (Nat × Dp)) (x : Nat × Dp) : inF n (pre ++ [x]) = inStep (inF n pre) x.2 := by simp [inF, List.foldl_append]
theorem inStep_len (out : List Int) (d : Dp) : (inStep out d).length ≤ out.length + 1 := by unfold inStep; split <;> simp
theorem inF_len (n : Int) (pre : List (Nat × Dp)) : (inF n pre).length ≤ pre.length + 1 := by
  have key : ∀ (l : List Dp) (o : List Int), (l.foldl inStep o).length ≤ o.length + l.length := by
    intro l
    induction l with
    | nil => intro o; simp
    | cons d l ih => intro o; have h1 := ih (inStep o d); have h2 := inStep_len o d; simp only [List.foldl_cons, List.length_cons]; omega
  have := key (pre.map (·.2)) [n]
  unfold inF
  simp at this ⊢
  omega
theorem inF_pos (n : Int) (pre : List (Nat × Dp)) : 1 ≤ (inF n pre).length := by
  have key : ∀ (l : List Dp) (o : List Int), o.length ≤ (l.foldl inStep o).length := by
    intro l
    induction l with
    | nil => intro o; exact Nat.le_refl _
    | cons d l ih =>
      intro o
      have h1 := ih (inStep o d)
      have h2 : o.length ≤ (inStep o d).length := by unfold inStep; split <;> simp
      simp only [List.foldl_cons]; omega
  exact key _ [n]
def intoL (es : List Dp) (n : Int) : List Int := (es.reverse.foldl inStep [n]).mergeSort fun x y => decide (x ≤ y)
theorem infoIn : (Try.prog.info? 3).map (fun i => (i.zero, i.size, i.bytes)) = some (some (.int .i64 0), 1, 8) := by kernel_rfl
theorem ints_snoc (l : List Int) (x : Int) : ints .i64 (l ++ [x]) = ints .i64 l ++ [.int .i64 x] := by simp [ints]

set_option maxRecDepth 100000 in
set_option maxHeartbeats 2000000 in
theorem into_any (p : Option Addr) (cap : Nat) (l : List Dp) (n : Int) (w : World) (hl : l.length ≤ 90000) (hS : Sl w 2 p l.length cap (dps l)) :
    Calls Try.prog 20 #[.slice p l.length cap, .int .i64 n] w fun e w' => ∃ q c, e = .returned (.slice q (intoL l n).length c) ∧ w'.ownsRow w.heap.size 3 1 (.slice q (intoL l n).length c) (intoL l n).length (ints .i64 (intoL l n)) ∧ Below w.heap.size w w' := by
  obtain ⟨i0, hi, hz0, hz1, hz2⟩ := info_parts infoIn
  refine (callsIn_wide (n := 5)).1 ?_
  refine callsIn_of_wp_marks Try.func20 rfl trivial ?_ rfl
  simp only [Try.ntmps20, List.size_toArray, List.length_cons, List.length_nil, Nat.reduceAdd, Nat.reduceSub, Array.replicate_succ, Array.replicate_zero, List.push_toArray, List.append_toArray, List.nil_append, List.cons_append]
  gi_wp2_with (refine ⟨trivial, ?_⟩; refine (back_in _ _ trivial rfl _ _ _ _).mono ?_; rintro _ w2 ⟨rfl, rfl⟩)
  have bO : Boxed ((w.alloc (.cells #[.int .i64 n] 3)).alloc (.cells #[.slice (some ⟨w.heap.size, 0, none⟩) 1 1] 23)) (w.heap.size + 1) 23 (.slice (some ⟨w.heap.size, 0, none⟩) 1 1) := by
    have := Boxed.new (w.alloc (.cells #[.int .i64 n] 3)) 23 (.slice (some ⟨w.heap.size, 0, none⟩) 1 1)
    rwa [World.size_alloc] at this
  have r0 : (w.alloc (.cells #[.int .i64 n] 3)).ownsRow w.heap.size 3 1 (.slice (some ⟨w.heap.size, 0, none⟩) 1 1) 1 [.int .i64 n] :=
    ⟨rfl, .inr ⟨w.heap.size, 1, _, rfl, Nat.le_refl _, (Go.MapKept.heap_alloc w _).1, Nat.le_refl _, by unfold maxLen; omega, rfl, rfl⟩⟩
  have d5 := Blk.mk_ ((w.alloc (.cells #[.int .i64 n] 3)).alloc (.cells #[.slice (some ⟨w.heap.size, 0, none⟩) 1 1] 23)) #[.slice p l.length cap] 28 (show _ = w.heap.size + 1 + 1 by simp)
  have bO' := bO.alloc (.cells #[.slice p l.length cap] 28)
  have r0' := (r0.alloc (.cells #[.slice (some ⟨w.heap.size, 0, none⟩) 1 1] 23)).alloc (.cells #[.slice p l.length cap] 28)
  have hBl : Below w.heap.size w (((w.alloc (.cells #[.int .i64 n] 3)).alloc (.cells #[.slice (some ⟨w.heap.size, 0, none⟩) 1 1] 23)).alloc (.cells #[.slice p l.length cap] 28)) := (((Below.refl _ w).alloc (Nat.le_refl _) _).alloc (by simp) _).alloc (by simp; omega) _
  have hsz : (((w.alloc (.cells #[.int .i64 n] 3)).alloc (.cells #[.slice (some ⟨w.heap.size, 0, none⟩) 1 1] 23)).alloc (.cells #[.slice p l.length cap] 28)).heap.size = w.heap.size + 1 + 1 + 1 := by simp
  clear bO r0
  generalize (((w.alloc (.cells #[.int .i64 n] 3)).alloc (.cells #[.slice (some ⟨w.heap.size, 0, none⟩) 1 1] 23)).alloc (.cells #[.slice p l.length cap] 28)) = W0 at d5 bO' r0' hBl hsz ⊢
  have hS2 := hS.below hBl
  have hrow : ∃ b off, (0 < l.length → p = some ⟨b, off, none⟩ ∧ b < w.heap.size) ∧ ∀ j, j < l.length → DpAt W0 b (off + j * 2) (l.getD j .z) := by
    rcases Nat.eq_zero_or_pos l.length with hz | hz
    · exact ⟨0, 0, fun h => by omega, fun j h => by omega⟩
    · obtain ⟨b, off, rfl, hb, -⟩ := hS.row.cons (by simp; omega)
      exact ⟨b, off, fun _ => ⟨rfl, hb⟩, fun j hj => sl_dp_at hS2 hj⟩
  obtain ⟨b, off, hp, hE⟩ := hrow
  refine wpIn_rangeFunc_ownH rfl (by decide) (gf := 45) (lb := #[.pointer (some ⟨w.heap.size + 1 + 1, 0, none⟩)]) rfl trivial (enters_of Try.func45 (by kernel_rfl) rfl)
    (back_stops Fence.wide 4 trivial rfl (by decide) _ w.heap.size p cap l (by omega) W0 (by omega) d5 b off hp hE) kpD_t (kpD_b (by omega)) (Below.refl _ _) (fun _ => rfl)
    (fun pre W => (∃ v, Boxed W (w.heap.size + 1) 23 v ∧ W.ownsRow w.heap.size 3 1 v (inF n pre).length (ints .i64 (inF n pre)) ∧ True) ∧ Below w.heap.size W0 W)
    (fun _ _ _ => False)
    (OwnFrom.and (Own.from (holdsRow_own w.heap.size (w.heap.size + 1) 23 3 1 (fun pre => (inF n pre).length) (fun pre => ints .i64 (inF n pre)) (fun _ _ => True)) _) (ownFrom_below (by omega) (by omega)))
    (fun _ _ _ _ _ hs _ _ => hs)
    ⟨⟨_, bO', r0', trivial⟩, Below.refl _ _⟩
    (fun x a' W => ∃ Bx, W0.heap.size ≤ Bx ∧ Blk W Bx x.2.cells.toArray 35 ∧ a' = { tmps := #[.slice p l.length cap, .int .i64 n, undef, undef, .slice none 0 0, .pointer (some ⟨w.heap.size + 1, 0, none⟩), undef, .pointer (some ⟨Bx, 0, none⟩), .int .i64 n,
        .slice (some ⟨w.heap.size, 0, none⟩) 1 1, .slice p l.length cap, .func (.func 45) #[] #[.pointer (some ⟨w.heap.size + 1 + 1, 0, none⟩)], .int .i64 (x.1 : Int), x.2.val, undef, undef, undef, undef, undef, undef, undef, undef, undef, undef, undef, undef, undef, undef, undef, undef, undef, undef, undef], defers := [] })
    (fun x a' => Own.from (fun s A B row hs hg hr => by
      obtain ⟨Bx, h1, h2, h3⟩ := hs
      exact ⟨Bx, h1, (Blk.own (t := 35) (fun _ : Unit => _)) () A B row h2 hg hr, h3⟩) _) ?assign ?body ?done ?stop
  case assign =>
    rintro y pre x W K ⟨⟨v, hv, hr, -⟩, hB⟩ hK
    gi_wp2
    exact hK _ _ ((KeepsOthers.alloc _ _).from _) ⟨(Below.refl _ W).alloc (by have := hB.size; omega) _, fun h => h.alloc _⟩ ⟨⟨v, hv.alloc _, hr.alloc _, trivial⟩, hB.alloc (by have := hB.size; omega) _⟩ ⟨W.heap.size, hB.size, Blk.mk_ _ _ 35 rfl, rfl⟩
  case body =>
    rintro y pre x a' W hy ⟨r, hr⟩ ⟨⟨v, hv, hrow, -⟩, hB⟩ ⟨Bx, hBx, hX, rfl⟩ hlt
    obtain ⟨xi, e⟩ := x
    obtain ⟨di, dj⟩ := e
    have hsn := inF_snoc n pre (xi, ⟨di, dj⟩)
    have hlen := inF_len n pre
    have hpos := inF_pos n pre
    dsimp only at hsn
    obtain ⟨out', ho'⟩ : ∃ o, inF n (pre ++ [(xi, ⟨di, dj⟩)]) = o := ⟨_, rfl⟩
    rw [ho'] at hsn
    have HSN := Lib.hid ho'; clear ho'
    generalize inF n pre = out at *
    obtain ⟨g, c, rfl⟩ : ∃ g c, v = .slice (some ⟨g, 0, none⟩) out.length c := by
      rcases hrow.2 with ⟨-, h0⟩ | ⟨g, c, cur, e1, -⟩
      · omega
      · exact ⟨g, c, e1⟩
    have hR := Sl.of_own hrow
    have C1 := contains_any hR dj
    have C2 := contains_any hR di
    have hc := hv.cell
    have x0 : W.cell? ⟨Bx, 0, none⟩ = some (.int .i64 di) := hX.cell 0
    have x1 : W.cell? ⟨Bx, 1, none⟩ = some (.int .i64 dj) := hX.cell 1
    by_cases h1 : dj ∈ out
    · rw [decide_eq_true h1] at C1
      by_cases h2 : di ∈ out
      · rw [decide_eq_true h2] at C2
        have hst : out' = out := by rw [hsn]; unfold inStep; rw [if_neg (by simp [h2])]
        subst hst
        clear hsn h1 h2 hlen hpos
        gi_wp2_with fail
        refine ⟨trivial, (CallsIn.inRound y (callsIn_wide.2 C1)).mono ?_⟩
        rintro _ W1 ⟨rfl, hw1⟩
        subst hw1
        gi_wp2_with fail
        refine ⟨trivial, (CallsIn.inRound y (callsIn_wide.2 C2)).mono ?_⟩
        rintro _ W1 ⟨rfl, hw1⟩
        subst hw1
        gi_wp2_with fail
        exact ⟨KeepsFrom.refl _ _, ⟨Below.refl _ _, id⟩, (by rw [HSN.out]; exact ⟨_, hv, hrow, trivial⟩), hB⟩
      · rw [decide_eq_false h2] at C2
        have hst : out' = out ++ [di] := by rw [hsn]; unfold inStep; rw [if_pos ⟨h1, h2⟩]
        have hol : out.length ≤ 90001 := by omega
        clear hsn h1 h2 hlen hpos
        have HST := Lib.hid hst; clear hst
        gi_wp2_with fail
        refine ⟨trivial, (CallsIn.inRound y (callsIn_wide.2 C1)).mono ?_⟩
        rintro _ W1 ⟨rfl, hw1⟩
        subst hw1
        gi_wp2_with fail
        refine ⟨trivial, (CallsIn.inRound y (callsIn_wide.2 C2)).mono ?_⟩
        rintro _ W2 ⟨rfl, hw2⟩
        subst hw2
        gi_wp2_with (gi_at_builtin; refine wpListIn_append_own _ rfl _ _ 23 rfl w.heap.size 3 i0 (.int .i64 0) 1 8 Try.underlying23 hi hz0 hz1 hz2 rfl (by decide) _ _ _ rfl (hrow.alloc _) ⟨W2.heap.size, 0, none⟩ 1 1 [.int .i64 di] rfl rfl (cell_one_new _ _ _) (by simp [Value.oneCell']) (by unfold maxLen; omega) (by omega) (by have := hB.size; simp; omega) ?_; intro v' w1 hown' hgrow _; obtain ⟨g', cap', rfl⟩ := ownsRow_succ hown'; obtain ⟨hv1, hv2, hr2, hk2, hb2⟩ := hv.appended (by decide) hrow (by have := hB.size; omega) (by omega) hown' hgrow; have hc1 := hv1.cell; have hf1 := hv1.frozen)
        have hBs : Blk W2 (w.heap.size + 1 + 1) #[.slice p l.length cap] 28 → some (w.heap.size + 1 + 1) ≠ (Value.slice (some ⟨g, 0, none⟩) out.length c).ownBlock := fun h e1 => by
          have e2 : w.heap.size + 1 + 1 = g := (by simpa [Value.ownBlock] using e1)
          rcases hrow.2 with ⟨e3, -⟩ | ⟨g', c', cur, e3, e4, e5, -⟩
          · cases e3
          · cases e3; have h' := h; unfold Blk at h'; rw [e2, e5] at h'; cases h'
        refine ⟨hk2.from _, ⟨hb2, fun h => Blk.other (.trans (hgrow.block _ (h.alloc _).lt (hBs h)) (h.alloc _)) _ (by omega)⟩, ?_, hB.trans hb2⟩
        rw [HSN.out, HST.out, ints_snoc, List.length_append]
        exact ⟨_, hv2, hr2, trivial⟩
    · rw [decide_eq_false h1] at C1
      have hst : out' = out := by rw [hsn]; unfold inStep; rw [if_neg (by simp [h1])]
      subst hst
      clear hsn h1 hlen hpos
      gi_wp2_with fail
      refine ⟨trivial, (CallsIn.inRound y (callsIn_wide.2 C1)).mono ?_⟩
      rintro _ W1 ⟨rfl, hw1⟩
      subst hw1
      gi_wp2_with fail
      refine ⟨trivial, ?_⟩
      gi_wp2_with fail
      exact ⟨KeepsFrom.refl _ _, ⟨Below.refl _ _, id⟩, (by rw [HSN.out]; exact ⟨_, hv, hrow, trivial⟩), hB⟩
  case done =>
    rintro D ys W hD rfl ⟨⟨v, hv, hrow, -⟩, hB⟩ hK
    have hll : inF n (down l l.length) = l.reverse.foldl inStep [n] := by unfold inF; rw [down_all]
    rw [hll] at hrow
    have hpos : 1 ≤ (l.reverse.foldl inStep [n]).length := by rw [← hll]; exact inF_pos _ _
    have hlen : (l.reverse.foldl inStep [n]).length ≤ 100000 := by rw [← hll]; have := inF_len n (down l l.length); rw [down_length] at this; omega
    generalize hout : l.reverse.foldl inStep [n] = out at *
    obtain ⟨g, c, rfl⟩ : ∃ g c, v = .slice (some ⟨g, 0, none⟩) out.length c := by
      rcases hrow.2 with ⟨-, h0⟩ | ⟨g, c, cur, e1, -⟩
      · omega
      · exact ⟨g, c, e1⟩
    have hS3 := sort_any hrow hpos hlen
    have hc := hv.cell
    gi_wp2_with fail
    refine ⟨trivial, (callsIn_wide.2 hS3).mono ?_⟩
    rintro _ W1 ⟨rfl, h4, h5⟩
    have hv1 : Boxed W1 (w.heap.size + 1) 23 (.slice (some ⟨g, 0, none⟩) out.length c) := hv.kept h5 (hv.not_row (by decide) hrow)
    have hc1 := hv1.cell
    gi_wp2_with fail
    have hg2 : ∃ cur, W.heap[g]? = some (.cells cur 3 (0, 0)) ∧ w.heap.size ≤ g := by
      rcases hrow.2 with ⟨e1, -⟩ | ⟨g', c', cur, e1, e2, e3, -⟩
      · cases e1
      · cases e1; exact ⟨cur, e3, e2⟩
    obtain ⟨cur, hg3, hg4⟩ := hg2
    have hDg : some D ≠ (Value.slice (some ⟨g, 0, none⟩) out.length c).ownBlock := fun e1 => by
      have : D = g := by simpa [Value.ownBlock] using e1
      rw [this, hg3] at hK; cases hK
    have hK1 : W1.heap[D]? = some (.deferred (some [])) := (h5.block D (Array.getElem?_eq_some_iff.1 hK).1 hDg).trans hK
    have hB1 : Below w.heap.size w W1 := (hBl.trans hB).grown h5 (hBl.trans hB).size (fun k e1 => by have e2 : g = k := (by simpa [Value.ownBlock] using e1); omega)
    have hlI : (intoL l n) = out.mergeSort fun x y => decide (x ≤ y) := by unfold intoL; rw [hout]
    have hlL : (intoL l n).length = out.length := by rw [hlI, List.length_mergeSort]
    rw [← hlI] at h4
    unfold OwnI at h4
    rw [hlL] at h4
    refine ⟨by simp, .inl ⟨_, _, rfl, run_takeDeferred hK1, ?_⟩⟩
    refine ⟨_, results_tmp rfl _ _ _, some ⟨g, 0, none⟩, c, by rw [hlL]; rfl, ?_, ?_⟩
    · rw [hlL]; exact ownsRow_putObj h4 _ hK1 rfl
    · exact hB1.trans (belowK_b (w := w) (Nat.le_refl _) W1 D _ _ (by omega) hK1 rfl rfl)
  case stop =>
    rintro D c pre W _ _ h _
    exact h.elim
end Go.Proofs.Ytiaaoajnecppnaa
