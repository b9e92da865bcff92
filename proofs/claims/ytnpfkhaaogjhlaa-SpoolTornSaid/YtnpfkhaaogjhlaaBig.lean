/-
  The walk of big.
-/
import Derived.Test.YtnpfkhaaogjhlaaIter
namespace Go.Proofs.Ytnpfkhaaogjhlaa
open Go.RowKit Go.Shelf
attribute [local go_sem] Oper.semAt_some

def stp (s : List UInt8 × Nat) (i : Nat) : List UInt8 × Nat := (s.1.set i (UInt8.ofNat s.2), s.2 / 256)
def st (n m : Nat) (pre : List (PB m)) : List UInt8 × Nat := (pre.map fun x => x.1.1).foldl stp (List.replicate m 0, n)
theorem st_snoc (n m : Nat) (pre : List (PB m)) (x : PB m) : st n m (pre ++ [x]) = stp (st n m pre) x.1.1 := by
  unfold st; rw [List.map_append, List.foldl_append]; rfl
theorem st_len (n m : Nat) (pre : List (PB m)) : (st n m pre).1.length = m := by
  unfold st
  have : ∀ (l : List Nat) (s : List UInt8 × Nat), (l.foldl stp s).1.length = s.1.length := by
    intro l
    induction l with
    | nil => intro s; rfl
    | cons a l ih => intro s; rw [List.foldl_cons, ih]; simp [stp]
  rw [this]; simp
theorem st_lt {n m : Nat} (h : n < 18446744073709551616) (pre : List (PB m)) : (st n m pre).2 < 18446744073709551616 := by
  unfold st
  have : ∀ (l : List Nat) (s : List UInt8 × Nat), s.2 < 18446744073709551616 → (l.foldl stp s).2 < 18446744073709551616 := by
    intro l
    induction l with
    | nil => intro s h; exact h
    | cons a l ih => intro s h; rw [List.foldl_cons]; exact ih _ (by unfold stp; dsimp only; omega)
  exact this _ _ h
theorem bts_set (l : List UInt8) (i : Nat) (x : UInt8) : (bts l).toArray.setIfInBounds i (.int .u8 (x.toNat : Int)) = (bts (l.set i x)).toArray := by
  simp [bts, List.map_set]

set_option maxRecDepth 100000 in
set_option maxHeartbeats 2000000 in
theorem big_any (n m : Nat) (hm : m ≤ 1000) (hn : n < 18446744073709551616) (w : World)
    (hmk : ∀ w, (Instr.makeSlice 24 (.int .i64 (m : Int)) (.int .i64 (m : Int))).run Try.prog w = .ok (.slice (some ⟨w.heap.size, 0, none⟩) m m) (w.alloc (.cells (bts (List.replicate m 0)).toArray 5))) :
    Calls Try.prog 13 #[.int .u64 (n : Int), .int .i64 (m : Int)] w fun e w' => ∃ (b : Nat) (l : List UInt8), e = .returned (.slice (some ⟨b, 0, none⟩) m m) ∧ w.heap.size ≤ b ∧ Blk w' b (bts l).toArray 5 ∧ l = ((downIdx m m).foldl stp (List.replicate m 0, n)).1 ∧ Below w.heap.size w w' := by
  refine (callsIn_wide (n := 5)).1 ?_
  refine callsIn_of_wp_marks Try.func13 rfl trivial ?_ rfl
  simp only [Try.ntmps13, List.size_toArray, List.length_cons, List.length_nil, Nat.reduceAdd, Nat.reduceSub, Array.replicate_succ, Array.replicate_zero, List.push_toArray, List.append_toArray, List.nil_append, List.cons_append]
  gi_wp2_with fail
  refine ⟨trivial, (back_in _ _ trivial rfl _ _ _ _).mono ?_⟩
  rintro _ w2 ⟨rfl, rfl⟩
  have d0 : Blk ((((w.alloc (.cells #[.int .u64 (n : Int)] 39)).alloc (.cells (bts (List.replicate m 0)).toArray 5)).alloc (.cells #[.slice (some ⟨w.heap.size + 1, 0, none⟩) m m] 24)).alloc (.cells #[.slice (some ⟨w.heap.size + 1, 0, none⟩) m m] 24)) w.heap.size #[.int .u64 (n : Int)] 39 := (((Blk.mk_ w _ 39 rfl).alloc _).alloc _).alloc _
  have d1 : Blk ((((w.alloc (.cells #[.int .u64 (n : Int)] 39)).alloc (.cells (bts (List.replicate m 0)).toArray 5)).alloc (.cells #[.slice (some ⟨w.heap.size + 1, 0, none⟩) m m] 24)).alloc (.cells #[.slice (some ⟨w.heap.size + 1, 0, none⟩) m m] 24)) (w.heap.size + 1) (bts (List.replicate m 0)).toArray 5 := ((Blk.mk_ _ _ 5 (by simp)).alloc _).alloc _
  have d2 : Blk ((((w.alloc (.cells #[.int .u64 (n : Int)] 39)).alloc (.cells (bts (List.replicate m 0)).toArray 5)).alloc (.cells #[.slice (some ⟨w.heap.size + 1, 0, none⟩) m m] 24)).alloc (.cells #[.slice (some ⟨w.heap.size + 1, 0, none⟩) m m] 24)) (w.heap.size + 1 + 1) #[.slice (some ⟨w.heap.size + 1, 0, none⟩) m m] 24 := (Blk.mk_ _ _ 24 (by simp)).alloc _
  have d3 : Blk ((((w.alloc (.cells #[.int .u64 (n : Int)] 39)).alloc (.cells (bts (List.replicate m 0)).toArray 5)).alloc (.cells #[.slice (some ⟨w.heap.size + 1, 0, none⟩) m m] 24)).alloc (.cells #[.slice (some ⟨w.heap.size + 1, 0, none⟩) m m] 24)) (w.heap.size + 1 + 1 + 1) #[.slice (some ⟨w.heap.size + 1, 0, none⟩) m m] 24 := Blk.mk_ _ _ 24 (by simp)
  have hBl : Below w.heap.size w ((((w.alloc (.cells #[.int .u64 (n : Int)] 39)).alloc (.cells (bts (List.replicate m 0)).toArray 5)).alloc (.cells #[.slice (some ⟨w.heap.size + 1, 0, none⟩) m m] 24)).alloc (.cells #[.slice (some ⟨w.heap.size + 1, 0, none⟩) m m] 24)) := by repeat (first | exact Below.refl _ _ | refine Below.alloc ?_ (by first | exact Nat.le_refl _ | (simp; done) | (simp; omega)) _)
  have hz : ((((w.alloc (.cells #[.int .u64 (n : Int)] 39)).alloc (.cells (bts (List.replicate m 0)).toArray 5)).alloc (.cells #[.slice (some ⟨w.heap.size + 1, 0, none⟩) m m] 24)).alloc (.cells #[.slice (some ⟨w.heap.size + 1, 0, none⟩) m m] 24)).heap.size = w.heap.size + 1 + 1 + 1 + 1 := by simp
  rw [show (((w.alloc (.cells #[.int .u64 (n : Int)] 39)).alloc (.cells (bts (List.replicate m 0)).toArray 5)).alloc (.cells #[.slice (some ⟨w.heap.size + 1, 0, none⟩) m m] 24)).heap.size = w.heap.size + 1 + 1 + 1 from by simp]
  generalize ((((w.alloc (.cells #[.int .u64 (n : Int)] 39)).alloc (.cells (bts (List.replicate m 0)).toArray 5)).alloc (.cells #[.slice (some ⟨w.heap.size + 1, 0, none⟩) m m] 24)).alloc (.cells #[.slice (some ⟨w.heap.size + 1, 0, none⟩) m m] 24)) = W0 at d0 d1 d2 d3 hBl hz ⊢
  clear hmk
  gi_wp2_with fail
  refine wpIn_rangeFunc_ownH rfl (by decide) (gf := 19) (lb := #[.pointer (some ⟨w.heap.size + 1 + 1 + 1, 0, none⟩)]) rfl trivial (enters_of Try.func19 (by kernel_rfl) rfl)
    (back_stops Fence.wide 4 trivial rfl (by decide) (w.heap.size + 1 + 1 + 1) (w.heap.size + 1) m hm W0 d3 ⟨_, by simp, d1⟩) kpB_t kpB_b (Below.refl _ _) (fun _ => rfl)
    (fun pre W => Blk W (w.heap.size + 1) (bts (st n m pre).1).toArray 5 ∧ Blk W w.heap.size #[.int .u64 ((st n m pre).2 : Int)] 39 ∧ Blk W (w.heap.size + 1 + 1) #[.slice (some ⟨w.heap.size + 1, 0, none⟩) m m] 24 ∧ Below w.heap.size w W)
    (fun _ _ _ => False)
    (OwnFrom.and ((Blk.own (t := 5) (fun pre => (bts (st n m pre).1).toArray)).from _) (OwnFrom.and ((Blk.own (t := 39) (fun pre : List (PB m) => #[.int .u64 ((st n m pre).2 : Int)])).from _) (OwnFrom.and ((Blk.own (t := 24) (fun _ => _)).from _) (ownFrom_below (Nat.le_refl _) (by omega)))))
    (fun _ => fun _ _ _ _ hs _ _ => hs)
    ⟨d1, d0, d2, hBl⟩
    (fun x a' W => a' = { tmps := #[.int .u64 (n : Int), .int .i64 (m : Int), .pointer (some ⟨w.heap.size, 0, none⟩), undef, .slice none 0 0, .pointer (some ⟨w.heap.size + 1 + 1, 0, none⟩), .int .i64 (x.1.1 : Int), .int .i64 (m : Int),
      .slice (some ⟨w.heap.size + 1, 0, none⟩) m m, .slice (some ⟨w.heap.size + 1, 0, none⟩) m m, .func (.func 19) #[] #[.pointer (some ⟨w.heap.size + 1 + 1 + 1, 0, none⟩)], .int .i64 (x.1.1 : Int), .int .u8 (x.1.2.toNat : Int), undef, undef, undef, undef, undef, undef, undef, undef], defers := [] })
    (fun x a' => ownFrom_pure _ _) ?assign ?body ?done ?stop
  case assign =>
    rintro y pre x W K hI hK
    gi_wp2
    exact hK _ _ (KeepsFrom.refl _ _) ⟨id, id⟩ hI rfl
  case body =>
    rintro y pre x a' W hy ⟨r, hr⟩ ⟨b1, b0, b2, hB⟩ rfl hlt
    obtain ⟨⟨i, c⟩, hi⟩ := x
    have hs := st_snoc n m pre ⟨(i, c), hi⟩
    have hl := st_len n m pre
    have h64 := st_lt hn pre
    dsimp only at hi hs ⊢
    have HS := Lib.hid hs; clear hs
    generalize st n m pre = s at *
    obtain ⟨l, k⟩ := s
    dsimp only at *
    unfold stp at HS
    dsimp only at HS
    have c0 : W.cell? ⟨w.heap.size, 0, none⟩ = some (.int .u64 (k : Int)) := b0.cell 0
    have c2 : W.cell? ⟨w.heap.size + 1 + 1, 0, none⟩ = some (.slice (some ⟨w.heap.size + 1, 0, none⟩) m m) := b2.cell 0
    have c1 : W.cell? ⟨w.heap.size + 1, i, none⟩ = some (.int .u8 ((l.getD i 0).toNat : Int)) := by
      rw [b1.cell i]
      have := bts_get (l := l) (i := i) (by omega)
      simpa using this
    have f0 := b0.frozen 0
    have f1 := b1.frozen i
    have hi' : (i : Int) < (m : Int) := by omega
    have k0 : 0 ≤ (k : Int) := by omega
    have k1 : (k : Int) < 18446744073709551616 := by omega
    generalize l.getD i 0 = cc at *
    have e8 : ((k : Int) % 256) = ((UInt8.ofNat k).toNat : Int) := by rw [UInt8.toNat_ofNat']; simp
    have e9 : ((k : Int) / 256) = ((k / 256 : Nat) : Int) := by omega
    have E8 := Lib.hid e8; have E9 := Lib.hid e9; clear e8 e9
    gi_wp2
    rw [E8.out, E9.out]
    refine ⟨((KeepsOthers.setCell _ _ _).trans (KeepsOthers.setCell _ _ _)).from _, ⟨fun h => (h.other _ (by omega)).other _ (by omega), fun _ => ⟨l.set i (UInt8.ofNat k), by simp [hl], ?_⟩⟩, ?_, ?_, (b2.other _ (by omega)).other _ (by omega), ?_⟩
    · have := (b1.set i (.int .u8 ((UInt8.ofNat k).toNat : Int))).other (.int .u64 ((k / 256 : Nat) : Int)) (C := w.heap.size) (k := 0) (by omega)
      rwa [bts_set] at this
    · rw [HS.out]
      have := (b1.set i (.int .u8 ((UInt8.ofNat k).toNat : Int))).other (.int .u64 ((k / 256 : Nat) : Int)) (C := w.heap.size) (k := 0) (by omega)
      rwa [bts_set] at this
    · rw [HS.out]
      exact (b0.other _ (by omega)).set 0 _
    · exact (hB.setCell (p := ⟨_, _, none⟩) (by dsimp only; omega) _).setCell (p := ⟨_, _, none⟩) (by dsimp only; omega) _
  case done =>
    rintro D xs W hD hS ⟨b1, b0, b2, hB⟩ hK
    have c2 : W.cell? ⟨w.heap.size + 1 + 1, 0, none⟩ = some (.slice (some ⟨w.heap.size + 1, 0, none⟩) m m) := b2.cell 0
    gi_wp2
    refine ⟨by simp, .inl ⟨_, _, rfl, run_takeDeferred hK, ?_⟩⟩
    have hz' := hD
    rw [hz] at hz'
    exact ⟨_, results_tmp rfl _ _ _, w.heap.size + 1, _, rfl, by omega, (Blk.own (t := 5) (fun _ : Unit => _)).putObj (s := ()) (.deferred none) b1 hK rfl, by unfold st; rw [hS], hB.trans (belowK_b (w := w) (Nat.le_refl _) _ D _ _ (by omega) hK rfl rfl)⟩
  case stop =>
    rintro D c pre W hD _ h hK
    exact h.elim

theorem big8_of (n : Nat) : ((downIdx 8 8).foldl stp (List.replicate 8 0, n)).1 = big8 n := rfl
theorem big4_of (n : Nat) : ((downIdx 4 4).foldl stp (List.replicate 4 0, n)).1 = big4 n := rfl

theorem big8_any (n : Nat) (hn : n < 18446744073709551616) (w : World) :
    Calls Try.prog 13 #[.int .u64 (n : Int), .int .i64 8] w fun e w' => ∃ b : Nat, e = .returned (.slice (some ⟨b, 0, none⟩) 8 8) ∧ w.heap.size ≤ b ∧ Blk w' b (bts (big8 n)).toArray 5 ∧ Below w.heap.size w w' :=
  (big_any n 8 (by decide) hn w (fun _ => by kernel_rfl)).mono fun e w' ⟨b, l, h1, h2, h3, h4, h5⟩ => ⟨b, h1, h2, by rw [← big8_of, ← h4]; exact h3, h5⟩
theorem big4_any (n : Nat) (hn : n < 18446744073709551616) (w : World) :
    Calls Try.prog 13 #[.int .u64 (n : Int), .int .i64 4] w fun e w' => ∃ b : Nat, e = .returned (.slice (some ⟨b, 0, none⟩) 4 4) ∧ w.heap.size ≤ b ∧ Blk w' b (bts (big4 n)).toArray 5 ∧ Below w.heap.size w w' :=
  (big_any n 4 (by decide) hn w (fun _ => by kernel_rfl)).mono fun e w' ⟨b, l, h1, h2, h3, h4, h5⟩ => ⟨b, h1, h2, by rw [← big4_of, ← h4]; exact h3, h5⟩
end Go.Proofs.Ytnpfkhaaogjhlaa
