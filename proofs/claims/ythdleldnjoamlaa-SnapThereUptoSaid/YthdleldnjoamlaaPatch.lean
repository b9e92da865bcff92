/-
  Delta and Patched.
-/
import Derived.Test.YthdleldnjoamlaaKinds
import Derived.Laws.CopyOwn
namespace Go.Proofs.Ythdleldnjoamlaa
open Go.RowKit

structure Pa where
  a : Int
  v : Int
deriving DecidableEq
instance : Inhabited Pa := ⟨⟨0, 0⟩⟩
def Pa.cells (x : Pa) : List Value := [.int .i64 x.a, .int .i64 x.v]
abbrev Pa.val (x : Pa) : Value := .agg #[.int .i64 x.a, .int .i64 x.v]
abbrev RdPa : World → Sv Pa → Prop := Rd 2 Pa.cells okT
theorem RdPa.st : Stays RdPa := Rd.stays okT_stays

/-! ### The plain law -/
def deltaTo (a b : List Int) : Nat → List Pa
  | 0 => []
  | k + 1 => deltaTo a b k ++ if b.getD k 0 = a.getD k 0 then [] else [⟨(k : Int), b.getD k 0⟩]
def deltaL (a b : List Int) : List Pa := deltaTo a b b.length
def applyL (o : List Int) (l : List Pa) : List Int := l.foldl (fun o p => o.set p.a.toNat p.v) o
def padL (a : List Int) (n : Nat) : List Int := (List.range n).map fun i => a.getD i 0
structure OkP (n : Nat) (l : List Pa) : Prop where
  up : l.Pairwise (fun p q => p.a < q.a)
  lo : ∀ p ∈ l, 0 ≤ p.a ∧ p.a < n
theorem deltaTo_len (a b : List Int) (k : Nat) : (deltaTo a b k).length ≤ k := by
  induction k with
  | zero => exact Nat.le_refl _
  | succ k ih => rw [deltaTo, List.length_append]; split <;> simp <;> omega
theorem deltaTo_mem {a b : List Int} {k : Nat} {p : Pa} (h : p ∈ deltaTo a b k) : ∃ j, j < k ∧ p = ⟨(j : Int), b.getD j 0⟩ ∧ b.getD j 0 ≠ a.getD j 0 := by
  induction k with
  | zero => cases h
  | succ k ih =>
    rw [deltaTo, List.mem_append] at h
    rcases h with h | h
    · obtain ⟨j, hj, h⟩ := ih h
      exact ⟨j, by omega, h⟩
    · split at h
      · cases h
      · exact ⟨k, by omega, List.mem_singleton.1 h, by assumption⟩
theorem mem_deltaTo {a b : List Int} {j : Nat} (hne : b.getD j 0 ≠ a.getD j 0) : ∀ {k : Nat}, j < k → (⟨(j : Int), b.getD j 0⟩ : Pa) ∈ deltaTo a b k
  | k + 1, h => by
    rw [deltaTo, List.mem_append]
    by_cases e : j = k
    · subst e; right; rw [if_neg hne]; simp
    · exact .inl (mem_deltaTo hne (by omega))
theorem deltaTo_up (a b : List Int) (k : Nat) : (deltaTo a b k).Pairwise (fun p q => p.a < q.a) := by
  induction k with
  | zero => simp [deltaTo]
  | succ k ih =>
    rw [deltaTo, List.pairwise_append]
    refine ⟨ih, by split <;> simp, fun p hp q hq => ?_⟩
    obtain ⟨j, hj, rfl, -⟩ := deltaTo_mem hp
    split at hq
    · cases hq
    · rw [List.mem_singleton.1 hq]; show (j : Int) < (k : Int); omega
theorem delta_ok (a b : List Int) : OkP b.length (deltaL a b) := ⟨deltaTo_up a b _, fun p hp => by
  obtain ⟨j, hj, rfl, -⟩ := deltaTo_mem hp
  exact ⟨by show (0 : Int) ≤ (j : Int); omega, by show (j : Int) < _; omega⟩⟩
theorem delta_self (b : List Int) : deltaL b b = [] := by
  refine List.eq_nil_iff_forall_not_mem.2 fun p hp => ?_
  obtain ⟨j, -, -, h⟩ := deltaTo_mem hp
  exact h rfl
theorem OkP.sub {n : Nat} {l m : List Pa} (h : OkP n l) (hs : m.Sublist l) : OkP n m := ⟨h.up.sublist hs, fun p hp => h.lo p (hs.subset hp)⟩
theorem pad_len (a : List Int) (n : Nat) : (padL a n).length = n := by simp [padL]
theorem pad_get {a : List Int} {n j : Nat} (h : j < n) : (padL a n).getD j 0 = a.getD j 0 := by
  unfold padL
  rw [List.getD_eq_getElem?_getD, List.getElem?_map, List.getElem?_range h]
  rfl
theorem apply_len (o : List Int) (l : List Pa) : (applyL o l).length = o.length := by
  induction l generalizing o with
  | nil => rfl
  | cons p l ih => show (applyL (o.set p.a.toNat p.v) l).length = _; rw [ih, List.length_set]
theorem apply_other {l : List Pa} {j : Nat} : ∀ {o : List Int}, (∀ p ∈ l, 0 ≤ p.a ∧ p.a ≠ j) → (applyL o l).getD j 0 = o.getD j 0 := by
  induction l with
  | nil => intro o _; rfl
  | cons p l ih =>
    intro o h
    show (applyL (o.set p.a.toNat p.v) l).getD j 0 = _
    rw [ih fun q hq => h q (by simp [hq])]
    have := h p (by simp)
    rw [List.getD_eq_getElem?_getD, List.getElem?_set_ne (by omega), List.getD_eq_getElem?_getD]
theorem apply_at {n j : Nat} {v : Int} {l : List Pa} : ∀ {o : List Int}, OkP n l → o.length = n → (⟨(j : Int), v⟩ : Pa) ∈ l → (applyL o l).getD j 0 = v := by
  induction l with
  | nil => intro o _ _ h; cases h
  | cons p l ih =>
    intro o h ho hm
    have hp := h.lo p (by simp)
    have hup := List.pairwise_cons.1 h.up
    show (applyL (o.set p.a.toNat p.v) l).getD j 0 = _
    rcases List.mem_cons.1 hm with e | e
    · subst e
      rw [apply_other fun q hq => ?_]
      · have hj : j < o.length := by have : (j : Int) < n := hp.2; omega
        show (o.set j v).getD j 0 = v
        rw [List.getD_eq_getElem?_getD, List.getElem?_set_self hj]; rfl
      · have h1 := hup.1 q hq
        have h2 : (j : Int) < q.a := h1
        exact ⟨by omega, by omega⟩
    · exact ih ⟨hup.2, fun q hq => h.lo q (by simp [hq])⟩ (by rw [List.length_set]; exact ho) e
theorem ext_getD {l m : List Int} (h : l.length = m.length) (hj : ∀ j, j < l.length → l.getD j 0 = m.getD j 0) : l = m := by
  refine List.ext_getElem h fun j h1 h2 => ?_
  have := hj j h1
  rwa [List.getD_eq_getElem?_getD, List.getElem?_eq_getElem h1, List.getD_eq_getElem?_getD, List.getElem?_eq_getElem h2] at this
/-- A delta leads there. -/
theorem delta_there (a b : List Int) : applyL (padL a b.length) (deltaL a b) = b := by
  have hl : (applyL (padL a b.length) (deltaL a b)).length = b.length := by rw [apply_len, pad_len]
  refine ext_getD hl fun j hj => ?_
  rw [hl] at hj
  by_cases hne : b.getD j 0 = a.getD j 0
  · rw [apply_other, pad_get hj, hne]
    intro p hp
    obtain ⟨i, -, rfl, h⟩ := deltaTo_mem hp
    refine ⟨by show (0 : Int) ≤ (i : Int); omega, fun e => ?_⟩
    have : i = j := by have : (i : Int) = (j : Int) := e; omega
    subst this
    exact h hne
  · exact apply_at (delta_ok a b) (pad_len _ _) (mem_deltaTo hne hj)
/-- With one left out it does not. -/
theorem delta_least {a b : List Int} {i : Nat} (hi : i < (deltaL a b).length) : applyL (padL a b.length) ((deltaL a b).take i ++ (deltaL a b).drop (i + 1)) ≠ b := by
  intro h
  have hm := List.getElem_mem hi
  obtain ⟨j, hj, e, hne⟩ := deltaTo_mem hm
  have h1 : (applyL (padL a b.length) ((deltaL a b).take i ++ (deltaL a b).drop (i + 1))).getD j 0 = a.getD j 0 := by
    rw [apply_other, pad_get hj]
    intro p hp
    have hup := List.pairwise_iff_getElem.1 (deltaTo_up a b b.length)
    have hpm : p ∈ deltaL a b := by
      rcases List.mem_append.1 hp with h | h
      · exact List.mem_of_mem_take h
      · exact List.mem_of_mem_drop h
    refine ⟨((delta_ok a b).lo p hpm).1, fun e2 => ?_⟩
    have hpe : p.a = ((deltaL a b)[i]).a := by rw [e2, e]
    rcases List.mem_append.1 hp with h | h
    · obtain ⟨k, hk, rfl⟩ := List.getElem_of_mem h
      have hk' : k < i ∧ k < (deltaL a b).length := by simp at hk; omega
      rw [List.getElem_take] at hpe
      have := hup k i hk'.2 hi hk'.1
      have h2 : ((deltaL a b)[k]).a < ((deltaL a b)[i]).a := this
      omega
    · obtain ⟨k, hk, rfl⟩ := List.getElem_of_mem h
      have hk' : i + 1 + k < (deltaL a b).length := by simp at hk; omega
      rw [List.getElem_drop] at hpe
      have := hup i (i + 1 + k) hi hk' (by omega)
      have h2 : ((deltaL a b)[i]).a < ((deltaL a b)[i + 1 + k]).a := this
      omega
  rw [h] at h1
  exact hne h1

/-! ### The walks -/
theorem info_Pa : (Try.prog.info? 45).map (fun i => (i.zero, i.size, i.bytes)) = some (some (.agg #[.int .i64 0, .int .i64 0]), 2, 16) := by kernel_rfl
set_option maxRecDepth 100000 in
set_option maxHeartbeats 2000000 in
theorem Delta_any {W : World} {p q : Option Addr} {c1 c2 : Nat} {a b : List Int} (hA : SlI W p c1 a) (hB : SlI W q c2 b) (hb : b.length ≤ 100000) :
    Calls Try.prog 11 #[.slice p a.length c1, .slice q b.length c2] W fun r W' => ∃ s : Sv Pa, r = .returned s.val ∧ s.l = deltaL a b ∧ RdPa W' s ∧ Below W.heap.size W W' := by
  obtain ⟨iT, hiT, tz0, tz1, tz2⟩ := info_parts info_Pa
  have ha : a.length ≤ 9223372036854775807 := Nat.le_trans hA.le hA.big
  have hdl : deltaTo a b b.length = deltaL a b := rfl
  have HD := Lib.hid hdl; clear hdl
  go_enter Try.func11, Try.ntmps11
  go_wp2_with fail
  go_loopw [5, 11] (fun s5 s11 wr => ∃ (k n : Nat) (p5 : Option Addr) (c5 : Nat), k ≤ b.length ∧ s11 = .int .i64 k ∧ s5 = .slice p5 n c5 ∧ n = (deltaTo a b k).length ∧ wr.ownsRow W.heap.size 45 2 (.slice p5 n c5) n ((deltaTo a b k).flatMap Pa.cells) ∧ Below W.heap.size W wr) (fun _ s11 _ => b.length - (intOf s11).toNat)
  case atStart => exact ⟨0, 0, none, 0, Nat.zero_le _, rfl, rfl, rfl, World.ownsRow_nil _ _ _ _, Below.refl _ _⟩
  case round =>
    obtain ⟨k, n, p5, c5, hk, rfl, rfl, hnl, hown, hbel⟩ := hrel
    by_cases hlt : k < b.length
    · obtain ⟨bb, bo, rfl, hbb, hbc⟩ := Sl.int_at hB hlt
      have qb := (hbel.cell (p := ⟨bb, bo + k, none⟩) hbb).trans hbc
      have hstep : deltaTo a b (k + 1) = deltaTo a b k ++ if b.getD k 0 = a.getD k 0 then [] else [⟨(k : Int), b.getD k 0⟩] := rfl
      have hnk := deltaTo_len a b k
      rw [← hnl] at hnk
      have HS := Lib.hid hstep; have HN := Lib.hid hnl; clear hstep hnl hbc
      have hz := hbel.size
      -- what was there
      obtain ⟨was, hwas, hway⟩ : ∃ was : Int, a.getD k 0 = was ∧ ((k < a.length ∧ ∃ ab ao, p = some ⟨ab, ao, none⟩ ∧ wr.cell? ⟨ab, ao + k, none⟩ = some (.int .i64 was)) ∨ (¬ k < a.length ∧ was = 0)) := by
        by_cases hka : k < a.length
        · obtain ⟨ab, ao, hp, hab, hac⟩ := Sl.int_at hA hka
          exact ⟨_, rfl, .inl ⟨hka, ab, ao, hp, (hbel.cell (p := ⟨ab, ao + k, none⟩) hab).trans hac⟩⟩
        · exact ⟨_, rfl, .inr ⟨hka, by rw [List.getD_eq_getElem?_getD, List.getElem?_eq_none (by omega)]; rfl⟩⟩
      have HW := Lib.hid hwas; clear hwas
      generalize b.getD k 0 = x at *
      have hal := (Below.refl wr.heap.size wr).alloc (Nat.le_refl _) (.cells #[.int .i64 k, .int .i64 x] 45)
      have hown3 := own_below hown hal
      have hnews : ∀ (j : Nat) (u : Value), ([Value.int .i64 k, Value.int .i64 x] : List Value)[j]? = some u → (wr.alloc (.cells #[.int .i64 k, .int .i64 x] 45)).cell? ((⟨wr.heap.size, 0, none⟩ : Addr).add j) = some u := fun j u hj => by
        rw [add_lit']; exact (new_row wr #[.int .i64 k, .int .i64 x] 45 (0, 0)).at_ hj
      have hbs : W.heap.size ≤ (wr.alloc (.cells #[.int .i64 k, .int .i64 x] 45)).heap.size := Nat.le_trans hz hal.size
      have hend : ∀ w5, (wr.alloc (.cells #[.int .i64 k, .int .i64 x] 45)).grownBy w5 (Value.slice p5 n c5).ownBlock → Below W.heap.size W w5 := fun w5 hg => hbel.trans ((hal.mono hz).grown hg hbs (fun r e => (hown3.lt r e).1))
      by_cases hxw : x = was
      · have q1 : (x != was) = false := by simp [hxw]
        have hS := HS.out
        rw [HW.out, if_pos hxw, List.append_nil] at hS
        have HS2 := Lib.hid hS; clear hS HS hend hnews hown3 hal
        rcases hway with ⟨hka, ab, ao, rfl, qa⟩ | ⟨hka, rfl⟩
        · go_wp2_with fail
          go_roundw
          case rel => exact ⟨k + 1, n, p5, c5, by omega, by go_num, rfl, by rw [HS2.out]; exact HN.out, by rw [HS2.out]; exact hown, hbel⟩
          case measure => simp [intOf]; omega
        · go_wp2_with fail
          go_roundw
          case rel => exact ⟨k + 1, n, p5, c5, by omega, by go_num, rfl, by rw [HS2.out]; exact HN.out, by rw [HS2.out]; exact hown, hbel⟩
          case measure => simp [intOf]; omega
      · have q1 : (x != was) = true := by simp [hxw]
        have hS := HS.out
        rw [HW.out, if_neg hxw] at hS
        have HS2 := Lib.hid hS; have HE := Lib.hid hend; clear hS HS hend hal
        rcases hway with ⟨hka, ab, ao, rfl, qa⟩ | ⟨hka, rfl⟩
        · go_wp2_with (at_builtin; refine wpList_append_own _ rfl _ _ 38 rfl W.heap.size 45 iT (.agg #[.int .i64 0, .int .i64 0]) 2 16 Try.underlying38 hiT tz0 tz1 tz2 rfl (by decide) _ n _ rfl hown3 ⟨wr.heap.size, 0, none⟩ 1 1 [Value.int .i64 k, Value.int .i64 x] rfl rfl hnews (by simp [Value.oneCell']) (by unfold maxLen; omega) (by omega) hbs ?_; intro v5 w5 hrow5 hg5 hv5; obtain ⟨p6, c6, rfl, hle5, hbig5⟩ := own_slice hrow5)
          go_roundw
          case rel => exact ⟨k + 1, n + 1, p6, c6, by omega, by go_num, rfl, by rw [HS2.out, List.length_append, ← HN.out]; rfl, by rw [HS2.out, List.flatMap_append]; exact hrow5, HE.out w5 hg5⟩
          case measure => simp [intOf]; omega
        · go_wp2_with (at_builtin; refine wpList_append_own _ rfl _ _ 38 rfl W.heap.size 45 iT (.agg #[.int .i64 0, .int .i64 0]) 2 16 Try.underlying38 hiT tz0 tz1 tz2 rfl (by decide) _ n _ rfl hown3 ⟨wr.heap.size, 0, none⟩ 1 1 [Value.int .i64 k, Value.int .i64 x] rfl rfl hnews (by simp [Value.oneCell']) (by unfold maxLen; omega) (by omega) hbs ?_; intro v5 w5 hrow5 hg5 hv5; obtain ⟨p6, c6, rfl, hle5, hbig5⟩ := own_slice hrow5)
          go_roundw
          case rel => exact ⟨k + 1, n + 1, p6, c6, by omega, by go_num, rfl, by rw [HS2.out, List.length_append, ← HN.out]; rfl, by rw [HS2.out, List.flatMap_append]; exact hrow5, HE.out w5 hg5⟩
          case measure => simp [intOf]; omega
    · obtain rfl : k = b.length := by omega
      rw [HD.out] at hown hnl
      have HN := Lib.hid hnl; clear hnl
      go_wp2_with fail
      go_ret
      refine ⟨⟨p5, c5, deltaL a b⟩, by show _ = Ending.returned (Value.slice p5 (deltaL a b).length c5); rw [← HN.out]; rfl, rfl, ⟨?_, fun _ _ => trivial⟩, hbel⟩
      have := Sl.of_own hown
      show Sl wr 2 p5 (deltaL a b).length c5 _
      rw [← HN.out]; exact this
/-- The row that is patched. -/
structure PtI (W wr : World) (L : List Int) : Prop where
  blk : Blk wr W.heap.size (ints .i64 L).toArray 3
  bel : Below W.heap.size W wr
theorem PtI.sl {W wr : World} {L : List Int} (h : PtI W wr L) (hl : L.length ≤ 9223372036854775807) : SlI wr (some ⟨W.heap.size, 0, none⟩) L.length L := by
  refine ⟨⟨W.heap.size, 0, fun _ => ⟨rfl, h.blk.lt⟩, fun i hi => ?_⟩, by simp, Nat.le_refl _, hl, fun h => by cases h⟩
  rw [Nat.zero_add, h.blk.cell]
  simp
theorem PtI.set {W wr : World} {L : List Int} (h : PtI W wr L) (k : Nat) (v : Int) : PtI W (wr.setCell ⟨W.heap.size, k, none⟩ (.int .i64 v)) (L.set k v) := by
  refine ⟨?_, h.bel.setCell (p := ⟨W.heap.size, k, none⟩) (Nat.le_refl _) _⟩
  have := h.blk.set k (.int .i64 v)
  rwa [List.setIfInBounds_toArray, show (ints .i64 L).set k (.int .i64 v) = ints .i64 (L.set k v) from by simp [ints, List.map_set]] at this
theorem PtI.alloc {W wr : World} {L : List Int} (h : PtI W wr L) (o : Obj) : PtI W (wr.alloc o) L := ⟨h.blk.alloc o, h.bel.alloc h.bel.size o⟩
theorem splice_pad {a : List Int} {n : Nat} : splice (ints .i64 (List.replicate n 0)) 0 (ints .i64 (a.take n)) = ints .i64 (padL a n) := by
  unfold splice
  rw [List.take_zero, List.nil_append, Nat.zero_add, ints_length, ← ints_drop, ← ints_append]
  congr 1
  refine ext_getD (by simp [padL]; omega) fun j hj => ?_
  have hjn : j < n := by simp at hj; omega
  rw [pad_get hjn]
  by_cases hja : j < a.length
  · rw [List.getD_eq_getElem?_getD, List.getElem?_append_left (by simp; omega), List.getElem?_take_of_lt hjn, List.getD_eq_getElem?_getD]
  · rw [List.getD_eq_getElem?_getD, List.getElem?_append_right (by simp; omega), List.getElem?_drop, List.getElem?_replicate, List.getD_eq_getElem?_getD, List.getElem?_eq_none (l := a) (by omega)]
    split <;> rfl
theorem copy_prep {W w1 : World} {p : Option Addr} {c1 n : Nat} {a : List Int} (hA : SlI W p c1 a) (hown : w1.ownsRow W.heap.size 3 1 (.slice (some ⟨W.heap.size, 0, none⟩) n n) n (madeCells (Value.int .i64 0).cells (n * 1)).toList) (hg : W.grownBy w1 none) :
    ∃ R0 X : List Value, X.length = Nat.min a.length n ∧ (0 < X.length → (some ⟨W.heap.size, 0, none⟩ : Option Addr) = some ⟨W.heap.size, 0, none⟩ ∧ ∃ ad, p = some ad ∧ ∀ j v, X[j]? = some v → w1.cell? (ad.add j) = some v) ∧ (∀ v ∈ X, v.oneCell' = true) ∧ 0 + X.length ≤ R0.length ∧
      w1.heap[W.heap.size]? = some (.cells R0.toArray 3 (0, 0)) ∧ Below W.heap.size W w1 ∧ Hid (splice R0 0 X = ints .i64 (padL a n)) := by
  have hb1 : Below W.heap.size W w1 := (Below.refl _ W).grown hg (Nat.le_refl _) (fun r e => by cases e)
  have hXl : (ints .i64 (a.take n)).length = Nat.min a.length n := by simp [Nat.min_comm]
  refine ⟨ints .i64 (List.replicate n 0), ints .i64 (a.take n), hXl, fun h0 => ?_, ints_one, by rw [hXl]; simp; exact Nat.min_le_right _ _, ?_, hb1, splice_pad⟩
  · have hA1 := hA.below hb1
    obtain ⟨ab, ao, hp, -, -⟩ := Sl.int_at hA1 (i := 0) (by rw [hXl] at h0; have h9 : Nat.min a.length n ≤ a.length := Nat.min_le_left a.length n; omega)
    subst hp
    refine ⟨rfl, _, rfl, fun j v hj => ?_⟩
    rw [add_lit']
    refine hA1.row.at_ ?_
    rw [ints_take] at hj
    have hj2 : j < n := by
      have := (List.getElem?_eq_some_iff.1 hj).1
      simp at this; omega
    rwa [List.getElem?_take_of_lt hj2] at hj
  · rcases hown.2 with ⟨hv, _⟩ | ⟨g, cap, cur, hv, hb, hgg, hnc, hm, hs, ht⟩
    · cases hv
    · cases hv
      have e : cur.toList = ints .i64 (List.replicate n 0) := by
        rw [List.take_of_length_le (by simp [hs])] at ht
        rw [ht, Nat.mul_one, show (Value.int .i64 0).cells = #[Value.int .i64 0] from rfl, toList_madeCells_one]
        simp [ints]
      rw [hgg, ← e]
theorem infoI_size : (Try.prog.info? 3).map (·.size) = some 1 := by kernel_rfl
set_option maxRecDepth 100000 in
set_option maxHeartbeats 2000000 in
theorem Patched_any {W : World} {p : Option Addr} {c1 n : Nat} {a : List Int} (hA : SlI W p c1 a) (hn : n ≤ 20000) {s : Sv Pa} (hS : RdPa W s) (hok : OkP n s.l) :
    Calls Try.prog 12 #[.slice p a.length c1, .int .i64 n, s.val] W fun r W' => ∃ q, r = .returned (.tuple #[.slice q n n, .int .i64 0]) ∧ Sl W' 1 q n n (ints .i64 (applyL (padL a n) s.l)) ∧ Below W.heap.size W W' := by
  obtain ⟨sp, sc, sl⟩ := s
  obtain ⟨i0, hi0, iz0, iz1, iz2⟩ := info_parts infoI
  have hsl : sl.length ≤ 9223372036854775807 := Nat.le_trans hS.row.le hS.row.big
  dsimp only [Sv.val] at *
  have HOK := Lib.hid hok; clear hok
  have q0 : ¬ (20000 : Int) < (n : Int) := by omega
  have q0' : decide (20000 < n) = false := decide_eq_false (by omega)
  have q0'' : ¬ 20000 < n := by omega
  go_enter Try.func12, Try.ntmps12
  go_wp2_with (first | (at_make; refine wpList_make_full _ rfl _ _ 31 rfl W.heap.size 3 i0 (.int .i64 0) 1 Try.underlying31 hi0 iz0 iz1 .i64 .i64 _ _ n rfl rfl rfl rfl (by rw [iz2]; omega) (by unfold maxLen; omega) (Nat.le_refl _) ?_; intro w1 hown hg) | (obtain ⟨R0, X, hXl, hpos, hone, hfit, hbl0, hb1, HX⟩ := copy_prep hA hown hg; refine wpList_copy_splice rfl _ _ 31 31 rfl 3 Try.underlying31 infoI_size (some ⟨W.heap.size, 0, none⟩) p n n a.length c1 rfl rfl W.heap.size 0 R0 3 hbl0 X hXl hpos hfit hone W.heap.size W hb1 (Nat.le_refl _) ?_; clear hown hg hbl0 hXl hpos hfit hone hb1; intro w2 HG2 hB2))
  have hI0 : PtI W w2 (applyL (padL a n) (sl.take 0)) := by
    have := HG2.out
    rw [HX.out] at this
    exact ⟨this, hB2⟩
  clear HG2 hB2 HX hA
  have hfirst : Hid (0 < sl.length → (-1 : Int) < (sl.getD 0 default).a) := fun h => by
    have := (HOK.out.lo (sl.getD 0 default) (by simp [h])).1
    omega
  go_loopw [9, 25] (fun s9 s25 wr => ∃ (k : Nat) (la : Int), k ≤ sl.length ∧ s25 = .int .i64 k ∧ s9 = .int .i64 la ∧ Hid (k < sl.length → la < (sl.getD k default).a) ∧ PtI W wr (applyL (padL a n) (sl.take k))) (fun _ s25 _ => sl.length - (intOf s25).toNat)
  case atStart => exact ⟨0, -1, Nat.zero_le _, rfl, rfl, hfirst, hI0⟩
  case round =>
    clear hI0 hfirst
    obtain ⟨k, la, hk, rfl, rfl, hla, hI⟩ := hrel
    by_cases hlt : k < sl.length
    · obtain ⟨b, off, hp, hb, hc⟩ := (RdPa.st _ _ _ hS hI.bel).at_ (fun _ => rfl) (by omega) hlt default
      have hx : sl.getD k default ∈ sl := by simp [hlt]
      obtain ⟨hx0, hxn⟩ := HOK.out.lo _ hx
      have hxl := hla.out hlt
      have hnext : Hid (k + 1 < sl.length → (sl.getD k default).a < (sl.getD (k + 1) default).a) := fun h => by
        have := List.pairwise_iff_getElem.1 HOK.out.up k (k + 1) hlt h (by omega)
        rw [List.getD_eq_getElem?_getD, List.getElem?_eq_getElem hlt, List.getD_eq_getElem?_getD, List.getElem?_eq_getElem h]
        exact this
      have hstep : applyL (padL a n) (sl.take (k + 1)) = (applyL (padL a n) (sl.take k)).set (sl.getD k default).a.toNat (sl.getD k default).v := by
        unfold applyL
        rw [List.take_add_one, List.foldl_append, List.getElem?_eq_getElem hlt]
        simp [hlt]
      have hLl : (applyL (padL a n) (sl.take k)).length = n := by rw [apply_len, pad_len]
      generalize sl.getD k default = x at *
      have c0 : wr.cell? ⟨b, off + k * 2, none⟩ = some (.int .i64 x.a) := hc 0 _ rfl
      have c1' : wr.cell? ⟨b, off + k * 2 + 1, none⟩ = some (.int .i64 x.v) := hc 1 _ rfl
      obtain ⟨xa, xv⟩ := x
      obtain ⟨A, rfl⟩ := Int.eq_ofNat_of_zero_le hx0
      dsimp only at *
      rw [Int.toNat_natCast] at hstep
      clear hc hla
      subst hp
      have hI2 := hI.alloc (.cells #[.int .i64 A, .int .i64 xv] 45)
      have hI3 := hI2.set A xv
      rw [← hstep] at hI3
      have qs : (wr.alloc (.cells #[.int .i64 A, .int .i64 xv] 45)).cell? ⟨W.heap.size, A, none⟩ = some (.int .i64 ((applyL (padL a n) (sl.take k)).getD A 0)) := by
        rw [hI2.blk.cell]
        have : A < n := by omega
        simp [ints, hLl, this]
      have fs := hI2.blk.frozen A
      have HI3 := Lib.hid hI3; clear hI3 hI2 hI hstep hLl
      have t1 : decide ((A : Int) ≤ la) = false := decide_eq_false (by omega)
      have t2 : decide ((n : Int) ≤ (A : Int)) = false := decide_eq_false (by omega)
      have t3 : decide (n ≤ A) = false := decide_eq_false (by omega)
      have t4 : A < n := by omega
      generalize (applyL (padL a n) (sl.take k)).getD A 0 = old at *
      go_wp2_with fail
      go_roundw
      case rel => exact ⟨k + 1, A, by omega, by go_num, rfl, hnext, HI3.out⟩
      case measure => simp [intOf]; omega
    · obtain rfl : k = sl.length := by omega
      rw [List.take_length] at hI
      have hLl : (applyL (padL a n) sl).length = n := by rw [apply_len, pad_len]
      have hsl2 : Sl wr 1 (some ⟨W.heap.size, 0, none⟩) (applyL (padL a n) sl).length (applyL (padL a n) sl).length (ints .i64 (applyL (padL a n) sl)) := hI.sl (by rw [hLl]; omega)
      rw [hLl] at hsl2
      have hbel := hI.bel
      clear hI hla
      go_wp2_with fail
      go_ret2
      exact ⟨_, rfl, hsl2, hbel⟩
end Go.Proofs.Ythdleldnjoamlaa
