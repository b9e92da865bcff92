/-
  slices.Insert of one number into a row of the call's own.
-/
import Derived.Test.YtbnmpagjfihjjaaShelf
import Derived.Test.YtbnmpagjfihjjaaInts
import Derived.Test.YtbnmpagjfihjjaaBlk
import Derived.Shelf.Spec.SlicesInsert
import Derived.Shelf.Spec.SlicesInsertGrow
import Derived.Lib.LazyBuf
namespace Go.Proofs.Ytbnmpagjfihjjaa
open Go.RowKit

theorem grown_setCells (g : Nat) : ∀ (vs : List Value) (o : Nat) (w : World), w.grownBy (w.setCells g o vs) (some g)
  | [], _, _ => World.grownBy.refl _ _
  | v :: r, o, w => grown_trans (grown_set w g o v) (grown_setCells g r (o + 1) _)
theorem arr_some {cur : Array Value} {j : Nat} (h : j < cur.size) : cur[j]? = some (cur[j]?.getD default) := by
  rw [Array.getElem?_eq_getElem h]; rfl
theorem rowIs_drew {w : World} {b n : Nat} {t : TypeId} {f : Nat → Value} (h : w.rowIs b t n f) : w.drew.rowIs b t n f := h
theorem own_of_row {w : World} {base b n c : Nat} {f : Nat → Value} {xs : List Value} (h : w.rowIs b 3 c f) (hb : base ≤ b) (hn : n ≤ c) (hc : c ≤ 9223372036854775807) (hl : xs.length = n) (hx : ∀ j, j < n → xs[j]? = some (f j)) : w.ownsRow base 3 1 (.slice (some ⟨b, 0, none⟩) n c) n xs := by
  obtain ⟨cur, h1, h2, h3⟩ := h
  refine ⟨by rw [hl, Nat.mul_one], .inr ⟨b, c, cur, rfl, hb, h1, hn, by unfold maxLen; exact hc, by rw [h2, Nat.mul_one], ?_⟩⟩
  refine List.ext_getElem? fun j => ?_
  rw [Nat.mul_one]
  by_cases hj : j < n
  · rw [List.getElem?_take_of_lt hj, hx j hj, Array.getElem?_toList, h3 j (by omega)]
  · rw [List.getElem?_eq_none (by simp; omega), List.getElem?_eq_none (by omega)]
theorem ins_get (l : List Int) {i : Nat} (hi : i ≤ l.length) (x : Int) (j : Nat) : (ints .i64 (l.take i ++ x :: l.drop i))[j]? = if j < i then (ints .i64 l)[j]? else if j = i then some (.int .i64 x) else (ints .i64 l)[j - 1]? := by
  have hl : (l.take i).length = i := by rw [List.length_take]; omega
  rw [ints_get, ints_get, ints_get]
  split
  · next h => rw [List.getElem?_append_left (by omega), List.getElem?_take_of_lt h]
  · next h =>
    rw [List.getElem?_append_right (by omega), hl]
    split
    · next e => rw [e, Nat.sub_self]; rfl
    · next e =>
      rw [show j - i = (j - 1 - i) + 1 from by omega, List.getElem?_cons_succ, List.getElem?_drop]
      congr 2
      omega
theorem ins_len (l : List Int) {i : Nat} (hi : i ≤ l.length) (x : Int) : (ints .i64 (l.take i ++ x :: l.drop i)).length = l.length + 1 := by
  rw [ints_length, List.length_append, List.length_cons, List.length_take, List.length_drop]
  omega

set_option maxHeartbeats 2000000 in
theorem insert_any {w : World} {base : Nat} {p : Option Addr} {cap : Nat} {l : List Int} {i vb : Nat} {x : Int} (h : OwnI w base p cap l) (hbase : base ≤ w.heap.size) (hi : i ≤ l.length) (hl : l.length ≤ 1000)
    (hv : Blk w vb #[.int .i64 x] 3) (hne : (Value.slice p l.length cap).ownBlock ≠ some vb) :
    Calls Try.prog 23 #[.slice p l.length cap, .int .i64 i, .slice (some ⟨vb, 0, none⟩) 1 1] w fun e w' => ∃ p' c', e = .returned (.slice p' (l.length + 1) c') ∧
      w'.ownsRow base 3 1 (.slice p' (l.length + 1) c') (l.length + 1) (ints .i64 (l.take i ++ x :: l.drop i)) ∧ w.grownBy w' (Value.slice p l.length cap).ownBlock ∧
      ((Value.slice p' (l.length + 1) c').ownBlock = (Value.slice p l.length cap).ownBlock ∨ (Value.slice p' (l.length + 1) c').ownBlock = some w.heap.size) := by
  have hvs : ∀ j v, [Value.int .i64 x][j]? = some v → w.cell? ⟨vb, 0 + j, none⟩ = some v := fun j v hj => by
    rw [Nat.zero_add, hv.cell j]
    simpa using hj
  have h1v : ∀ v ∈ [Value.int .i64 x], v.oneCell' = true := fun v hv => by obtain rfl := List.mem_singleton.1 hv; rfl
  have hg0 : ∀ W W', w.grownBy W none → W.grownBy W' none → w.grownBy W' (Value.slice p l.length cap).ownBlock := fun W W' a b =>
    ⟨b.os.trans a.os, b.tape.trans a.tape, b.output.trans a.output, Nat.le_trans a.size b.size, fun k hk _ => (b.block k (Nat.lt_of_lt_of_le hk a.size) (by simp)).trans (a.block k hk (by simp))⟩
  rcases h.2 with ⟨hv0, hn0⟩ | ⟨g, cap', cur, hv0, hbg, hg, hnc, hcm, hcs, ht⟩
  · -- nothing there
    have : l = [] := List.length_eq_zero_iff.1 hn0
    subst this
    simp only [Value.slice.injEq] at hv0
    obtain ⟨rfl, -, rfl⟩ := hv0
    obtain rfl : i = 0 := by simpa using hi
    have hc := Any2.slices_Insert_int_end_grow Try.insert none 0 0 vb 0 1 1 [] [.int .i64 x] w (by decide) (by decide) (by decide) (by decide) rfl rfl (fun _ => rfl) (fun a ha => by cases ha) hvs h1v
    change Calls Try.prog 23 _ _ _ at hc
    simp only [show Try.insert_ren.t 3 = 3 from rfl] at hc
    refine hc.mono ?_
    rintro e w' ⟨rfl, rfl⟩
    have hge := grownCap_ge w 1 0 3
    have hle := grownCap_le_maxLen w 1 0 3 (by unfold maxLen; omega)
    unfold maxLen at hle
    refine ⟨some ⟨w.heap.size, 0, none⟩, _, rfl, own_of_row (f := fun j => ((([] ++ [Value.int .i64 x]).toArray ++ Builtin.zeroCells (Value.int .i64 0).cells (grownCap w (0 + 1) 0 3 - (0 + 1)))[j]?).getD default) ⟨_, World.alloc_heap_new w.drew _, ?_, fun j hj => ?_⟩ hbase hge hle rfl fun j hj => ?_, ?_, .inr rfl⟩
    · simp [Builtin.zeroCells, Value.cells]; omega
    · have hj' : j < grownCap w 1 0 3 := hj
      exact arr_some (by simp [Builtin.zeroCells, Value.cells]; omega)
    · obtain rfl : j = 0 := by simpa using hj
      rw [Array.getElem?_append_left (by simp)]
      rfl
    · exact hg0 w.drew _ ⟨rfl, rfl, rfl, Nat.le_refl _, fun _ _ _ => rfl⟩ (World.grownBy_alloc _ _ _)
  · cases hv0
    have hob : (Value.slice (some ⟨g, 0, none⟩) l.length cap).ownBlock = some g := rfl
    rw [hob] at hne ⊢
    have hgw : g < w.heap.size := (Array.getElem?_eq_some_iff.1 hg).1
    rw [Nat.mul_one] at hcs
    unfold maxLen at hcm
    have hcells : ∀ j v, (ints .i64 l)[j]? = some v → w.cell? ⟨g, 0 + j, none⟩ = some v := fun j v hj => by
      rw [Nat.zero_add]
      have := h.cellAt j (by have := (List.getElem?_eq_some_iff.1 hj).1; simpa using this)
      rw [this, hj]
    have hB : Blk w g cur 3 := hg
    have hrow : w.rowIs g 3 cap (fun j => cur[j]?.getD default) := ⟨cur, hg, hcs, fun j hj => arr_some (by omega)⟩
    have hcur : ∀ j, j < l.length → some (cur[j]?.getD default) = (ints .i64 l)[j]? := fun j hj => by
      have := h.cellAt j (by omega)
      rw [hB.cell j] at this
      rw [← this, Array.getElem?_eq_getElem (by omega)]
      rfl
    have hlen : (ints .i64 l).length = l.length := ints_length _ _
    by_cases hroom : l.length + 1 ≤ cap
    · by_cases hin : i < l.length
      · have hc := Any2.slices_Insert_int_shift Try.insert g 0 l.length cap i vb 0 1 1 (ints .i64 l) [.int .i64 x] w hin (by decide) hroom hcm (fun e => hne (by rw [e])) hlen rfl hcells
          (fun j hj => by rw [Nat.zero_add, hB.cell j, Array.getElem?_eq_getElem (by omega)]; rfl) (fun j _ => hB.frozen _) hvs (fun v hv => ints_one v hv) h1v 3 3 1 cap (by unfold World.shape?; rw [show w.heap[vb]? = _ from hv]; rfl) (by unfold World.shape?; rw [hg]; simp [hcs]) (by omega) (hv.frozen _) (hv.frozen _)
        change Calls Try.prog 23 _ _ _ at hc
        try simp only [show Try.insert_ren.t 3 = 3 from rfl] at hc
        refine hc.mono ?_
        rintro e w' ⟨rfl, rfl⟩
        have hr1 := rowIs_setCells ((ints .i64 l).drop i) (0 + (i + 1)) w.drew _ (rowIs_drew hrow)
        have hr2 := rowIs_setCells [Value.int .i64 x] (0 + i) _ _ hr1
        refine ⟨_, _, rfl, own_of_row hr2 hbg hroom hcm (ins_len l hi x) fun j hj => ?_, ?_, .inl rfl⟩
        · rw [ins_get l hi x j]
          try dsimp only
          rw [List.length_drop, hlen, Nat.zero_add, Nat.zero_add]
          by_cases c1 : j < i
          · rw [if_pos c1, if_neg (by simp; omega), if_neg (by omega), hcur j (by omega)]
          · rw [if_neg c1]
            by_cases c2 : j = i
            · rw [if_pos c2, if_pos (by simp; omega), c2, Nat.sub_self]; rfl
            · rw [if_neg c2, if_neg (by simp; omega), if_pos (by omega), List.getElem?_drop, show i + (j - (i + 1)) = j - 1 from by omega, List.getElem?_eq_getElem (by rw [hlen]; omega)]
              rfl
        · have a : w.grownBy w.drew (some g) := ⟨rfl, rfl, rfl, Nat.le_refl _, fun _ _ _ => rfl⟩
          exact grown_trans (grown_trans a (grown_setCells g _ _ _)) (grown_setCells g _ _ _)
      · obtain rfl : i = l.length := by omega
        have hc := Any2.slices_Insert_int_end_room Try.insert g 0 l.length cap vb 0 1 1 [.int .i64 x] w (by decide) hroom hcm rfl (fun j hj => by rw [hB.cell, Array.getElem?_eq_getElem (by omega)]; rfl) (fun j _ => hB.frozen _) hvs h1v
        change Calls Try.prog 23 _ _ _ at hc
        try simp only [show Try.insert_ren.t 3 = 3 from rfl] at hc
        refine hc.mono ?_
        rintro e w' ⟨rfl, rfl⟩
        have hr2 := rowIs_setCells [Value.int .i64 x] (0 + l.length) w _ hrow
        refine ⟨_, _, rfl, own_of_row hr2 hbg hroom hcm (ins_len l hi x) fun j hj => ?_, grown_setCells g _ _ _, .inl rfl⟩
        rw [ins_get l hi x j]
        try dsimp only
        rw [Nat.zero_add]
        by_cases c1 : j < l.length
        · rw [if_pos c1, if_neg (by simp; omega), hcur j c1]
        · rw [if_neg c1, if_pos (show j = l.length by omega), if_pos (by simp; omega), show j - l.length = 0 from by omega]
          rfl
    · have hge := grownCap_ge w (l.length + 1) cap 3
      have hle := grownCap_le_maxLen w (l.length + 1) cap 3 (by unfold maxLen; omega)
      unfold maxLen at hle
      by_cases hin : i < l.length
      · have hc := Any2.slices_Insert_int_grow Try.insert g 0 l.length cap i vb 0 1 1 (ints .i64 l) [.int .i64 x] w hin (by decide) hnc (by omega) (by omega) hlen rfl hcells hvs (fun v hv => ints_one v hv) h1v
        change Calls Try.prog 23 _ _ _ at hc
        try simp only [show Try.insert_ren.t 3 = 3 from rfl] at hc
        refine hc.mono ?_
        rintro e w' ⟨rfl, rfl⟩
        have hr0 : (w.alloc (.cells (((ints .i64 l).take i).toArray ++ Builtin.zeroCells (Value.int .i64 0).cells (l.length + 1 - i) ++ Builtin.zeroCells (Value.int .i64 0).cells (grownCap w (l.length + 1) cap 3 - (l.length + 1))) 3)).rowIs w.heap.size 3 (grownCap w (l.length + 1) cap 3) (fun j => (((((ints .i64 l).take i).toArray ++ Builtin.zeroCells (Value.int .i64 0).cells (l.length + 1 - i) ++ Builtin.zeroCells (Value.int .i64 0).cells (grownCap w (l.length + 1) cap 3 - (l.length + 1))))[j]?).getD default) := by
          refine ⟨_, World.alloc_heap_new w _, ?_, fun j hj => ?_⟩
          · simp [Builtin.zeroCells, Value.cells]; omega
          · exact arr_some (by simp [Builtin.zeroCells, Value.cells]; omega)
        have hr1 := rowIs_setCells [Value.int .i64 x] i _ _ (rowIs_drew hr0)
        have hr2 := rowIs_setCells ((ints .i64 l).drop i) (i + 1) _ _ (rowIs_drew hr1)
        refine ⟨_, _, rfl, own_of_row hr2 hbase hge hle (ins_len l hi x) fun j hj => ?_, ?_, .inr rfl⟩
        · rw [ins_get l hi x j]
          try dsimp only
          rw [List.length_drop, hlen]
          by_cases c1 : j < i
          · rw [if_pos c1, if_neg (by omega), if_neg (by simp; omega)]
            rw [Array.getElem?_append_left (by simp; omega), Array.getElem?_append_left (by simp; omega)]
            simp only [List.getElem?_toArray, List.getElem?_take_of_lt c1]
            rw [List.getElem?_eq_getElem (by rw [hlen]; omega)]
            rfl
          · rw [if_neg c1]
            by_cases c2 : j = i
            · rw [if_pos c2, if_neg (by omega), if_pos (by simp; omega), c2, Nat.sub_self]; rfl
            · rw [if_neg c2, if_pos (by omega), List.getElem?_drop, show i + (j - (i + 1)) = j - 1 from by omega, List.getElem?_eq_getElem (by rw [hlen]; omega)]
              rfl
        · have a : Below w.heap.size w (w.alloc (.cells (((ints .i64 l).take i).toArray ++ Builtin.zeroCells (Value.int .i64 0).cells (l.length + 1 - i) ++ Builtin.zeroCells (Value.int .i64 0).cells (grownCap w (l.length + 1) cap 3 - (l.length + 1))) 3)).drew := ((Below.refl _ _).alloc (Nat.le_refl _) _).drew
          exact grown_of_below (below_setCells (Nat.le_refl _) _ _ _ (Below.drew (below_setCells (Nat.le_refl _) _ _ _ a))) _
      · obtain rfl : i = l.length := by omega
        have hc := Any2.slices_Insert_int_end_grow Try.insert (some ⟨g, 0, none⟩) l.length cap vb 0 1 1 (ints .i64 l) [.int .i64 x] w (by decide) hnc (by omega) (by omega) hlen rfl (fun e => by cases e) (fun a ha j v hj => by
          cases ha
          rw [add_lit']
          exact hcells j v hj) hvs h1v
        change Calls Try.prog 23 _ _ _ at hc
        try simp only [show Try.insert_ren.t 3 = 3 from rfl] at hc
        refine hc.mono ?_
        rintro e w' ⟨rfl, rfl⟩
        refine ⟨some ⟨w.heap.size, 0, none⟩, _, rfl, own_of_row (f := fun j => (((ints .i64 l ++ [Value.int .i64 x]).toArray ++ Builtin.zeroCells (Value.int .i64 0).cells (grownCap w (l.length + 1) cap 3 - (l.length + 1)))[j]?).getD default) ⟨_, World.alloc_heap_new w.drew _, ?_, fun j hj => ?_⟩ hbase hge hle (ins_len l hi x) fun j hj => ?_, ?_, .inr rfl⟩
        · simp [Builtin.zeroCells, Value.cells]; omega
        · exact arr_some (by simp [Builtin.zeroCells, Value.cells]; omega)
        · try dsimp only
          rw [Array.getElem?_append_left (by simp; omega), List.getElem?_toArray, List.take_length, List.drop_length, ints_append]
          rw [show ints .i64 [x] = [Value.int .i64 x] from rfl, List.getElem?_eq_getElem (by simp; omega)]
          rfl
        · exact hg0 w.drew _ ⟨rfl, rfl, rfl, Nat.le_refl _, fun _ _ _ => rfl⟩ (World.grownBy_alloc _ _ _)
end Go.Proofs.Ytbnmpagjfihjjaa
