/-
  slices.Backward over events: its contract.
-/
import Derived.RangeFuncBox
import Derived.RangeFuncNested
import Derived.RangeFuncLeaves
import Derived.RangeFuncCalls
import Derived.Shelf.Abstract
import Derived.WalkKit
import Derived.OwnWalkIn
import Derived.TacticsInMore
import Derived.LoopNIn
import Derived.LoopIn
import Derived.Test.YtngippkfmdcdoaaProg
import Derived.Test.YtngippkfmdcdoaaParts
namespace Go.Proofs.Ytngippkfmdcdoaa
open Go.RowKit Go.Shelf

attribute [local go_sem] Oper.semAt_some

/-- What has come when k rounds are over. -/
def down (l : List Ev) (k : Nat) : List (Nat × Ev) := (List.range k).map fun j => (l.length - 1 - j, l.getD (l.length - 1 - j) .z)
theorem down_succ (l : List Ev) (k : Nat) : down l (k + 1) = down l k ++ [(l.length - 1 - k, l.getD (l.length - 1 - k) .z)] := by simp [down, List.range_succ]
theorem down_mem {l : List Ev} {j k : Nat} (h1 : j < l.length) (h2 : l.length - 1 - j < k) : (j, l.getD j .z) ∈ down l k := by
  refine List.mem_map.2 ⟨l.length - 1 - j, List.mem_range.2 h2, ?_⟩
  rw [show l.length - 1 - (l.length - 1 - j) = j from by omega]
theorem at_take {l l' : List Ev} {n j : Nat} (hl : l.take n = l') (hj : j < n) : at_ l j = l'.getD j .z := by
  subst hl
  unfold at_
  rw [List.getD_eq_getElem?_getD, List.getD_eq_getElem?_getD, List.getElem?_take, if_pos hj]
theorem down_none {l l' : List Ev} {n : Nat} (hl : l.take n = l') (hn : n = l'.length) (P : Ev → Bool) (h : ∀ x ∈ down l' l'.length, P x.2 = false) : lastBelow (fun j => P (at_ l j)) n = none :=
  lastBelow_none fun j hj => by
    rw [at_take hl hj]
    exact h _ (down_mem (by omega) (by omega))
theorem down_some {l l' : List Ev} {n k : Nat} (hl : l.take n = l') (hn : n = l'.length) (P : Ev → Bool) {ini : List (Nat × Ev)} {x : Nat × Ev} (hk : k ≤ l'.length) (e : down l' k = ini ++ [x]) (h : ∀ y ∈ ini, P y.2 = false) (hx : P x.2 = true) :
    lastBelow (fun j => P (at_ l j)) n = some x.1 ∧ at_ l x.1 = x.2 ∧ x.1 < n := by
  cases k with
  | zero => simp [down] at e
  | succ k =>
    rw [down_succ] at e
    obtain ⟨rfl, e2⟩ := List.append_inj' e rfl
    simp only [List.cons.injEq, and_true] at e2
    subst e2
    dsimp only at hx ⊢
    have hj : l'.length - 1 - k < n := by omega
    refine ⟨lastBelow_some hj (fun y h1 h2 => ?_) (by rw [at_take hl hj]; exact hx), at_take hl hj, hj⟩
    rw [at_take hl h2]
    exact h _ (down_mem (by omega) (by omega))
theorem down_length (l : List Ev) (k : Nat) : (down l k).length = k := by simp [down]

set_option maxRecDepth 100000 in
set_option maxHeartbeats 2000000 in
theorem back1_in (F : Fence) (n : Nat) (h7 : F.fn 17) (hro : F.round = none) (hn : 1 ≤ n) (y Bs n₀ b off cap : Nat) (l : List Ev) (hlen : l.length ≤ 1000000) (hb : b < n₀) (J Jx : List (Nat × Ev) → World → Prop)
    (hY : ∀ pre x W, J pre W → pre.length < l.length → YieldAt F (n - 1) Try.prog y #[.int .i64 (x.1 : Int), x.2.val] W fun e W' =>
      (e = .returned (.bool true) ∧ J (pre ++ [x]) W' ∧ Below n₀ W W') ∨ (e = .returned (.bool false) ∧ Jx (pre ++ [x]) W'))
    (W : World) (hBs : W.cell? ⟨Bs, 0, none⟩ = some (.slice (some ⟨b, off, none⟩) l.length cap)) (hBn : Bs < n₀) (hc : ∀ j, j < l.length → EvAt W b (off + j * 12) (l.getD j .z)) (h0 : J [] W) :
    CallsIn F n Try.prog 17 #[.func (.yield y) #[] #[], .pointer (some ⟨Bs, 0, none⟩)] W fun e W' => (∃ v, e = .returned v) ∧
      ((∃ ys, ys = down l l.length ∧ J ys W') ∨ (∃ pre, (∃ k, k ≤ l.length ∧ pre = down l k) ∧ Jx pre W')) := by
  refine callsIn_of_wp Try.func17 rfl h7 ?_ hro
  simp only [Try.ntmps17, List.size_toArray, List.length_cons, List.length_nil, Nat.reduceAdd, Nat.reduceSub, Array.replicate_succ, Array.replicate_zero, List.push_toArray, List.append_toArray, List.nil_append, List.cons_append]
  gi_wp2
  gi_loopw [3] (fun i wr => ∃ k : Nat, k ≤ l.length ∧ i = .int .i64 ((l.length : Int) - 1 - k) ∧ J (down l k) wr ∧ Below n₀ W wr)
    (fun i _ => (intOf i + 1).toNat)
  case atStart => exact ⟨0, Nat.zero_le _, by go_num, h0, Below.refl _ _⟩
  case round =>
    obtain ⟨k, hk, rfl, hJs, hnx⟩ := hrel
    by_cases hlt : k < l.length
    · obtain ⟨m, hm⟩ : ∃ m : Nat, m = l.length - 1 - k := ⟨_, rfl⟩
      have hi : (l.length : Int) - 1 - k = (m : Int) := by omega
      rw [hi]
      have hml : m < l.length := by omega
      have hml' : (m : Int) < (l.length : Int) := by omega
      have hEv := (hc m hml).below hnx hb
      have hBs' : wr.cell? ⟨Bs, 0, none⟩ = some (.slice (some ⟨b, off, none⟩) l.length cap) := (hnx.cell (p := ⟨Bs, 0, none⟩) hBn).trans hBs
      obtain ⟨e0, he0⟩ : ∃ e0, l.getD m .z = e0 := ⟨_, rfl⟩
      have hpre : down l (k + 1) = down l k ++ [(m, e0)] := by rw [down_succ, ← hm, he0]
      rw [he0] at hEv
      obtain ⟨fn, tmps, assign, body, hy, hR⟩ := hY _ (m, e0) wr hJs (by rw [down_length]; exact hlt)
      rw [← hpre] at hR
      have Hl := Lib.hid hlt; have Hm := Lib.hid hm; have Hi := Lib.hid hi; have Hp := Lib.hid hpre; have He := Lib.hid he0; clear hm hi hpre he0 hml hlt hk
      dsimp only [Ev.val] at hy
      obtain ⟨c0, c1, c2, c3, c4, c5, c6, c7, c8, c9, c10, c11⟩ := hEv
      gi_wp2
      refine hR.mono ?_
      rintro e W3 (⟨rfl, hJ3, hk3⟩ | ⟨rfl, hJx3⟩)
      · -- the round goes on
        gi_wp2
        go_roundw
        case rel => exact ⟨k + 1, by have := Hl.out; omega, by have := Hm.out; have := Hl.out; go_num, hJ3, hnx.trans hk3⟩
        case measure => simp [intOf]
      · gi_wp2
        refine bodyPost_ret (results_none rfl _ _ _) rfl ?_
        exact ⟨⟨_, rfl⟩, .inr ⟨_, ⟨k + 1, by have := Hl.out; omega, rfl⟩, hJx3⟩⟩
    · obtain rfl : k = l.length := by omega
      have hi : (l.length : Int) - 1 - l.length = -1 := by omega
      rw [hi]
      gi_wp2
      go_end0
      exact ⟨⟨_, rfl⟩, .inl ⟨_, rfl, hJs⟩⟩

set_option maxRecDepth 100000 in
set_option maxHeartbeats 1000000 in
theorem back1_nil_in (F : Fence) (n : Nat) (h7 : F.fn 17) (hro : F.round = none) (y Bs cap : Nat) (p : Option Addr) (J : List (Nat × Ev) → World → Prop) (W : World) (hBs : W.cell? ⟨Bs, 0, none⟩ = some (.slice p 0 cap)) (h0 : J [] W) :
    CallsIn F n Try.prog 17 #[.func (.yield y) #[] #[], .pointer (some ⟨Bs, 0, none⟩)] W fun e W' => (∃ v, e = .returned v) ∧ J [] W' := by
  refine callsIn_of_wp Try.func17 rfl h7 ?_ hro
  simp only [Try.ntmps17, List.size_toArray, List.length_cons, List.length_nil, Nat.reduceAdd, Nat.reduceSub, Array.replicate_succ, Array.replicate_zero, List.push_toArray, List.append_toArray, List.nil_append, List.cons_append]
  gi_wp2
  gi_loopw [3] (fun i wr => i = .int .i64 (-1) ∧ J [] wr) (fun _ _ => 0)
  case atStart => exact ⟨rfl, h0⟩
  case round =>
    obtain ⟨rfl, hJs⟩ := hrel
    gi_wp2
    go_end0
    exact ⟨⟨_, rfl⟩, hJs⟩

set_option maxHeartbeats 1000000 in
theorem back_in (F : Fence) (n : Nat) (h5 : F.fn 15) (hro : F.round = none) (a : Option Addr) (len cap : Nat) (w : World) :
    CallsIn F n Try.prog 15 #[.slice a len cap] w fun e w' => e = .returned (.func (.func 17) #[] #[.pointer (some ⟨w.heap.size, 0, none⟩)]) ∧ w' = w.alloc (.cells #[.slice a len cap] 22) := by
  refine callsIn_of_wp Try.func15 rfl h5 ?_ hro
  simp only [Try.ntmps15, List.size_toArray, List.length_cons, List.length_nil, Nat.reduceAdd, Nat.reduceSub, Array.replicate_succ, Array.replicate_zero, List.push_toArray, List.append_toArray, List.nil_append, List.cons_append]
  gi_wp2
  go_ret
  exact ⟨rfl, rfl⟩

theorem back_stops (F : Fence) (n : Nat) (h7 : F.fn 17) (hro : F.round = none) (hn : 1 ≤ n) (Bs n₀ : Nat) (p : Option Addr) (cap : Nat) (l : List Ev) (hlen : l.length ≤ 1000000) (w : World) (hBs : Bs < n₀) (hn₀ : n₀ ≤ w.heap.size)
    (hc : w.cell? ⟨Bs, 0, none⟩ = some (.slice p l.length cap)) (b off : Nat) (hp : 0 < l.length → p = some ⟨b, off, none⟩ ∧ b < n₀) (hE : ∀ j, j < l.length → EvAt w b (off + j * 12) (l.getD j .z)) :
    SeqStopsK F n Try.prog 17 #[.pointer (some ⟨Bs, 0, none⟩)] (fun x : Nat × Ev => #[Value.int .i64 (x.1 : Int), x.2.val]) (Below n₀) (fun ys => ys = down l l.length)
      (fun pre => ∃ k, k ≤ l.length ∧ pre = down l k) l.length w := fun y J Jx W hW _ _ hY h0 => by
  have hc' := (hW.cell (p := ⟨Bs, 0, none⟩) (Nat.lt_of_lt_of_le hBs hn₀)).trans hc
  rcases Nat.eq_zero_or_pos l.length with hz | hz
  · rw [hz] at hc'
    exact (back1_nil_in F n h7 hro y Bs cap p J W hc' h0).mono fun e W' ⟨he, hj⟩ => ⟨he, .inl ⟨_, rfl, by rw [hz]; exact hj⟩⟩
  · obtain ⟨rfl, hb⟩ := hp hz
    exact back1_in F n h7 hro hn y Bs n₀ b off cap l hlen hb J Jx hY W hc' hBs (fun j hj => (hE j hj).below hW (Nat.lt_of_lt_of_le hb hn₀)) h0
end Go.Proofs.Ytngippkfmdcdoaa
