/-
  slices.Backward over pairs: its contract.
-/
import Derived.RangeFuncBox
import Derived.RangeFuncNested
import Derived.RangeFuncLeaves
import Derived.RangeFuncCalls
import Derived.Shelf.Abstract
import Derived.WalkKit
import Derived.OwnWalkIn
import Derived.TacticsInMore
import Derived.LoopNIn
import Derived.LoopIn
import Derived.Test.YtiaaoajnecppnaaCmp
import Derived.Test.YtiaaoajnecppnaaBlk
namespace Go.Proofs.Ytiaaoajnecppnaa
open Go.RowKit Go.Shelf

attribute [local go_sem] Oper.semAt_some

/-- The cells of one. -/
structure DpAt (w : World) (b off : Nat) (e : Dp) : Prop where
  h0 : w.cell? ⟨b, off, none⟩ = some (.int .i64 e.i)
  h1 : w.cell? ⟨b, off + 1, none⟩ = some (.int .i64 e.j)
theorem DpAt.below {w w' : World} {b off B : Nat} {e : Dp} (h : DpAt w b off e) (hw : Below B w w') (hb : b < B) : DpAt w' b off e :=
  ⟨(hw.cell (p := ⟨b, _, none⟩) hb).trans h.h0, (hw.cell (p := ⟨b, _, none⟩) hb).trans h.h1⟩
theorem sl_dp_at {w : World} {b off n cap i : Nat} {l : List Dp} (h : Sl w 2 (some ⟨b, off, none⟩) n cap (dps l)) (hi : i < l.length) : DpAt w b (off + i * 2) (l.getD i .z) := by
  have key : ∀ j (v : Value), j < 2 → (l.getD i .z).cells[j]? = some v → w.cell? ⟨b, off + i * 2 + j, none⟩ = some v := fun j v hj hv => by
    rw [Nat.add_assoc]
    exact h.row.at_ (by rw [dps_get hi hj]; exact hv)
  exact ⟨key 0 _ (by omega) rfl, key 1 _ (by omega) rfl⟩
/-- What has come when k rounds are over. -/
def down (l : List Dp) (k : Nat) : List (Nat × Dp) := (List.range k).map fun j => (l.length - 1 - j, l.getD (l.length - 1 - j) .z)
theorem down_succ (l : List Dp) (k : Nat) : down l (k + 1) = down l k ++ [(l.length - 1 - k, l.getD (l.length - 1 - k) .z)] := by simp [down, List.range_succ]
theorem down_length (l : List Dp) (k : Nat) : (down l k).length = k := by simp [down]
theorem down_all (l : List Dp) : (down l l.length).map (·.2) = l.reverse := by
  apply List.ext_getElem
  · simp [down]
  · intro i h1 h2
    simp [down] at h1
    have e : l.length - 1 - i < l.length := by omega
    simp [down, List.getD, List.getElem?_eq_getElem e]

/-- What lay below n₀ lies on; the iterator's box, too. -/
structure KpD (n₀ Bs : Nat) (v : Value) (W W' : World) : Prop where
  bel : Below n₀ W W'
  box : Blk W Bs #[v] 28 → Blk W' Bs #[v] 28
theorem kpD_t {n₀ Bs : Nat} {v : Value} {A B C : World} (h : KpD n₀ Bs v A B) (k : KpD n₀ Bs v B C) : KpD n₀ Bs v A C := ⟨h.bel.trans k.bel, fun x => k.box (h.box x)⟩
theorem kpD_b {n₀ Bs : Nat} {v : Value} {w : World} (hn : n₀ ≤ w.heap.size) (W : World) (l : Nat) (o o' : Obj) (hl : w.heap.size ≤ l) (h : W.heap[l]? = some o) (hc : o.isCells = false) (hk : o.isWalk = false) : KpD n₀ Bs v W (W.putObj l o') :=
  ⟨belowK_b hn W l o o' hl h hc hk, fun x => (Blk.own (t := 28) (fun _ : Unit => _)).putObj (s := ()) o' x h hc⟩

set_option maxRecDepth 100000 in
set_option maxHeartbeats 2000000 in
theorem back1_in (F : Fence) (n : Nat) (h7 : F.fn 45) (hro : F.round = none) (hn : 1 ≤ n) (y Bs n₀ b off cap : Nat) (l : List Dp) (hlen : l.length ≤ 1000000) (hb : b < n₀) (J Jx : List (Nat × Dp) → World → Prop)
    (hY : ∀ pre x W, J pre W → pre.length < l.length → YieldAt F (n - 1) Try.prog y #[.int .i64 (x.1 : Int), x.2.val] W fun e W' =>
      (e = .returned (.bool true) ∧ J (pre ++ [x]) W' ∧ KpD n₀ Bs (.slice (some ⟨b, off, none⟩) l.length cap) W W') ∨ (e = .returned (.bool false) ∧ Jx (pre ++ [x]) W'))
    (W : World) (hBs : Blk W Bs #[.slice (some ⟨b, off, none⟩) l.length cap] 28) (hc : ∀ j, j < l.length → DpAt W b (off + j * 2) (l.getD j .z)) (h0 : J [] W) :
    CallsIn F n Try.prog 45 #[.func (.yield y) #[] #[], .pointer (some ⟨Bs, 0, none⟩)] W fun e W' => (∃ v, e = .returned v) ∧
      ((∃ ys, ys = down l l.length ∧ J ys W') ∨ (∃ pre, (∃ k, k ≤ l.length ∧ pre = down l k) ∧ Jx pre W')) := by
  have c0 : W.cell? ⟨Bs, 0, none⟩ = some (.slice (some ⟨b, off, none⟩) l.length cap) := hBs.cell 0
  refine callsIn_of_wp Try.func45 rfl h7 ?_ hro
  simp only [Try.ntmps45, List.size_toArray, List.length_cons, List.length_nil, Nat.reduceAdd, Nat.reduceSub, Array.replicate_succ, Array.replicate_zero, List.push_toArray, List.append_toArray, List.nil_append, List.cons_append]
  gi_wp2
  gi_loopw [3] (fun i wr => ∃ k : Nat, k ≤ l.length ∧ i = .int .i64 ((l.length : Int) - 1 - k) ∧ J (down l k) wr ∧ Below n₀ W wr ∧ Blk wr Bs #[.slice (some ⟨b, off, none⟩) l.length cap] 28)
    (fun i _ => (intOf i + 1).toNat)
  case atStart => exact ⟨0, Nat.zero_le _, by go_num, h0, Below.refl _ _, hBs⟩
  case round =>
    clear c0
    obtain ⟨k, hk, rfl, hJs, hnx, hBs'⟩ := hrel
    by_cases hlt : k < l.length
    · obtain ⟨m, hm⟩ : ∃ m : Nat, m = l.length - 1 - k := ⟨_, rfl⟩
      have hi : (l.length : Int) - 1 - k = (m : Int) := by omega
      rw [hi]
      have hml : m < l.length := by omega
      have hml' : (m : Int) < (l.length : Int) := by omega
      have hEv := (hc m hml).below hnx hb
      have hBc : wr.cell? ⟨Bs, 0, none⟩ = some (.slice (some ⟨b, off, none⟩) l.length cap) := hBs'.cell 0
      obtain ⟨e0, he0⟩ : ∃ e0, l.getD m .z = e0 := ⟨_, rfl⟩
      have hpre : down l (k + 1) = down l k ++ [(m, e0)] := by rw [down_succ, ← hm, he0]
      rw [he0] at hEv
      obtain ⟨fn, tmps, assign, body, hy, hR⟩ := hY _ (m, e0) wr hJs (by rw [down_length]; exact hlt)
      rw [← hpre] at hR
      have Hl := Lib.hid hlt; have Hm := Lib.hid hm; have Hi := Lib.hid hi; have Hp := Lib.hid hpre; have He := Lib.hid he0; clear hm hi hpre he0 hml hlt hk
      dsimp only [Dp.val] at hy
      obtain ⟨c0, c1⟩ := hEv
      gi_wp2
      refine hR.mono ?_
      rintro e W3 (⟨rfl, hJ3, hk3⟩ | ⟨rfl, hJx3⟩)
      · -- the round goes on
        gi_wp2
        go_roundw
        case rel => exact ⟨k + 1, by have := Hl.out; omega, by have := Hm.out; have := Hl.out; go_num, hJ3, hnx.trans hk3.bel, hk3.box hBs'⟩
        case measure => simp [intOf]
      · gi_wp2
        refine bodyPost_ret (results_none rfl _ _ _) rfl ?_
        exact ⟨⟨_, rfl⟩, .inr ⟨_, ⟨k + 1, by have := Hl.out; omega, rfl⟩, hJx3⟩⟩
    · obtain rfl : k = l.length := by omega
      have hi : (l.length : Int) - 1 - l.length = -1 := by omega
      rw [hi]
      gi_wp2
      go_end0
      exact ⟨⟨_, rfl⟩, .inl ⟨_, rfl, hJs⟩⟩

set_option maxRecDepth 100000 in
set_option maxHeartbeats 1000000 in
theorem back1_nil_in (F : Fence) (n : Nat) (h7 : F.fn 45) (hro : F.round = none) (y Bs cap : Nat) (p : Option Addr) (J : List (Nat × Dp) → World → Prop) (W : World) (hBs : W.cell? ⟨Bs, 0, none⟩ = some (.slice p 0 cap)) (h0 : J [] W) :
    CallsIn F n Try.prog 45 #[.func (.yield y) #[] #[], .pointer (some ⟨Bs, 0, none⟩)] W fun e W' => (∃ v, e = .returned v) ∧ J [] W' := by
  refine callsIn_of_wp Try.func45 rfl h7 ?_ hro
  simp only [Try.ntmps45, List.size_toArray, List.length_cons, List.length_nil, Nat.reduceAdd, Nat.reduceSub, Array.replicate_succ, Array.replicate_zero, List.push_toArray, List.append_toArray, List.nil_append, List.cons_append]
  gi_wp2
  gi_loopw [3] (fun i wr => i = .int .i64 (-1) ∧ J [] wr) (fun _ _ => 0)
  case atStart => exact ⟨rfl, h0⟩
  case round =>
    obtain ⟨rfl, hJs⟩ := hrel
    gi_wp2
    go_end0
    exact ⟨⟨_, rfl⟩, hJs⟩

set_option maxHeartbeats 1000000 in
theorem back_in (F : Fence) (n : Nat) (h5 : F.fn 31) (hro : F.round = none) (a : Option Addr) (len cap : Nat) (w : World) :
    CallsIn F n Try.prog 31 #[.slice a len cap] w fun e w' => e = .returned (.func (.func 45) #[] #[.pointer (some ⟨w.heap.size, 0, none⟩)]) ∧ w' = w.alloc (.cells #[.slice a len cap] 28) := by
  refine callsIn_of_wp Try.func31 rfl h5 ?_ hro
  simp only [Try.ntmps31, List.size_toArray, List.length_cons, List.length_nil, Nat.reduceAdd, Nat.reduceSub, Array.replicate_succ, Array.replicate_zero, List.push_toArray, List.append_toArray, List.nil_append, List.cons_append]
  gi_wp2
  go_ret
  exact ⟨rfl, rfl⟩

theorem back_stops (F : Fence) (n : Nat) (h7 : F.fn 45) (hro : F.round = none) (hn : 1 ≤ n) (Bs n₀ : Nat) (p : Option Addr) (cap : Nat) (l : List Dp) (hlen : l.length ≤ 1000000) (w : World) (hn₀ : n₀ ≤ w.heap.size)
    (hBs : Blk w Bs #[.slice p l.length cap] 28) (b off : Nat) (hp : 0 < l.length → p = some ⟨b, off, none⟩ ∧ b < n₀) (hE : ∀ j, j < l.length → DpAt w b (off + j * 2) (l.getD j .z)) :
    SeqStopsK F n Try.prog 45 #[.pointer (some ⟨Bs, 0, none⟩)] (fun x : Nat × Dp => #[Value.int .i64 (x.1 : Int), x.2.val]) (KpD n₀ Bs (.slice p l.length cap)) (fun ys => ys = down l l.length)
      (fun pre => ∃ k, k ≤ l.length ∧ pre = down l k) l.length w := fun y J Jx W hW _ _ hY h0 => by
  have hc' := hBs.next hW
  rcases Nat.eq_zero_or_pos l.length with hz | hz
  · rw [hz] at hc'
    exact (back1_nil_in F n h7 hro y Bs cap p J W (hc'.cell 0) h0).mono fun e W' ⟨he, hj⟩ => ⟨he, .inl ⟨_, rfl, by rw [hz]; exact hj⟩⟩
  · obtain ⟨rfl, hb⟩ := hp hz
    exact back1_in F n h7 hro hn y Bs n₀ b off cap l hlen hb J Jx hY W hc' (fun j hj => (hE j hj).below hW (Nat.lt_of_lt_of_le hb hn₀)) h0
end Go.Proofs.Ytiaaoajnecppnaa
