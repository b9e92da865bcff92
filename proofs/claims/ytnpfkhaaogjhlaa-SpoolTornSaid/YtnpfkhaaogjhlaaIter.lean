/-
  slices.Backward over bytes that the loop's body writes: its contract.
-/
import Derived.RangeFuncBox
import Derived.RangeFuncNested
import Derived.RangeFuncLeaves
import Derived.RangeFuncCalls
import Derived.Shelf.Abstract
import Derived.WalkKit
import Derived.OwnWalkIn
import Derived.TacticsInMore
import Derived.LoopNIn
import Derived.LoopIn
import Derived.Test.YtnpfkhaaogjhlaaProg
import Derived.Test.YtnpfkhaaogjhlaaParts
import Derived.Test.YtnpfkhaaogjhlaaBlk
namespace Go.Proofs.Ytnpfkhaaogjhlaa
open Go.RowKit Go.Shelf

attribute [local go_sem] Oper.semAt_some

/-- A place and a byte. -/
abbrev PB (m : Nat) : Type := { x : Nat × UInt8 // x.1 < m }
def downIdx (m k : Nat) : List Nat := (List.range k).map fun j => m - 1 - j
theorem downIdx_succ (m k : Nat) : downIdx m (k + 1) = downIdx m k ++ [m - 1 - k] := by simp [downIdx, List.range_succ]
/-- Block Bo holds m bytes. -/
def RowB (W : World) (Bo m : Nat) : Prop := ∃ l : List UInt8, l.length = m ∧ Blk W Bo (bts l).toArray 5
structure KpB (Bs Bo m : Nat) (v : Value) (W W' : World) : Prop where
  box : Blk W Bs #[v] 24 → Blk W' Bs #[v] 24
  row : RowB W Bo m → RowB W' Bo m
theorem kpB_t {Bs Bo m : Nat} {v : Value} {A B C : World} (h : KpB Bs Bo m v A B) (k : KpB Bs Bo m v B C) : KpB Bs Bo m v A C := ⟨fun x => k.box (h.box x), fun x => k.row (h.row x)⟩
theorem kpB_b {Bs Bo m : Nat} {v : Value} {w : World} (W : World) (l : Nat) (o o' : Obj) (_ : w.heap.size ≤ l) (h : W.heap[l]? = some o) (hc : o.isCells = false) (_ : o.isWalk = false) : KpB Bs Bo m v W (W.putObj l o') :=
  ⟨fun x => (Blk.own (t := 24) (fun _ : Unit => _)).putObj (s := ()) o' x h hc, fun ⟨ls, h1, h2⟩ => ⟨ls, h1, (Blk.own (t := 5) (fun _ : Unit => _)).putObj (s := ()) o' h2 h hc⟩⟩

set_option maxRecDepth 100000 in
set_option maxHeartbeats 2000000 in
theorem back1_in (F : Fence) (n : Nat) (h7 : F.fn 19) (hro : F.round = none) (hn : 1 ≤ n) (y Bs Bo m : Nat) (hm : m ≤ 1000) (v : Value) (hv : v = .slice (some ⟨Bo, 0, none⟩) m m) (J Jx : List (PB m) → World → Prop)
    (hY : ∀ (pre : List (PB m)) (x : PB m) W, J pre W → pre.length < m → YieldAt F (n - 1) Try.prog y #[.int .i64 (x.1.1 : Int), .int .u8 (x.1.2.toNat : Int)] W fun e W' =>
      (e = .returned (.bool true) ∧ J (pre ++ [x]) W' ∧ KpB Bs Bo m v W W') ∨ (e = .returned (.bool false) ∧ Jx (pre ++ [x]) W'))
    (W : World) (hBs : Blk W Bs #[v] 24) (hBo : RowB W Bo m) (h0 : J [] W) :
    CallsIn F n Try.prog 19 #[.func (.yield y) #[] #[], .pointer (some ⟨Bs, 0, none⟩)] W fun e W' => (∃ v, e = .returned v) ∧
      ((∃ ys : List (PB m), ys.map (fun x => x.1.1) = downIdx m m ∧ J ys W') ∨ (∃ pre, True ∧ Jx pre W')) := by
  have c0 : W.cell? ⟨Bs, 0, none⟩ = some v := hBs.cell 0
  subst hv
  refine callsIn_of_wp Try.func19 rfl h7 ?_ hro
  simp only [Try.ntmps19, List.size_toArray, List.length_cons, List.length_nil, Nat.reduceAdd, Nat.reduceSub, Array.replicate_succ, Array.replicate_zero, List.push_toArray, List.append_toArray, List.nil_append, List.cons_append]
  gi_wp2
  gi_loopw [3] (fun i wr => ∃ (k : Nat) (ys : List (PB m)), k ≤ m ∧ i = .int .i64 ((m : Int) - 1 - k) ∧ Hid (ys.map (fun x => x.1.1) = downIdx m k) ∧ J ys wr ∧ Blk wr Bs #[.slice (some ⟨Bo, 0, none⟩) m m] 24 ∧ RowB wr Bo m)
    (fun i _ => (intOf i + 1).toNat)
  case atStart => exact ⟨0, [], Nat.zero_le _, by go_num, rfl, h0, hBs, hBo⟩
  case round =>
    clear c0
    obtain ⟨k, ys, hk, rfl, hys, hJs, hBs', hBo'⟩ := hrel
    by_cases hlt : k < m
    · obtain ⟨i, hi0⟩ : ∃ i : Nat, i = m - 1 - k := ⟨_, rfl⟩
      have hi : (m : Int) - 1 - k = (i : Int) := by omega
      rw [hi]
      have hml : i < m := by omega
      have hml' : (i : Int) < (m : Int) := by omega
      obtain ⟨ls, hl1, hl2⟩ := hBo'
      have cs : wr.cell? ⟨Bs, 0, none⟩ = some (.slice (some ⟨Bo, 0, none⟩) m m) := hBs'.cell 0
      have ci : wr.cell? ⟨Bo, i, none⟩ = some (.int .u8 ((ls.getD i 0).toNat : Int)) := by
        have e1 := hl2.cell i
        rw [e1]
        have := bts_get (l := ls) (i := i) (by omega)
        simpa using this
      have hyl : ys.length = k := by
        have := congrArg List.length hys.out
        simpa [downIdx] using this
      generalize ls.getD i 0 = b at *
      obtain ⟨fn, tmps, assign, body, hy, hR⟩ := hY ys ⟨(i, b), hml⟩ wr hJs (by rw [hyl]; exact hlt)
      have Hi0 := Lib.hid hi0; have Hi := Lib.hid hi; have Hl1 := Lib.hid hl1; have Hyl := Lib.hid hyl; clear hi0 hi hl1 hyl
      dsimp only at hy
      gi_wp2
      refine hR.mono ?_
      rintro e W3 (⟨rfl, hJ3, hk3⟩ | ⟨rfl, hJx3⟩)
      · gi_wp2
        go_roundw
        case rel =>
          refine ⟨k + 1, ys ++ [⟨(i, b), hml⟩], by omega, by have := Hi0.out; go_num, ?_, hJ3, hk3.box hBs', hk3.row ⟨ls, Hl1.out, hl2⟩⟩
          show _ = _
          rw [List.map_append, hys.out, downIdx_succ, ← Hi0.out]
          rfl
        case measure => simp [intOf]
      · gi_wp2
        refine bodyPost_ret (results_none rfl _ _ _) rfl ?_
        exact ⟨⟨_, rfl⟩, .inr ⟨_, trivial, hJx3⟩⟩
    · obtain rfl : k = m := by omega
      have hi : (k : Int) - 1 - k = -1 := by omega
      rw [hi]
      gi_wp2
      go_end0
      exact ⟨⟨_, rfl⟩, .inl ⟨ys, hys.out, hJs⟩⟩

set_option maxHeartbeats 1000000 in
theorem back_in (F : Fence) (n : Nat) (h5 : F.fn 17) (hro : F.round = none) (a : Option Addr) (len cap : Nat) (w : World) :
    CallsIn F n Try.prog 17 #[.slice a len cap] w fun e w' => e = .returned (.func (.func 19) #[] #[.pointer (some ⟨w.heap.size, 0, none⟩)]) ∧ w' = w.alloc (.cells #[.slice a len cap] 24) := by
  refine callsIn_of_wp Try.func17 rfl h5 ?_ hro
  simp only [Try.ntmps17, List.size_toArray, List.length_cons, List.length_nil, Nat.reduceAdd, Nat.reduceSub, Array.replicate_succ, Array.replicate_zero, List.push_toArray, List.append_toArray, List.nil_append, List.cons_append]
  gi_wp2
  go_ret
  exact ⟨rfl, rfl⟩

theorem back_stops (F : Fence) (n : Nat) (h7 : F.fn 19) (hro : F.round = none) (hn : 1 ≤ n) (Bs Bo m : Nat) (hm : m ≤ 1000) (w : World) (hBs : Blk w Bs #[.slice (some ⟨Bo, 0, none⟩) m m] 24) (hBo : RowB w Bo m) :
    SeqStopsK F n Try.prog 19 #[.pointer (some ⟨Bs, 0, none⟩)] (fun x : PB m => #[Value.int .i64 (x.1.1 : Int), .int .u8 (x.1.2.toNat : Int)]) (KpB Bs Bo m (.slice (some ⟨Bo, 0, none⟩) m m)) (fun ys => ys.map (fun x => x.1.1) = downIdx m m)
      (fun _ => True) m w := fun y J Jx W hW _ _ hY h0 => by
  obtain ⟨ls, h1, h2⟩ := hBo
  exact back1_in F n h7 hro hn y Bs Bo m hm _ rfl J Jx hY W (hBs.next hW) ⟨ls, h1, h2.next hW⟩ h0
end Go.Proofs.Ytnpfkhaaogjhlaa
