/-
  The walk of Read.
-/
import Derived.Test.YtnpfkhaaogjhlaaOne
import Derived.Test.YtnpfkhaaogjhlaaAll
namespace Go.Proofs.Ytnpfkhaaogjhlaa
open Go.RowKit Go.Sort

abbrev OwnV (w : World) (base : Nat) (p : Option Addr) (cap : Nat) (l : List Vl) : Prop := w.ownsRow base 34 2 (.slice p l.length cap) l.length (vls l)
theorem infoV : (Try.prog.info? 34).map (fun i => (i.zero, i.size, i.bytes)) = some (some (.agg #[.int .i64 0, .int .i64 0]), 2, 16) := by kernel_rfl

/-- The k-th record. -/
def recAt (b : List UInt8) (k : Nat) : Vl × Int := oneM ((b.take (13 * k + 13)).drop (13 * k))
def valsTo (b : List UInt8) (k : Nat) : List Vl := (List.range k).map fun j => (recAt b j).1
theorem valsTo_succ (b : List UInt8) (k : Nat) : valsTo b (k + 1) = valsTo b k ++ [(recAt b k).1] := by simp [valsTo, List.range_succ]
theorem valsTo_len (b : List UInt8) (k : Nat) : (valsTo b k).length = k := by simp [valsTo]
def readQ (b : List UInt8) : List Vl × Int :=
  match (List.range (b.length / 13)).find? (fun k => (recAt b k).2 != 0) with
  | some k => ([], (recAt b k).2)
  | none => (valsTo b (b.length / 13), 0)
theorem readQ_none {b : List UInt8} (h : ∀ j, j < b.length / 13 → (recAt b j).2 = 0) : readQ b = (valsTo b (b.length / 13), 0) := by
  unfold readQ
  have : (List.range (b.length / 13)).find? (fun k => (recAt b k).2 != 0) = none := by
    rw [List.find?_eq_none]
    intro x hx
    simpa using h x (List.mem_range.1 hx)
  rw [this]
theorem readQ_some {b : List UInt8} {k : Nat} (hk : k < b.length / 13) (h : ∀ j, j < k → (recAt b j).2 = 0) (he : (recAt b k).2 ≠ 0) : readQ b = ([], (recAt b k).2) := by
  unfold readQ
  have : (List.range (b.length / 13)).find? (fun k => (recAt b k).2 != 0) = some k := by
    rw [List.find?_eq_some_iff_getElem]
    refine ⟨by simpa using he, k, by simpa using hk, by simp, fun j hj => ?_⟩
    simpa using h j hj
  rw [this]

set_option maxRecDepth 100000 in
set_option maxHeartbeats 2000000 in
theorem read_any {w : World} {p : Option Addr} {cap : Nat} {b : List UInt8} (hR : SlB w p cap b) (hl : b.length ≤ 4000) :
    Calls Try.prog 8 #[.slice p b.length cap] w fun e w' => ∃ p' c', e = .returned (.tuple #[.slice p' (readQ b).1.length c', .int .i64 (13 * ((readQ b).1.length : Int)), .int .i64 (readQ b).2]) ∧ OwnV w' w.heap.size p' c' (readQ b).1 ∧ Below w.heap.size w w' := by
  obtain ⟨i0, hi, hz0, hz1, hz2⟩ := info_parts infoV
  have hle := hR.le
  have hbig := hR.big
  go_enter Try.func8, Try.ntmps8
  go_wp2_with fail
  go_loopw [5, 6] (fun v s wr => ∃ k a p c, Hid (a = 13 * k) ∧ a ≤ b.length ∧ s = .int .i64 (a : Nat) ∧ v = .slice p (valsTo b k).length c ∧ OwnV wr w.heap.size p c (valsTo b k) ∧ Below w.heap.size w wr ∧ Hid (∀ j, j < k → (recAt b j).2 = 0)) (fun _ s _ => b.length - (intOf s).toNat)
  case atStart => exact ⟨0, 0, none, 0, rfl, Nat.zero_le _, rfl, rfl, World.ownsRow_nil _ _ _ _, Below.refl _ _, fun j h => by omega⟩
  case round =>
    obtain ⟨k, a, q, c, ha, hal, rfl, rfl, hown, hbl, hno⟩ := hrel
    have hvl : (valsTo b k).length ≤ 4000 := by rw [valsTo_len]; have := ha.out; omega
    by_cases hlt : a + 13 ≤ b.length
    · obtain ⟨bk, off, rfl, hbk, -⟩ := hR.row.cons (by simp; omega)
      have hS := (hR.take (m := a + 13) hlt).drop (m := a) (by omega)
      rw [Nat.mul_one, Nat.mul_one, ← bts_take, ← bts_drop, show a + 13 - a = 13 from by omega] at hS
      have hcall := one_any (hS.below hbl)
      have hk : k < b.length / 13 := by have := ha.out; omega
      have hrec : recAt b k = oneM ((b.take (a + 13)).drop a) := by unfold recAt; rw [ha.out]
      rw [← hrec] at hcall
      have nc : ¬ cap = a := by omega
      have i1 : (a : Int) + 13 ≤ (b.length : Int) := by omega
      have i2 : (a : Int) + 13 ≤ (cap : Int) := by omega
      have i3 : 0 ≤ (a : Int) := by omega
      have hvs := valsTo_succ b k
      have hr1 := fun h => readQ_some (b := b) hk hno.out h
      have hno' : (recAt b k).2 = 0 → Hid (∀ j, j < k + 1 → (recAt b j).2 = 0) := fun h j hj => by
        rcases Nat.lt_or_ge j k with h3 | h3
        · exact hno.out j h3
        · rw [show j = k from by omega]; exact h
      have Hvs := Lib.hid hvs; have Hr := Lib.hid hr1; have Hn := Lib.hid hno'; have Hc := Lib.hid hcall
      clear hvs hr1 hno' hcall hrec hno hk hS
      generalize recAt b k = r at *
      obtain ⟨⟨vk, vn⟩, er⟩ := r
      dsimp only [Vl.val] at *
      go_wp2_with fail
      refine Hc.out.mono ?_
      rintro _ w1 ⟨rfl, hb1⟩
      clear Hc
      have hown1 := own_below hown hb1
      replace hbl := hbl.trans (hb1.mono hbl.size)
      clear hb1 hown
      have hz := hbl.size
      by_cases he : er = 0
      · subst he
        have hno1 := Hn.out rfl
        clear Hr Hn
        have hown2 := own_below (own_below hown1 ((Below.refl _ _).alloc (Nat.le_refl _) (.cells #[.int .i64 vk, .int .i64 vn] 34))) ((Below.refl _ _).alloc (Nat.le_refl _) (.cells #[.int .i64 vk, .int .i64 vn] 34))
        have bY : Blk ((w1.alloc (.cells #[.int .i64 vk, .int .i64 vn] 34)).alloc (.cells #[.int .i64 vk, .int .i64 vn] 34)) (w1.heap.size + 1) (vls [⟨vk, vn⟩]).toArray 34 := Blk.mk_ _ _ 34 (by simp)
        have hS1 : Sl ((w1.alloc (.cells #[.int .i64 vk, .int .i64 vn] 34)).alloc (.cells #[.int .i64 vk, .int .i64 vn] 34)) 2 (some ⟨w1.heap.size + 1, 0, none⟩) 1 1 (vls [⟨vk, vn⟩]) :=
          ⟨⟨_, 0, fun _ => ⟨rfl, bY.lt⟩, fun i _ => by rw [Nat.zero_add, bY.cell i]; simp⟩, rfl, Nat.le_refl _, by decide, fun h => by cases h⟩
        clear bY
        go_wp2_with (at_builtin; refine wpList_append_sl _ rfl _ _ 22 rfl w.heap.size 34 i0 (.agg #[.int .i64 0, .int .i64 0]) 2 16 Try.underlying22 hi hz0 hz1 hz2 rfl (by decide) _ _ _ rfl hown2 _ 1 1 _ rfl hS1 vls_one (by omega) (by omega) (by simp; omega) ?_; intro p' c' w2 hown3 hbel2)
        rw [← vls_append, ← Hvs.out] at hown3
        have hle3 : (valsTo b k).length + 1 = (valsTo b (k + 1)).length := by rw [valsTo_len, valsTo_len]
        have H3 := Lib.hid hle3; clear hle3
        go_roundw
        case rel =>
          refine ⟨k + 1, a + 13, p', c', by show _ = _; have := ha.out; omega, by omega, by go_num, by rw [H3.out], by unfold OwnV; rw [← H3.out]; exact hown3, ((hbl.alloc hz _).alloc (by simp; omega) _).trans hbel2, hno1⟩
        case measure => simp [intOf]; omega
      · have hr := Hr.out he
        have he' : (er != 0) = true := by simpa using he
        have HR := Lib.hid hr; clear hr he Hn Hr
        go_wp2_with fail
        go_ret3
        rw [HR.out]
        exact ⟨none, 0, rfl, World.ownsRow_nil _ _ _ _, hbl.alloc hz _⟩
    · have hlt' : ¬ ((a : Int) + 13 ≤ (b.length : Int)) := by omega
      have hk : k = b.length / 13 := by have := ha.out; omega
      have hq := readQ_none (b := b) (by rw [← hk]; exact hno.out)
      rw [← hk] at hq
      have Hq := Lib.hid hq; clear hq hno hk
      have j1 : (13 : Int) * ((valsTo b k).length : Int) ≤ 100000 := by omega
      go_wp2_with fail
      go_ret3
      rw [Hq.out]
      exact ⟨_, _, rfl, hown, hbl⟩
end Go.Proofs.Ytnpfkhaaogjhlaa
