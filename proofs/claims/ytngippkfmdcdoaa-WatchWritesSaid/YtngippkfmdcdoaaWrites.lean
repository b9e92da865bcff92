import Derived.Test.YtngippkfmdcdoaaWk2
import Derived.Test.YtngippkfmdcdoaaBlk
namespace Go.Proofs.Ytngippkfmdcdoaa
open Go.RowKit

theorem writesUpto_succ (l : List Ev) (c q : Int) (k : Nat) : writesUpto l c q (k + 1) = if (at_ l k).wr c q then writesUpto l c q k ++ [(k : Int)] else writesUpto l c q k := by
  unfold writesUpto
  rw [List.range_succ, List.filter_append, List.map_append]
  cases h : (at_ l k).wr c q <;> simp [h]
theorem writesUpto_len (l : List Ev) (c q : Int) (k : Nat) : (writesUpto l c q k).length ≤ k := by
  unfold writesUpto
  rw [List.length_map]
  exact Nat.le_trans (List.length_filter_le _ _) (by simp)

theorem info3 : (Try.prog.info? 3).map (fun i => (i.zero, i.size, i.bytes)) = some (some (.int .i64 0), 1, 8) := by kernel_rfl

set_option maxRecDepth 100000 in
set_option maxHeartbeats 2000000 in
theorem writesOf_any (p : Option Addr) (cap : Nat) (l : List Ev) (c q : Int) (w : World) (hS : Sl w 12 p l.length cap (evs l)) :
    Calls Try.prog 11 #[.slice p l.length cap, .int .i64 c, .int .i64 q] w fun e w' => ∃ p' c', e = .returned (.tuple #[.slice p' (writesM l c q).1.length c', .int .i64 (writesM l c q).2]) ∧
      w'.ownsRow w.heap.size 3 1 (.slice p' (writesM l c q).1.length c') (writesM l c q).1.length (ints .i64 (writesM l c q).1) ∧ Below w.heap.size w w' := by
  have hn : l.length ≤ 9223372036854775807 := Nat.le_trans hS.le hS.big
  obtain ⟨i0, hi, iz0, iz1, iz2⟩ := info_parts info3
  go_enter Try.func11, Try.ntmps11
  go_wp2_with fail
  refine (check_any _ _ _ _ _ hn).mono ?_
  rintro _ w1 ⟨rfl, rfl⟩
  by_cases hc : chk l.length 0 = 0
  · have hc' : (chk l.length 0 != 0) = false := by simpa using hc
    obtain ⟨-, -, h2⟩ := chk_zero hc
    have hm : writesM l c q = (writesUpto l c q l.length, 0) := by unfold writesM; rw [if_pos hc]
    have Hm := Lib.hid hm
    have Hc := Lib.hid hc; clear hc hm
    go_wp2_with fail
    go_loopw [9, 19] (fun v s wr => ∃ (k m : Nat) (p' : Option Addr) (c' : Nat), k ≤ l.length ∧ s = .int .i64 k ∧ v = .slice p' m c' ∧ m ≤ k ∧ Hid (m = (writesUpto l c q k).length) ∧ wr.ownsRow w.heap.size 3 1 (.slice p' m c') m (ints .i64 (writesUpto l c q k)) ∧ Below w.heap.size w wr) (fun v s _ => l.length - (intOf s).toNat)
    case atStart => exact ⟨0, 0, none, 0, by omega, by go_num, rfl, Nat.le_refl _, rfl, World.ownsRow_nil _ _ _ _, Below.refl _ _⟩
    case round =>
      obtain ⟨k, m, p', c', hk, rfl, rfl, hmk, hml, hown, hbk⟩ := hrel
      have hwz := hbk.size
      rcases Nat.lt_or_ge k l.length with hkm | hkm
      · obtain ⟨b, off, rfl, hb, -⟩ := hS.row.cons (by simp; omega)
        have hkm' : (k : Int) < (l.length : Int) := by omega
        have hE := (hS.ev_at hkm).below hbk hb
        obtain ⟨e, he⟩ : ∃ e, at_ l k = e := ⟨_, rfl⟩
        rw [show l.getD k .z = e from he] at hE
        have He := Lib.hid he; have Hk := Lib.hid hkm; clear he hkm hk
        have hsu := writesUpto_succ l c q k
        rw [He.out] at hsu
        generalize writesUpto l c q k = xs at *
        generalize hys : writesUpto l c q (k + 1) = ys at *
        have Hsu := Lib.hid hsu; clear hsu
        have Hys := Lib.hid hys; clear hys
        obtain ⟨g0, g1, g2, g3, g4, g5, g6, g7, g8, g9, g10, g11⟩ := hE
        go_wp2_with fail
        refine (writes_any c q e _).mono ?_
        rintro _ W1 ⟨rfl, hb1⟩
        clear g0 g1 g2 g3 g4 g5 g6 g7 g8 g9 g10 g11
        have hbw := ((Below.refl _ wr).alloc (Nat.le_refl _) (.cells #[.int .i64 e.k, .int .i64 e.s, .int .i64 e.t, .int .i64 e.f, .int .i64 e.a, .int .i64 e.l, .int .i64 e.A, .int .i64 e.B, .int .i64 e.v1, .int .i64 e.v2, .int .i64 e.o1, .int .i64 e.o2] 33)).trans (hb1.mono (by simp))
        replace hown := own_below hown hbw
        replace hbk : Below w.heap.size w W1 := hbk.trans (hbw.mono hwz)
        have hz1 := hbk.size
        clear hb1 hbw hwz
        cases hW : e.wr c q with
        | false =>
          have hxy : ys = xs := by rw [Hsu.out, hW]; rfl
          have Hxy := Lib.hid hxy; clear hxy
          go_wp2
          go_roundw
          case rel => exact ⟨k + 1, m, p', c', by have := Hk.out; omega, by go_num, rfl, by omega, by show m = _; rw [Hys.out, Hxy.out]; exact hml.out, by rw [Hys.out, Hxy.out]; exact hown, hbk⟩
          case measure => have := Hk.out; simp [intOf]; omega
        | true =>
          have hxy : ys = xs ++ [(k : Int)] := by rw [Hsu.out, hW]; rfl
          have Hxy := Lib.hid hxy; clear hxy
          have hbk2 := hbk.alloc hz1 (.cells #[.int .i64 (k : Int)] 3)
          have hown2 := own_below hown ((Below.refl _ W1).alloc (Nat.le_refl _) (.cells #[.int .i64 (k : Int)] 3))
          have hsl : Sl (W1.alloc (.cells #[.int .i64 (k : Int)] 3)) 1 (some ⟨W1.heap.size, 0, none⟩) 1 1 [.int .i64 (k : Int)] := ⟨new_row W1 #[.int .i64 (k : Int)] 3 (0, 0), rfl, Nat.le_refl _, by omega, fun h => by cases h⟩
          go_wp2_with (at_builtin; refine wpList_append_sl _ rfl _ _ 37 rfl w.heap.size 3 i0 (.int .i64 0) 1 8 Try.underlying37 hi iz0 iz1 iz2 rfl (by decide) _ m _ rfl hown2 _ 1 1 _ rfl hsl (by intro u hu; rw [List.mem_singleton.1 hu]; rfl) (by omega) (by omega) hbk2.size ?_; intro p2 c2 w2 hown3 hbel2)
          go_roundw
          case rel => exact ⟨k + 1, m + 1, p2, c2, by have := Hk.out; omega, by go_num, rfl, by omega, by show m + 1 = _; rw [Hys.out, Hxy.out, List.length_append]; rw [hml.out]; rfl, by rw [Hys.out, Hxy.out, ints_append]; exact hown3, hbk2.trans hbel2⟩
          case measure => have := Hk.out; simp [intOf]; omega
      · obtain rfl : k = l.length := by omega
        go_wp2
        go_ret2
        rw [Hm.out]
        refine ⟨p', c', ?_, ?_, hbk⟩
        · rw [hml.out]; rfl
        · rw [← hml.out]; exact hown
  · have hc' : (chk l.length 0 != 0) = true := by simpa using hc
    have hm : writesM l c q = ([], chk l.length 0) := by unfold writesM; rw [if_neg hc]
    have Hm := Lib.hid hm; have Hc := Lib.hid hc; clear hm hc
    go_wp2
    go_ret2
    rw [Hm.out]
    exact ⟨none, 0, rfl, World.ownsRow_nil _ _ _ _, Below.refl _ _⟩
end Go.Proofs.Ytngippkfmdcdoaa
