/-
  What must be in any case.
-/
import Derived.Test.YtnpfkhaaogjhlaaLaws
import Derived.Test.YtnpfkhaaogjhlaaSame
namespace Go.Proofs.Ytnpfkhaaogjhlaa
open Go.RowKit Go.Sort

theorem lit_nil (w : World) (t : TypeId) : (w.alloc (.cells #[] t)).ownsRow w.heap.size t 1 (.slice (some ⟨w.heap.size, 0, none⟩) 0 0) 0 [] := World.ownsRow_lit (n := 0) w #[] (Nat.le_refl _) (Nat.zero_le _) rfl
theorem put_is {w : World} {p : Option Addr} {cap : Nat} {b r : List UInt8} {e : Int} (hR : SlB w p cap b) (hb4 : b.length ≤ 4000) (v : Vl) (h : putM b v = (r, e)) :
    Calls Try.prog 10 #[.slice p b.length cap, v.val] w fun x w' => ∃ p' c', x = .returned (.tuple #[.slice p' r.length c', .int .i64 e]) ∧ SlB w' p' c' r ∧ Below w.heap.size w w' := by
  have := put_any hR hb4 v
  rw [h] at this
  exact this.mono fun x w' ⟨p', c', h1, h2, h3⟩ => ⟨p', c', h1, Sl.of_own h2, h3⟩
theorem read_is {w : World} {p : Option Addr} {n cap : Nat} {b : List UInt8} {vs : List Vl} {e : Int} (hR : Sl w 1 p n cap (bts b)) (hl : n ≤ 4000) (h : readQ b = (vs, e)) :
    Calls Try.prog 8 #[.slice p n cap] w fun x w' => ∃ p' c', x = .returned (.tuple #[.slice p' vs.length c', .int .i64 (13 * (vs.length : Int)), .int .i64 e]) ∧ Sl w' 2 p' vs.length c' (vls vs) ∧ Below w.heap.size w w' := by
  have hn := hR.len
  rw [bts_length, Nat.mul_one] at hn
  subst hn
  have := read_any hR hl
  rw [h] at this
  exact this.mono fun x w' ⟨p', c', h1, h2, h3⟩ => ⟨p', c', h1, Sl.of_own h2, h3⟩
theorem same_is {w : World} {p q : Option Addr} {n n' cap cap2 : Nat} {l m : List Vl} (hR : Sl w 2 p n cap (vls l)) (hS : Sl w 2 q n' cap2 (vls m)) (h : l = m) :
    Calls Try.prog 9 #[.slice p n cap, .slice q n' cap2] w fun e w' => e = .returned (.bool true) ∧ Below w.heap.size w w' := by
  obtain rfl := hR.vls_len
  obtain rfl := hS.vls_len
  have := same_any hR hS
  rwa [decide_eq_true h] at this

abbrev v0 : Vl := ⟨2, -2⟩
theorem good0 : Good [v0] := by
  intro v hv
  obtain rfl := List.mem_singleton.1 hv
  exact ⟨by decide, by decide, by decide⟩
theorem recs_single (v : Vl) : recs [v] = recM v := by simp [recs]
theorem read0 : readQ (recM v0 ++ [1, 2]) = ([v0], 0) :=
  read_pre (by rw [recs_single]; rfl) (by simp) (by simp) good0

set_option maxRecDepth 100000 in
set_option maxHeartbeats 1000000 in
theorem begun_any (w : World) : Calls Try.prog 6 #[] w fun e w' => e = .returned (.bool true) ∧ Below w.heap.size w w' := by
  obtain ⟨i0, hi, hz0, hz1, hz2⟩ := info_parts infoCB
  go_enter Try.func6, Try.ntmps6
  go_wp2_with fail
  refine (put_is (b := []) (r := recM v0) (e := 0) (Sl.zero w 1) (by simp) v0 (by kernel_rfl)).mono ?_
  rintro _ w1 ⟨p1, c1, rfl, h1, hB⟩
  obtain ⟨b1, off1, rfl, hb1, hc1⟩ := SlB.at_ h1 (i := 0) (by simp)
  obtain ⟨_, _, e', -, hc8⟩ := SlB.at_ h1 (i := 8) (by simp)
  cases e'
  rw [show ((recM v0).getD 0 0).toNat = 2 from by kernel_rfl] at hc1
  rw [show ((recM v0).getD 8 0).toNat = 254 from by kernel_rfl] at hc8
  simp only [recM_length] at h1 ⊢
  have hown := lit_nil w1 5
  have hal := (Below.refl w1.heap.size w1).alloc (Nat.le_refl _) (.cells #[] 5)
  have h1' := h1.below hal
  have H1 := Lib.hid h1; clear h1
  go_wp2_with (first
    | (at_builtin; refine wpList_append_sl _ rfl (.tmp 12) (.tmp 13) 24 rfl w1.heap.size 5 i0 (.int .u8 0) 1 1 Try.underlying24 hi hz0 hz1 hz2 rfl (by decide) _ 0 [] rfl hown _ 13 c1 _ rfl h1' bts_one (by omega) (by omega) hal.size ?_; intro p2 c2 w2 hown2 hb2)
    | (at_builtin; refine wpList_append_sl _ rfl (.tmp 14) (.tmp 15) 24 rfl w1.heap.size 5 i0 (.int .u8 0) 1 1 Try.underlying24 hi hz0 hz1 hz2 rfl (by decide) _ (0 + 13) _ rfl (own_mono (own_below hown2 ((Below.refl _ _).alloc (Nat.le_refl _) _)) (Nat.le_refl _)) _ 2 2 (bts [1, 2]) rfl (slb_of_blk (c := 2) (Blk.mk_ w2 (bts [1, 2]).toArray 5 rfl) rfl (by decide)) bts_one (by omega) (by omega) (Nat.le_trans (hal.trans hb2).size (by simp)) ?_; intro p3 c3 w3 hown3 hb3))
  have hal2 := (Below.refl w2.heap.size w2).alloc (Nat.le_refl _) (.cells #[.int .u8 1, .int .u8 2] 5)
  have hS3 := Sl.of_own hown3
  rw [List.nil_append, ← bts_append] at hS3
  have hb12 := hal.trans hb2
  have hb13 := hb12.trans ((hal2.mono hb12.size).trans hb3)
  clear hown hown2 hown3 h1' hal hb2 hb3 hal2 hb12
  refine (read_is hS3 (by omega) read0).mono ?_
  rintro _ w4 ⟨p4, c4, rfl, h4, hb4⟩
  have hb14 := hb13.trans (hb4.mono hb13.size)
  obtain ⟨b4, off4, rfl, -, ⟨e0, e1⟩⟩ := Sl.vls_ptr h4 (i := 0) (by decide)
  simp only [List.getD_cons_zero, Nat.zero_mul, Nat.add_zero] at e0 e1
  have g1 := (hb14.cell (p := ⟨b1, off1, none⟩) hb1).trans hc1
  have g8 := (hb14.cell (p := ⟨b1, off1 + 8, none⟩) hb1).trans hc8
  have hfin := hB.trans (hb14.mono hB.size)
  clear hS3 h4 hb4 hb13 hc1 hc8 hb14 H1
  simp only [List.length_cons, List.length_nil]
  go_wp2_with fail
  go_ret
  exact ⟨rfl, hfin⟩
end Go.Proofs.Ytnpfkhaaogjhlaa
