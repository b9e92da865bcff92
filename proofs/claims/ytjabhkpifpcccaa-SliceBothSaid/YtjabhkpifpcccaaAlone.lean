/-
  The walk of Alone.
-/
import Derived.Test.YtjabhkpifpcccaaUses
import Derived.Test.YtjabhkpifpcccaaBack
namespace Go.Proofs.Ytjabhkpifpcccaa
open Go.RowKit

/-- The set that back computes, out of the numbers alone. -/
def stepS (U : Nat → List Int) (s : List Bool) (k : Nat) : List Bool := if s.getD k false then setAll s (U k) else s
def goS (U : Nat → List Int) (s : List Bool) : Nat → List Bool
  | 0 => s
  | k + 1 => goS U (stepS U s k) k
def backS (U : Nat → List Int) (n i : Nat) : List Bool := goS U ((List.replicate n false).set i true) (i + 1)
theorem goS_eq {ps : List Pt} {U : Nat → List Int} {k : Nat} (h : ∀ j, j < k → usesAt ps j = U j) (s : List Bool) : backGo ps s k = goS U s k := by
  induction k generalizing s with
  | zero => rfl
  | succ k ih =>
    unfold backGo goS
    rw [ih (fun j hj => h j (by omega))]
    congr 1
    unfold backStep stepS
    rw [h k (by omega)]
theorem backS_eq {ps : List Pt} {U : Nat → List Int} {n i : Nat} (hn : ps.length = n) (h : ∀ j, j ≤ i → usesAt ps j = U j) : backL ps i = backS U n i := by
  unfold backL backS
  rw [hn, goS_eq (fun j hj => h j (by omega))]
def aloneTo (l : List Ln) (b : List Bool) (k : Nat) : List Ln := ((List.range k).filter fun j => b.getD j false).map fun j => l.getD j .z
theorem aloneTo_succ (l : List Ln) (b : List Bool) (k : Nat) : aloneTo l b (k + 1) = if b.getD k false then aloneTo l b k ++ [l.getD k .z] else aloneTo l b k := by
  unfold aloneTo
  rw [List.range_succ, List.filter_append, List.map_append, List.filter_cons, List.filter_nil]
  cases h : b.getD k false
  · rw [if_neg (by simp), if_neg (by simp)]; simp
  · rw [if_pos rfl, if_pos rfl]; simp
theorem aloneTo_len (l : List Ln) (b : List Bool) (k : Nat) : (aloneTo l b k).length ≤ k := by
  unfold aloneTo
  rw [List.length_map]
  exact Nat.le_trans (List.length_filter_le _ _) (by simp)
def aloneM (l : List Ln) (at_ : Int) : List Ln × Int := if rightM l at_ = 0 then (aloneTo l (backS (usesL l) l.length at_.toNat) l.length, 0) else ([], rightM l at_)
abbrev OwnL (w : World) (base : Nat) (p : Option Addr) (cap : Nat) (l : List Ln) : Prop := w.ownsRow base 41 4 (.slice p l.length cap) l.length (lns l)
theorem infoL : (Try.prog.info? 41).map (fun i => (i.zero, i.size, i.bytes)) = some (some (.agg #[.int .i64 0, .int .i64 0, .int .i64 0, .int .i64 0]), 4, 32) := by kernel_rfl
theorem lastTo_lt {l : List Ln} : ∀ {k : Nat} {y : Int} {m : Nat}, lastTo l k y = some m → m < k := by
  intro k
  induction k with
  | zero => intro y m h; cases h
  | succ k ih =>
    intro y m h
    unfold lastTo at h
    split at h
    · cases h; omega
    · have := ih h; omega
theorem useOf_mem {L : Int → Option Nat} {x : Ln} {y n : Int} (h : n ∈ useOf L x y) : x.o < 3 ∧ ∃ m, L y = some m ∧ n = (m : Int) := by
  unfold useOf at h
  split at h
  · next ho =>
    split at h
    · next m hm => exact ⟨ho, m, hm, by simpa using h⟩
    · simp at h
  · simp at h
theorem usesL_lt {l : List Ln} {k : Nat} {n : Int} (h : n ∈ usesL l k) : 0 ≤ n ∧ n < k := by
  rcases List.mem_append.1 h with h | h
  all_goals
    obtain ⟨-, m, hm, rfl⟩ := useOf_mem h
    have := lastTo_lt hm
    omega

set_option maxRecDepth 100000 in
set_option maxHeartbeats 2000000 in
theorem alone_any {w : World} {p : Option Addr} {cap : Nat} {l : List Ln} (hR : Sl w 4 p l.length cap (lns l)) (hwf : ∀ x ∈ l, x.Wf) (at_ : Int) :
    Calls Try.prog 8 #[.slice p l.length cap, .int .i64 at_] w fun e w' => ∃ p' c', e = .returned (.tuple #[.slice p' (aloneM l at_).1.length c', .int .i64 (aloneM l at_).2]) ∧ OwnL w' w.heap.size p' c' (aloneM l at_).1 ∧ Below w.heap.size w w' := by
  obtain ⟨i0, hi, hz0, hz1, hz2⟩ := info_parts infoL
  by_cases hc : rightM l at_ = 0
  · have hx : aloneM l at_ = (aloneTo l (backS (usesL l) l.length at_.toNat) l.length, 0) := by unfold aloneM; rw [if_pos hc]
    rw [hx]
    obtain ⟨h200, -, ha0, hal⟩ := rightM_zero hc
    obtain ⟨n, rfl⟩ := Int.eq_ofNat_of_zero_le ha0
    rw [Int.toNat_natCast]
    have hnl : n < l.length := by omega
    have Hc := Lib.hid hc; clear hc hx ha0
    go_enter Try.func8, Try.ntmps8
    go_wp2_with fail
    refine (right_any hR (n : Int)).mono ?_
    rintro _ w1 ⟨rfl, hb1⟩
    rw [Hc.out]
    go_wp2_with fail
    refine (uses_any (hR.below hb1) hwf h200).mono ?_
    rintro _ w2 ⟨q, c, ps, rfl, hD, hpl, hus, hb2⟩
    have hb := hb1.trans (hb2.mono hb1.size)
    clear hb1 hb2
    have hO : OkD ps := ⟨by omega, fun i hi m hm => by
      rw [hus i (by omega)] at hm
      exact usesL_lt hm⟩
    have hback := back_any hD hO n (by omega)
    rw [backS_eq hpl (fun j hj => hus j (by omega))] at hback
    have HB := Lib.hid hback; have Hpl := Lib.hid hpl; clear hback hus hpl
    go_wp2_with fail
    refine HB.out.mono ?_
    rintro _ w3 ⟨g, rfl, hB, hb3⟩
    replace hb := hb.trans (hb3.mono hb.size)
    rw [Hpl.out]
    have hbl : (backS (usesL l) l.length n).length = l.length := by
      have := hB.sl.len
      have e : ∀ k s, (goS (usesL l) s k).length = s.length := by
        intro k
        induction k with
        | zero => intro s; rfl
        | succ k ih => intro s; unfold goS stepS; rw [ih]; split <;> simp
      unfold backS; rw [e]; simp
    clear HB hb3 hD hO
    obtain ⟨bs, hbs⟩ : ∃ bs, backS (usesL l) l.length n = bs := ⟨_, rfl⟩
    rw [hbs] at hB hbl
    have Hbl := Lib.hid hbl; have Hbs := Lib.hid hbs; clear hbl hbs
    have hR3 := hR.below hb
    go_wp2_with fail
    go_loopw [7, 21] (fun v s wr => ∃ k p c, k ≤ l.length ∧ s = .int .i64 (k : Nat) ∧ v = .slice p (aloneTo l bs k).length c ∧ OwnL wr w3.heap.size p c (aloneTo l bs k) ∧ Below w3.heap.size w3 wr) (fun _ s _ => l.length - (intOf s).toNat)
    case atStart => exact ⟨0, none, 0, Nat.zero_le _, rfl, rfl, World.ownsRow_nil _ _ _ _, Below.refl _ _⟩
    case round =>
      obtain ⟨k, p2, c2, hk, rfl, rfl, hown, hbw⟩ := hrel
      rcases Nat.lt_or_ge k l.length with hlt | hge
      · have hlt' : (k : Int) < (l.length : Int) := by omega
        have hgc := (hB.below hbw).cell (i := k) (by have := Hbl.out; omega)
        obtain ⟨bk, off, rfl, hbk, hL⟩ := hR3.lns_ptr hlt
        have hL' := hL.below hbw hbk
        have hs := aloneTo_succ l bs k
        have hlen := aloneTo_len l bs k
        have Hs := Lib.hid hs; clear hs hL
        have hzw := hbw.size
        cases hv : bs.getD k false with
        | false =>
          rw [hv] at hgc
          have hs := Hs.out
          rw [hv, if_neg (by simp)] at hs
          have Hs2 := Lib.hid hs; clear hs hv Hs
          go_wp2_with fail
          go_roundw
          case rel => exact ⟨k + 1, p2, c2, by omega, by go_num, by rw [Hs2.out], by unfold OwnL; rw [Hs2.out]; exact hown, hbw⟩
          case measure => simp [intOf]; omega
        | true =>
          rw [hv] at hgc
          have hs := Hs.out
          rw [hv, if_pos rfl] at hs
          have Hs2 := Lib.hid hs; clear hs hv Hs
          generalize l.getD k .z = x at *
          have hal := (Below.refl wr.heap.size wr).alloc (Nat.le_refl _) (.cells #[.int .i64 x.t, .int .i64 x.o, .int .i64 x.a, .int .i64 x.b] 41)
          have hlit : Sl (wr.alloc (.cells #[.int .i64 x.t, .int .i64 x.o, .int .i64 x.a, .int .i64 x.b] 41)) 4 (some ⟨wr.heap.size, 0, none⟩) 1 1 (lns [x]) :=
            ⟨new_row wr #[.int .i64 x.t, .int .i64 x.o, .int .i64 x.a, .int .i64 x.b] 41 (0, 0), rfl, Nat.le_refl _, by omega, fun h => by cases h⟩
          obtain ⟨xt, xo, xa, xb⟩ := x
          obtain ⟨e0, e1, e2, e3⟩ := hL'
          dsimp only at *
          go_wp2_with (at_builtin; refine wpList_append_sl _ rfl _ _ 22 rfl w3.heap.size 41 i0 (.agg #[.int .i64 0, .int .i64 0, .int .i64 0, .int .i64 0]) 4 32 Try.underlying22 hi hz0 hz1 hz2 rfl (by decide) _ _ _ rfl (own_below hown hal) _ 1 1 _ rfl hlit lns_one (by omega) (by omega) (by simp; omega) ?_; intro p' c' w5 hown2 hbel2)
          rw [← lns_append, ← Hs2.out] at hown2
          have hl2 : (aloneTo l bs k).length + 1 = (aloneTo l bs (k + 1)).length := by rw [Hs2.out]; simp
          have Hl2 := Lib.hid hl2; clear hl2
          go_roundw
          case rel => exact ⟨k + 1, p', c', by omega, by go_num, by rw [Hl2.out], by unfold OwnL; rw [← Hl2.out]; exact hown2, (hbw.trans (hal.mono hzw)).trans hbel2⟩
          case measure => simp [intOf]; omega
      · obtain rfl : k = l.length := by omega
        go_wp2_with fail
        go_ret2
        rw [Hbs.out]
        have hz := hb.size
        exact ⟨_, _, rfl, own_mono hown hz, hb.trans (hbw.mono hz)⟩
  · have hx : aloneM l at_ = ([], rightM l at_) := by unfold aloneM; rw [if_neg hc]
    rw [hx]
    have hc' : (rightM l at_ != 0) = true := by simpa using hc
    clear hx hc
    go_enter Try.func8, Try.ntmps8
    go_wp2_with fail
    refine (right_any hR at_).mono ?_
    rintro _ w1 ⟨rfl, hb1⟩
    go_wp2_with fail
    go_ret2
    exact ⟨none, 0, rfl, World.ownsRow_nil _ _ _ _, hb1⟩
end Go.Proofs.Ytjabhkpifpcccaa
