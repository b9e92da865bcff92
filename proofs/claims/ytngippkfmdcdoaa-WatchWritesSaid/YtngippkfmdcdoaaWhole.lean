import Derived.Test.YtngippkfmdcdoaaKey
import Derived.Maps.OwnOps
namespace Go.Proofs.Ytngippkfmdcdoaa
open Go.RowKit

def EvsWf (l : List Ev) : Prop := ∀ i, i < l.length → (Lit.int .i64 (at_ l i).A).wf = true ∧ (Lit.int .i64 (at_ l i).B).wf = true

/-- What the map holds when i events are over. -/
def knownG (l : List Ev) (i : Nat) (key : Value) : Option Value :=
  match key with
  | .agg ⟨[.int .i64 A, .int .i64 B]⟩ => (known l i A B).map fun v => .agg #[.int .i64 v.1, .int .i64 v.2]
  | _ => none

theorem known_succ (l : List Ev) (i : Nat) (A B : Int) : known l (i + 1) A B = if (at_ l i).inSlot A B then some ((at_ l i).v1, (at_ l i).v2) else known l i A B := by
  unfold known
  simp only [lastBelow]
  by_cases h : (at_ l i).inSlot A B = true
  · rw [if_pos h, if_pos h]
  · rw [if_neg h, if_neg h]

theorem knownG_skip {l : List Ev} {i : Nat} (h : (at_ l i).isRW = false) : knownG l (i + 1) = knownG l i := by
  funext key
  unfold knownG
  split
  · rw [known_succ]
    unfold Ev.inSlot
    rw [h]
    simp
  · rfl

theorem knownG_put {l : List Ev} {i : Nat} {e : Ev} (he : at_ l i = e) (h : e.isRW = true) : putG (knownG l i) (.agg #[.int .i64 e.A, .int .i64 e.B]) (.agg #[.int .i64 e.v1, .int .i64 e.v2]) = knownG l (i + 1) := by
  funext key
  by_cases hk : key = .agg #[.int .i64 e.A, .int .i64 e.B]
  · subst hk
    rw [putG_same]
    show _ = (known l (i + 1) e.A e.B).map fun v => Value.agg #[.int .i64 v.1, .int .i64 v.2]
    rw [known_succ, he]
    unfold Ev.inSlot
    rw [h]
    simp
  · rw [putG_other _ _ hk]
    unfold knownG
    split
    · next A B =>
      rw [known_succ, he]
      unfold Ev.inSlot
      rw [h]
      have : (e.A == A && e.B == B) = false := by
        rw [Bool.and_eq_false_iff]
        by_cases hA : e.A = A
        · by_cases hB : e.B = B
          · subst hA hB; exact absurd rfl hk
          · exact .inr (by simpa using hB)
        · exact .inl (by simpa using hA)
      rw [this]
      simp
    · rfl

def ibi' (x : Int × Bool × Int) : Value := .tuple #[.int .i64 x.1, .bool x.2.1, .int .i64 x.2.2]
theorem ret_ibi {a e : Int} {b : Bool} {x : Int × Bool × Int} (h : x = (a, b, e)) : Ending.returned (.tuple #[.int .i64 a, .bool b, .int .i64 e]) = .returned (ibi' x) := by rw [h]; rfl

set_option maxRecDepth 100000 in
set_option maxHeartbeats 2000000 in
theorem whole_any (p : Option Addr) (cap : Nat) (l : List Ev) (w : World) (hS : Sl w 12 p l.length cap (evs l)) (hwf : EvsWf l) :
    Calls Try.prog 7 #[.slice p l.length cap] w fun e w' => e = .returned (ibi' (wholeM l)) ∧ Below w.heap.size w w' := by
  have hn : l.length ≤ 9223372036854775807 := Nat.le_trans hS.le hS.big
  have hmm := @run_makeMap Try.prog
  go_enter Try.func7, Try.ntmps7
  go_wp2_with fail
  refine (check_any _ _ _ _ _ hn).mono ?_
  rintro _ w1 ⟨rfl, rfl⟩
  by_cases hc : chk l.length 0 = 0
  · have hc' : (chk l.length 0 != 0) = false := by simpa using hc
    obtain ⟨-, -, h2⟩ := chk_zero hc
    have Hc := Lib.hid hc; clear hc
    go_wp2_with fail
    go_loopw [22] (fun s wr => ∃ k : Nat, k ≤ l.length ∧ s = .int .i64 k ∧ Below w.heap.size w wr ∧ MapIs Try.prog wr 45 w.heap.size k (knownG l k) ∧ Hid (∀ j, j < k → bad l j = false)) (fun s _ => l.length - (intOf s).toNat)
    case atStart => exact ⟨0, Nat.zero_le _, by go_num, (Below.refl _ _).alloc (Nat.le_refl _) _, (mapIs_made w Try.prog 45).congr (fun key kl _ => by unfold knownG known; simp only [lastBelow, Option.map_none]; split <;> rfl), fun j h => by omega⟩
    case round =>
      obtain ⟨k, hk, rfl, hbk, hmap, hno⟩ := hrel
      have hwz := hbk.size
      rcases Nat.lt_or_ge k l.length with hkm | hkm
      · obtain ⟨b, off, rfl, hb, -⟩ := hS.row.cons (by simp; omega)
        have hkm' : (k : Int) < (l.length : Int) := by omega
        have hE := (hS.ev_at hkm).below hbk hb
        obtain ⟨hA, hB⟩ := hwf k hkm
        obtain ⟨e, he⟩ : ∃ e, at_ l k = e := ⟨_, rfl⟩
        rw [show l.getD k .z = e from he] at hE
        rw [he] at hA hB
        obtain ⟨kl, hkl⟩ := key45 hA hB
        have He := Lib.hid he; have Hk := Lib.hid hkm; clear he hkm hk
        obtain ⟨g0, g1, g2, g3, g4, g5, g6, g7, g8, g9, g10, g11⟩ := hE
        go_wp2_with fail
        refine (of_any e _).mono ?_
        rintro _ W1 ⟨rfl, hb1⟩
        clear g0 g1 g2 g3 g4 g5 g6 g7 g8 g9 g10 g11
        have hX0 := Blk.mk_ wr #[.int .i64 e.k, .int .i64 e.s, .int .i64 e.t, .int .i64 e.f, .int .i64 e.a, .int .i64 e.l, .int .i64 e.A, .int .i64 e.B, .int .i64 e.v1, .int .i64 e.v2, .int .i64 e.o1, .int .i64 e.o2] 33 rfl
        have hbw := ((Below.refl _ wr).alloc (Nat.le_refl _) (.cells #[.int .i64 e.k, .int .i64 e.s, .int .i64 e.t, .int .i64 e.f, .int .i64 e.a, .int .i64 e.l, .int .i64 e.A, .int .i64 e.B, .int .i64 e.v1, .int .i64 e.v2, .int .i64 e.o1, .int .i64 e.o2] 33)).trans (hb1.mono (by simp))
        have hX1 := hX0.next hb1
        have hmap1 := hmap.below hbw hmap.lt
        replace hbk : Below w.heap.size w W1 := hbk.trans (hbw.mono hwz)
        have hz1 := hbk.size
        clear hX0 hb1 hbw hmap hwz
        cases hR : e.isRW with
        | false =>
          go_wp2
          go_roundw
          case rel => exact ⟨k + 1, by have := Hk.out; omega, by go_num, hbk.alloc hz1 _, (by rw [knownG_skip (by rw [He.out]; exact hR)]; exact (hmap1.alloc _).mono (by omega)), fun j hj => by
            rcases Nat.lt_or_ge j k with h3 | h3
            · exact hno.out j h3
            · rw [show j = k from by omega]; unfold bad; rw [He.out, hR]; rfl⟩
          case measure => have := Hk.out; simp [intOf]; omega
        | true =>
          have a0 : ∀ o, (W1.alloc o).cell? ⟨wr.heap.size, 0, none⟩ = some (.int .i64 e.k) := fun o => (hX1.alloc o).cell 0
          have b0 : ∀ o o', ((W1.alloc o).alloc o').cell? ⟨wr.heap.size, 0, none⟩ = some (.int .i64 e.k) := fun o o' => ((hX1.alloc o).alloc o').cell 0
          have c0 : ∀ o o' o'', (((W1.alloc o).alloc o').alloc o'').cell? ⟨wr.heap.size, 0, none⟩ = some (.int .i64 e.k) := fun o o' o'' => (((hX1.alloc o).alloc o').alloc o'').cell 0
          have a8 : ∀ o, (W1.alloc o).cell? ⟨wr.heap.size, 8, none⟩ = some (.int .i64 e.v1) := fun o => (hX1.alloc o).cell 8
          have b8 : ∀ o o', ((W1.alloc o).alloc o').cell? ⟨wr.heap.size, 8, none⟩ = some (.int .i64 e.v1) := fun o o' => ((hX1.alloc o).alloc o').cell 8
          have c8 : ∀ o o' o'', (((W1.alloc o).alloc o').alloc o'').cell? ⟨wr.heap.size, 8, none⟩ = some (.int .i64 e.v1) := fun o o' o'' => (((hX1.alloc o).alloc o').alloc o'').cell 8
          have a9 : ∀ o, (W1.alloc o).cell? ⟨wr.heap.size, 9, none⟩ = some (.int .i64 e.v2) := fun o => (hX1.alloc o).cell 9
          have b9 : ∀ o o', ((W1.alloc o).alloc o').cell? ⟨wr.heap.size, 9, none⟩ = some (.int .i64 e.v2) := fun o o' => ((hX1.alloc o).alloc o').cell 9
          have c9 : ∀ o o' o'', (((W1.alloc o).alloc o').alloc o'').cell? ⟨wr.heap.size, 9, none⟩ = some (.int .i64 e.v2) := fun o o' o'' => (((hX1.alloc o).alloc o').alloc o'').cell 9
          have a10 : ∀ o, (W1.alloc o).cell? ⟨wr.heap.size, 10, none⟩ = some (.int .i64 e.o1) := fun o => (hX1.alloc o).cell 10
          have b10 : ∀ o o', ((W1.alloc o).alloc o').cell? ⟨wr.heap.size, 10, none⟩ = some (.int .i64 e.o1) := fun o o' => ((hX1.alloc o).alloc o').cell 10
          have c10 : ∀ o o' o'', (((W1.alloc o).alloc o').alloc o'').cell? ⟨wr.heap.size, 10, none⟩ = some (.int .i64 e.o1) := fun o o' o'' => (((hX1.alloc o).alloc o').alloc o'').cell 10
          have a11 : ∀ o, (W1.alloc o).cell? ⟨wr.heap.size, 11, none⟩ = some (.int .i64 e.o2) := fun o => (hX1.alloc o).cell 11
          have b11 : ∀ o o', ((W1.alloc o).alloc o').cell? ⟨wr.heap.size, 11, none⟩ = some (.int .i64 e.o2) := fun o o' => ((hX1.alloc o).alloc o').cell 11
          have c11 : ∀ o o' o'', (((W1.alloc o).alloc o').alloc o'').cell? ⟨wr.heap.size, 11, none⟩ = some (.int .i64 e.o2) := fun o o' o'' => (((hX1.alloc o).alloc o').alloc o'').cell 11
          have hno' : bad l k = false → Hid (∀ j, j < k + 1 → bad l j = false) := fun h j hj => by
            rcases Nat.lt_or_ge j k with h3 | h3
            · exact hno.out j h3
            · rw [show j = k from by omega]; exact h
          have hput := knownG_put He.out hR
          have hbe : bad l k = match known l k e.A e.B with | some v => decide (v ≠ e.told) | none => false := by unfold bad; rw [He.out, hR]; rfl
          have hbig : k < maxLen := by unfold maxLen; omega
          have hz3 := hX1.lt
          have hal : ∀ o o' o'', Below w.heap.size w (((W1.alloc o).alloc o').alloc o'') := fun o o' o'' => ((hbk.alloc hz1 o).alloc (by simp; omega) o').alloc (by simp; omega) o''
          have hfin : ∀ o o' o'' w2, (((W1.alloc o).alloc o').alloc o'').grownBy w2 (some w.heap.size) → Below w.heap.size w w2 := fun o o' o'' w2 hg => (hal o o' o'').grown hg (hal o o' o'').size (fun r e => by cases e; exact Nat.le_refl _)
          cases hkn : known l k e.A e.B with
          | none =>
            rw [hkn] at hbe
            have hG : knownG l k (.agg #[.int .i64 e.A, .int .i64 e.B]) = none := by show (known l k e.A e.B).map _ = none; rw [hkn]; rfl
            have Hb := Lib.hid hbe; have Hg := Lib.hid hG; have Hp := Lib.hid hput; clear hbe hkn hG hput
            cases d4 : (e.k == 4) with
            | true =>
              go_wp2_with (first
                | (at_lookup; refine wpList_lookup_is rfl _ _ 43 true rfl 28 keyed45 Try.underlying43 _ (Try.zeroValue28 _) rfl ((hmap1.alloc _).alloc _) (.agg #[.int .i64 e.A, .int .i64 e.B]) kl rfl hkl none Hg.out ?_)
                | (at_mapUpdate; refine wpList_mapUpdate_is rfl _ _ _ 43 rfl 28 keyed45 Try.underlying43 rfl (((hmap1.alloc _).alloc _).alloc _) hbig (.agg #[.int .i64 e.A, .int .i64 e.B]) (.agg #[.int .i64 e.v1, .int .i64 e.v2]) kl rfl rfl hkl ?_; intro w2 hmap2 hg2))
              go_roundw
              case rel =>
                rw [Hp.out] at hmap2
                exact ⟨k + 1, by have := Hk.out; omega, by go_num, hfin _ _ _ _ hg2, hmap2, hno' Hb.out⟩
              case measure => have := Hk.out; simp [intOf]; omega
            | false =>
              go_wp2_with (first
                | (at_lookup; refine wpList_lookup_is rfl _ _ 43 true rfl 28 keyed45 Try.underlying43 _ (Try.zeroValue28 _) rfl ((hmap1.alloc _).alloc _) (.agg #[.int .i64 e.A, .int .i64 e.B]) kl rfl hkl none Hg.out ?_)
                | (at_mapUpdate; refine wpList_mapUpdate_is rfl _ _ _ 43 rfl 28 keyed45 Try.underlying43 rfl (((hmap1.alloc _).alloc _).alloc _) hbig (.agg #[.int .i64 e.A, .int .i64 e.B]) (.agg #[.int .i64 e.v1, .int .i64 e.v2]) kl rfl rfl hkl ?_; intro w2 hmap2 hg2))
              go_roundw
              case rel =>
                rw [Hp.out] at hmap2
                exact ⟨k + 1, by have := Hk.out; omega, by go_num, hfin _ _ _ _ hg2, hmap2, hno' Hb.out⟩
              case measure => have := Hk.out; simp [intOf]; omega
          | some v =>
            obtain ⟨va, vb⟩ := v
            rw [hkn] at hbe
            have hG : knownG l k (.agg #[.int .i64 e.A, .int .i64 e.B]) = some (.agg #[.int .i64 va, .int .i64 vb]) := by show (known l k e.A e.B).map _ = _; rw [hkn]; rfl
            have Hg := Lib.hid hG; have Hp := Lib.hid hput; clear hkn hG hput
            by_cases hv : (va, vb) = e.told
            · have hbf : bad l k = false := by rw [hbe]; simp [hv]
              have Hb := Lib.hid hbf; clear hbe hbf
              unfold Ev.told at hv
              cases d4 : (e.k == 4) with
              | true =>
                rw [d4, if_pos rfl] at hv
                simp only [Prod.mk.injEq] at hv
                obtain ⟨rfl, rfl⟩ := hv
                go_wp2_with (first
                | (at_lookup; refine wpList_lookup_is rfl _ _ 43 true rfl 28 keyed45 Try.underlying43 _ (Try.zeroValue28 _) rfl ((hmap1.alloc _).alloc _) (.agg #[.int .i64 e.A, .int .i64 e.B]) kl rfl hkl (some (.agg #[.int .i64 e.o1, .int .i64 e.o2])) Hg.out ?_)
                | (at_mapUpdate; refine wpList_mapUpdate_is rfl _ _ _ 43 rfl 28 keyed45 Try.underlying43 rfl (((hmap1.alloc _).alloc _).alloc _) hbig (.agg #[.int .i64 e.A, .int .i64 e.B]) (.agg #[.int .i64 e.v1, .int .i64 e.v2]) kl rfl rfl hkl ?_; intro w2 hmap2 hg2))
                go_roundw
                case rel =>
                  rw [Hp.out] at hmap2
                  exact ⟨k + 1, by have := Hk.out; omega, by go_num, hfin _ _ _ _ hg2, hmap2, hno' Hb.out⟩
                case measure => have := Hk.out; simp [intOf]; omega
              | false =>
                rw [d4, if_neg (by simp)] at hv
                simp only [Prod.mk.injEq] at hv
                obtain ⟨rfl, rfl⟩ := hv
                go_wp2_with (first
                | (at_lookup; refine wpList_lookup_is rfl _ _ 43 true rfl 28 keyed45 Try.underlying43 _ (Try.zeroValue28 _) rfl ((hmap1.alloc _).alloc _) (.agg #[.int .i64 e.A, .int .i64 e.B]) kl rfl hkl (some (.agg #[.int .i64 e.v1, .int .i64 e.v2])) Hg.out ?_)
                | (at_mapUpdate; refine wpList_mapUpdate_is rfl _ _ _ 43 rfl 28 keyed45 Try.underlying43 rfl (((hmap1.alloc _).alloc _).alloc _) hbig (.agg #[.int .i64 e.A, .int .i64 e.B]) (.agg #[.int .i64 e.v1, .int .i64 e.v2]) kl rfl rfl hkl ?_; intro w2 hmap2 hg2))
                go_roundw
                case rel =>
                  rw [Hp.out] at hmap2
                  exact ⟨k + 1, by have := Hk.out; omega, by go_num, hfin _ _ _ _ hg2, hmap2, hno' Hb.out⟩
                case measure => have := Hk.out; simp [intOf]; omega
            · have hbt : bad l k = true := by rw [hbe]; simpa using hv
              have hw : wholeM l = ((k : Int), true, 0) := by
                have h1 : firstFrom (bad l) 0 l.length = some k := firstFrom_some (Nat.zero_le _) (by have := Hk.out; omega) (fun x _ h => hno.out x h) hbt
                unfold wholeM
                rw [if_pos Hc.out, h1]
              have Hw := Lib.hid hw; clear hbe hbt hw
              unfold Ev.told at hv
              cases d4 : (e.k == 4) with
              | true =>
                rw [d4, if_pos rfl] at hv
                go_wp2_with (first
                | (at_lookup; refine wpList_lookup_is rfl _ _ 43 true rfl 28 keyed45 Try.underlying43 _ (Try.zeroValue28 _) rfl ((hmap1.alloc _).alloc _) (.agg #[.int .i64 e.A, .int .i64 e.B]) kl rfl hkl (some (.agg #[.int .i64 va, .int .i64 vb])) Hg.out ?_)
                | (at_mapUpdate; refine wpList_mapUpdate_is rfl _ _ _ 43 rfl 28 keyed45 Try.underlying43 rfl (((hmap1.alloc _).alloc _).alloc _) hbig (.agg #[.int .i64 e.A, .int .i64 e.B]) (.agg #[.int .i64 e.v1, .int .i64 e.v2]) kl rfl rfl hkl ?_; intro w2 hmap2 hg2))
                all_goals first
                  | (go_ret3; exact ⟨ret_ibi Hw.out, hal _ _ _⟩)
                  | (exfalso; exact hv (Prod.ext (by assumption) (by assumption)))
              | false =>
                rw [d4, if_neg (by simp)] at hv
                go_wp2_with (first
                | (at_lookup; refine wpList_lookup_is rfl _ _ 43 true rfl 28 keyed45 Try.underlying43 _ (Try.zeroValue28 _) rfl ((hmap1.alloc _).alloc _) (.agg #[.int .i64 e.A, .int .i64 e.B]) kl rfl hkl (some (.agg #[.int .i64 va, .int .i64 vb])) Hg.out ?_)
                | (at_mapUpdate; refine wpList_mapUpdate_is rfl _ _ _ 43 rfl 28 keyed45 Try.underlying43 rfl (((hmap1.alloc _).alloc _).alloc _) hbig (.agg #[.int .i64 e.A, .int .i64 e.B]) (.agg #[.int .i64 e.v1, .int .i64 e.v2]) kl rfl rfl hkl ?_; intro w2 hmap2 hg2))
                all_goals first
                  | (go_ret3; exact ⟨ret_ibi Hw.out, hal _ _ _⟩)
                  | (exfalso; exact hv (Prod.ext (by assumption) (by assumption)))
      · obtain rfl : k = l.length := by omega
        have hw : wholeM l = (0, false, 0) := by
          have h1 : firstFrom (bad l) 0 l.length = none := firstFrom_none (fun x _ h => hno.out x (by omega))
          unfold wholeM
          rw [if_pos Hc.out, h1]
        have Hw := Lib.hid hw; clear hw
        go_wp2
        go_ret3
        exact ⟨ret_ibi Hw.out, hbk⟩
  · have hc' : (chk l.length 0 != 0) = true := by simpa using hc
    have hw : wholeM l = (0, false, chk l.length 0) := by unfold wholeM; rw [if_neg hc]
    have Hw := Lib.hid hw; have Hc := Lib.hid hc; clear hw hc
    go_wp2
    go_ret3
    exact ⟨ret_ibi Hw.out, Below.refl _ _⟩
end Go.Proofs.Ytngippkfmdcdoaa
