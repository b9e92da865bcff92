/-
  slices.IndexFunc of numbers, to the letter; slices.DeleteFunc of numbers of the call's own.
-/
import Derived.Test.YtoillodfabdeeaaDel
namespace Go.Proofs.Ytoillodfabdeeaa
open Go.RowKit

set_option maxHeartbeats 1000000 in
theorem indexX_any {w : World} {f : FuncId} {capt : Array Value} {D : World → Int → Prop} {p : Int → Bool} (hH : PredV w f capt (Value.int .i64) D p) {q : Option Addr} {cap : Nat} {l : List Int} (hR : SlI w q cap l) (hD : ∀ w', Below w.heap.size w w' → ∀ x ∈ l, D w' x) :
    Calls Try.prog 34 #[.slice q l.length cap, .func (.func f) #[] capt] w fun e w' => ((e = .returned (.int .i64 (-1)) ∧ ∀ j, j < l.length → p (l.getD j 0) = false) ∨ ∃ k : Nat, k < l.length ∧ e = .returned (.int .i64 k) ∧ p (l.getD k 0) = true ∧ ∀ j, j < k → p (l.getD j 0) = false) ∧ Below w.heap.size w w' := by
  have hent := hH.ent
  have hm : l.length ≤ 9223372036854775807 := Nat.le_trans hR.le hR.big
  go_enter Try.func34, Try.ntmps34
  go_wp2_with fail
  go_loopw [8] (fun s wr => ∃ k : Nat, k ≤ l.length ∧ s = .int .i64 k ∧ Below w.heap.size w wr ∧ Hid (∀ j, j < k → p (l.getD j 0) = false)) (fun s _ => l.length - (intOf s).toNat)
  case atStart => exact ⟨0, Nat.zero_le _, rfl, Below.refl _ _, fun j h => by omega⟩
  case round =>
    obtain ⟨k, hk, rfl, hbl, hno⟩ := hrel
    by_cases hlt : k < l.length
    · obtain ⟨b, off, rfl, hb, hc⟩ := Sl.int_at hR hlt
      have hc' := (hbl.cell (p := ⟨b, off + k, none⟩) hb).trans hc
      have hcall := hH.call wr hbl (l.getD k 0) (hD wr hbl _ (by simp [hlt]))
      have hyes : p (l.getD k 0) = true → Hid (∃ k' : Nat, k' < l.length ∧ (k : Int) = (k' : Int) ∧ p (l.getD k' 0) = true ∧ ∀ j, j < k' → p (l.getD j 0) = false) := fun h => ⟨k, hlt, rfl, h, hno.out⟩
      have hno' : p (l.getD k 0) = false → Hid (∀ j, j < k + 1 → p (l.getD j 0) = false) := fun h j hj => by
        rcases Nat.lt_or_ge j k with h3 | h3
        · exact hno.out j h3
        · rw [show j = k from by omega]; exact h
      have HC := Lib.hid hcall; have HA := Lib.hid hyes; have HN := Lib.hid hno'; clear hcall hyes hno' hc hno
      generalize l.getD k 0 = x at *
      go_wp2_with fail
      refine HC.out.mono ?_
      rintro _ w1 ⟨rfl, hb1⟩
      cases hp : p x with
      | true =>
        have ha := HA.out hp
        have Ha := Lib.hid ha; clear ha hp
        go_wp2_with fail
        go_ret
        obtain ⟨k', h1, h2, h3, h4⟩ := Ha.out.out
        exact ⟨.inr ⟨k', h1, ret_int h2, h3, h4⟩, hbl.trans (hb1.mono hbl.size)⟩
      | false =>
        have hn := HN.out hp
        clear hp
        go_wp2_with fail
        go_roundw
        case rel => exact ⟨k + 1, by omega, by go_num, hbl.trans (hb1.mono hbl.size), hn⟩
        case measure => simp [intOf]; omega
    · obtain rfl : k = l.length := by omega
      go_wp2_with fail
      go_ret
      exact ⟨.inl ⟨rfl, hno.out⟩, hbl⟩

theorem own_head {w : World} {base : Nat} {e : TypeId} {q : Option Addr} {cap n : Nat} {xs : List Value} (h : w.ownsRow base e 1 (.slice q n cap) n xs) (hn : 0 < n) : ∃ g, q = some ⟨g, 0, none⟩ ∧ base ≤ g ∧ g < w.heap.size ∧ n ≤ cap ∧ cap ≤ 9223372036854775807 := by
  rcases h.2 with ⟨h', _⟩ | ⟨g, cap', cur, h', hb, hg, hnc, hcm, hcs, htake⟩
  · cases h'; omega
  · cases h'
    exact ⟨g, rfl, hb, (Array.getElem?_eq_some_iff.1 hg).1, hnc, hcm⟩

theorem own_cellI {w : World} {base g cap : Nat} {l : List Int} (h : OwnI w base (some ⟨g, 0, none⟩) cap l) {i : Nat} (hi : i < l.length) : w.cell? ⟨g, i, none⟩ = some (.int .i64 (l.getD i 0)) := (World.ownsRow.cellAt h i (by omega)).trans (by simp [ints, hi])
theorem own_setI {w : World} {base g cap : Nat} {l : List Int} (h : OwnI w base (some ⟨g, 0, none⟩) cap l) (i : Nat) (x : Int) : OwnI (w.setCell ⟨g, i, none⟩ (.int .i64 x)) base (some ⟨g, 0, none⟩) cap (l.set i x) := by
  have := (World.ownsRow.stored h i (.int .i64 x)).1
  rw [show (ints .i64 l).set i (.int .i64 x) = ints .i64 (l.set i x) from by simp [ints, List.map_set]] at this
  unfold OwnI
  rwa [List.length_set]

set_option maxRecDepth 100000 in
set_option maxHeartbeats 2000000 in
theorem delete_any {W w : World} {f : FuncId} {capt : Array Value} {D : World → Int → Prop} {p : Int → Bool} (hH : PredV W f capt (Value.int .i64) D p) (hW : Below W.heap.size W w) {q : Option Addr} {cap : Nat} {l : List Int} (hO : OwnI w W.heap.size q cap l) (hD : ∀ w', Below W.heap.size W w' → ∀ x ∈ l, D w' x) :
    Calls Try.prog 30 #[.slice q l.length cap, .func (.func f) #[] capt] w fun e w' => ∃ q' cap', e = .returned (.slice q' (keptL p l).length cap') ∧ OwnI w' W.heap.size q' cap' (keptL p l) ∧ Below W.heap.size W w' := by
  have hent := hH.ent
  have hR : SlI w q cap l := Sl.of_own hO
  have hm : l.length ≤ 9223372036854775807 := Nat.le_trans hR.le hR.big
  have hlc := hR.le
  have hcb := hR.big
  go_enter Try.func30, Try.ntmps30
  go_wp2_with fail
  refine (indexX_any (hH.next hW) hR (fun w' h' => hD w' (hW.trans (h'.mono hW.size)))).mono ?_
  rintro _ w1 ⟨hi, hb1⟩
  rcases hi with ⟨rfl, hno⟩ | ⟨k, hk, rfl, hyes, hno⟩
  · have hkeep : keptL p l = l := keptL_all fun x hx => by
      obtain ⟨i, hi, rfl⟩ := List.getElem_of_mem hx
      have := hno i hi
      rwa [List.getD_eq_getElem?_getD, List.getElem?_eq_getElem hi] at this
    have Hk := Lib.hid hkeep; clear hkeep hno
    go_wp2_with fail
    go_ret
    rw [Hk.out]
    exact ⟨_, _, rfl, own_below hO hb1, hW.trans (hb1.mono hW.size)⟩
  · obtain ⟨g, rfl, hg1, hg2, hnc, hcm⟩ := own_head hO (by omega)
    have hO1 := own_below hO hb1
    have hW1 := hW.trans (hb1.mono hW.size)
    have hst : (ints .i64 l).length = l.length := by simp
    have hpre : l.take k = keptL p (l.take (k + 1)) := by
      rw [take_snocI hk, keptL_snoc, hyes, if_pos rfl, keptL_all]
      intro x hx
      obtain ⟨i, hi, rfl⟩ := List.getElem_of_mem hx
      have h3 : i < k := by simp at hi; omega
      have := hno i h3
      rw [List.getD_eq_getElem?_getD, List.getElem?_eq_getElem (by omega)] at this
      simpa using this
    have Hpre := Lib.hid hpre; clear hpre hno hyes hO hst
    have hkm : ((k : Int) == -1) = false := by simp
    go_wp2_with fail
    go_loopw [5, 6] (fun v s wr => ∃ (i j : Nat) (cs : List Int), i < j ∧ j ≤ l.length ∧ v = .int .i64 i ∧ s = .int .i64 j ∧ cs.length = l.length ∧ OwnI wr W.heap.size (some ⟨g, 0, none⟩) cap cs ∧ Below W.heap.size W wr ∧ Hid (cs.take i = keptL p (l.take j)) ∧ Hid (∀ t, j ≤ t → cs.getD t 0 = l.getD t 0)) (fun _ s _ => l.length - (intOf s).toNat)
    case atStart => exact ⟨k, k + 1, l, by omega, by omega, rfl, by go_num, rfl, hO1, hW1, Hpre.out, fun _ _ => rfl⟩
    case round =>
      clear hO1 hW1
      obtain ⟨i, j, cs, hij, hj, rfl, rfl, hcl, hO, hb, htk, htl⟩ := hrel
      by_cases hlt : j < l.length
      · have hx := htl.out j (Nat.le_refl _)
        have hc := own_cellI hO (i := j) (by omega)
        have hc2 := own_cellI hO (i := i) (by omega)
        have hf2 := World.ownsRow.frozenAt hO i
        rw [hx] at hc
        have hcall := hH.call wr hb (l.getD j 0) (hD wr hb _ (by simp [hlt]))
        have hyes : p (l.getD j 0) = true → Hid (cs.take i = keptL p (l.take (j + 1))) := fun h => by
          unfold Hid; rw [take_snocI hlt, keptL_snoc, h, if_pos rfl]; exact htk.out
        have hno : p (l.getD j 0) = false → Hid ((cs.set i (l.getD j 0)).take (i + 1) = keptL p (l.take (j + 1))) := fun h => by
          unfold Hid
          rw [take_snocI hlt, keptL_snoc, h, if_neg (by simp), ← htk.out, take_snocI (by rw [List.length_set]; omega), List.take_set_of_le (Nat.le_refl _)]
          congr 1
          simp [show i < cs.length from by omega]
        have hset : Hid (∀ t, j + 1 ≤ t → (cs.set i (l.getD j 0)).getD t 0 = l.getD t 0) := fun t ht => by
          rw [List.getD_eq_getElem?_getD, List.getElem?_set_ne (by omega), ← List.getD_eq_getElem?_getD]; exact htl.out t (by omega)
        have hset0 : Hid (∀ t, j + 1 ≤ t → cs.getD t 0 = l.getD t 0) := fun t ht => htl.out t (by omega)
        have HC := Lib.hid hcall; have HY := Lib.hid hyes; have HN := Lib.hid hno; clear hcall hyes hno htk htl hx
        generalize l.getD j 0 = x at *
        go_wp2_with fail
        refine HC.out.mono ?_
        rintro _ w2 ⟨rfl, hb2⟩
        have hb3 := hb.trans (hb2.mono hb.size)
        have hO2 := own_below hO hb2
        cases hp : p x with
        | true =>
          have hy := HY.out hp
          clear hp
          go_wp2_with fail
          go_roundw
          case rel => exact ⟨i, j + 1, cs, by omega, by omega, rfl, by go_num, hcl, hO2, hb3, hy, hset0⟩
          case measure => simp [intOf]; omega
        | false =>
          have hn := HN.out hp
          clear hp
          have hgs := (World.ownsRow.lt hO g rfl).2
          have hc3 := (hb2.cell (p := ⟨g, i, none⟩) hgs).trans hc2
          have hf3 := World.ownsRow.frozenAt hO2 i
          generalize cs.getD i 0 = old at *
          clear hc hc2 hf2
          go_wp2_with fail
          go_roundw
          case rel => exact ⟨i + 1, j + 1, cs.set i x, by omega, by omega, by go_num, by go_num, by simp [hcl], own_setI hO2 i x, hb3.setCell (p := ⟨_, _, none⟩) hg1 _, hn, hset⟩
          case measure => simp [intOf]; omega
      · obtain rfl : j = l.length := by omega
        have hfin := htk.out
        rw [List.take_length] at hfin
        have Hfin := Lib.hid hfin; clear hfin htk htl
        have hlen : (keptL p l).length = i := by rw [← Hfin.out, List.length_take]; omega
        have hOx : wr.ownsRow W.heap.size 3 1 (.slice (some ⟨g, 0, none⟩) l.length cap) l.length (ints .i64 cs) := by rw [← hcl]; exact hO
        obtain ⟨w3, hcl3, hO3, hg3⟩ := run_clear_own (P := Try.prog) (ty := 0) Try.underlying23 Try.zeroValue3 rfl rfl hOx (i := i) (by omega)
        have hrun := hcl3 (some ⟨g, i, none⟩) (fun _ => rfl) (cap - i)
        have hil : i ≤ l.length := by omega
        have hic : i ≤ cap := by omega
        have hb4 := hb.grown hg3 hb.size (fun r e => by cases e; exact hg1)
        rw [← ints_take, Hfin.out] at hO3
        have Hlen := Lib.hid hlen; have HO3 := Lib.hid hO3; clear hcl3 hlen hO3 hOx hO
        go_wp2_with fail
        go_ret
        have h3 := HO3.out
        have h4 := Hlen.out
        exact ⟨some ⟨g, 0, none⟩, cap, by rw [h4]; rfl, by unfold OwnI; rw [h4]; exact h3, hb4⟩
end Go.Proofs.Ytoillodfabdeeaa
