/-
  slices.SortStableFunc at events: a row of the call's own becomes the sorted stable one.
-/
import Derived.Test.YtpafnadfoedheaaBy
import Derived.Test.YtpafnadfoedheaaStable
import Derived.Test.YtpafnadfoedheaaShelf
import Derived.Shelf.SlSortCmp.InsertionK
namespace Go.Proofs.Ytpafnadfoedheaa
open Go.RowKit Go.Sort

theorem holds_of_own {w : World} {base g n cap : Nat} {l : List Ev} (h : w.ownsRow base 30 12 (.slice (some ⟨g, 0, none⟩) n cap) n (evs l)) (hn : n = l.length) : HoldsK Ev.cells 12 w g 0 l.toArray := by
  intro j hj
  rw [size_flatK, List.size_toArray] at hj
  have hj12 : j / 12 < l.length := by omega
  rw [get_flatK _ _ _ _ (by simpa using hj), bang_toArray, Nat.zero_add]
  refine ⟨?_, h.frozenAt j⟩
  rw [h.cellAt j (by omega)]
  have := evs_get hj12 (j := j % 12) (by omega)
  rw [show j / 12 * 12 + j % 12 = j from by omega] at this
  rw [this]
  have h12 : j % 12 < (l.getD (j / 12) .z).cells.length := by rw [Ev.cells_length]; omega
  rw [List.getElem?_eq_getElem h12, getElem!_pos (l.getD (j / 12) .z).cells (j % 12) h12]
  rfl
theorem rowK_of_own {w : World} {base g n cap : Nat} {l : List Ev} (h : w.ownsRow base 30 12 (.slice (some ⟨g, 0, none⟩) n cap) n (evs l)) (hn : n = l.length) (hg : g < w.heap.size) : RowK Ev.cells 12 w g 0 l.toArray :=
  ⟨fun _ => rfl, fun x v hv => evs_one (l := [x]) v (by rw [evs_cons, evs_nil, List.append_nil]; exact hv), holds_of_own h hn, hg⟩
theorem below_swk {w W : World} {g B : Nat} {d : Array Ev} (h : SWK Ev.cells 12 w g 0 d W) (hB : B ≤ g) (hg : g < w.heap.size) : Below B w W := by
  obtain ⟨n, os, rfl⟩ := h
  refine ⟨rfl, rfl, rfl, ?_, fun k hk => ?_⟩
  · exact SWK.le ⟨n, os, rfl⟩
  · show ((w.heap.modify g _) ++ os)[k]? = _
    rw [Array.getElem?_append_left (by rw [Array.size_modify]; omega), Array.getElem?_modify]
    rw [if_neg (by omega)]
theorem row_of_swk {w W : World} {g : Nat} {d d0 : Array Ev} (h : SWK Ev.cells 12 w g 0 d W) (R : RowK Ev.cells 12 w g 0 d0) (hs : d.size = d0.size) : RowAt W (some ⟨g, 0, none⟩) (evs d.toList) := by
  have hH := h.holds R.hblk R.hH hs
  refine ⟨g, 0, fun _ => ⟨rfl, h.lt R.hblk⟩, fun i hi => ?_⟩
  rw [evs_length, Array.length_toList] at hi
  have hi12 : i / 12 < d.toList.length := by rw [Array.length_toList]; omega
  have := (hH.cell (i := i / 12) (c := i % 12) (by omega) (by omega)).1
  rw [show 0 + i / 12 * 12 + i % 12 = 0 + i from by omega] at this
  rw [this]
  have e := evs_get hi12 (j := i % 12) (by omega)
  rw [show i / 12 * 12 + i % 12 = i from by omega] at e
  rw [e, ← bang_toArray, Array.toArray_toList]
  have h12 : i % 12 < (d[i / 12]!).cells.length := by rw [Ev.cells_length]; omega
  rw [getElem!_pos (d[i / 12]!).cells (i % 12) h12, List.getElem?_eq_getElem h12]
theorem ltOf_cfE : ltOf cfE = fun x y : Ev => decide (x.s < y.s) := by
  funext x y
  exact decide_eq_decide.2 (cfE_lt x y)

theorem ins_any {w0 : World} {blk cap : Nat} {d0 : Array Ev} (R : RowK Ev.cells 12 w0 blk 0 d0) (hsz : d0.size < 4611686018427387904) : InsC (enc := Ev.cells) Try.prog 12 Ev.s 16 #[] d0 w0 blk 0 cap := by
  intro d w A X B ai bi hs S h ha hb
  have hl : d.size = A.length + X.length + B.length := by rw [← Array.length_toList, h]; simp [Nat.add_assoc]
  subst ha hb
  have hO : SWO (ltOf cfE) := by rw [ltOf_cfE]; exact swo_key
  have hs' : (insertionSort (ltOf cfE) d A.length (A.length + X.length)).size = d.size := (insertionSort_holds hO d A.length (A.length + X.length) (by omega) (by omega)).1.1
  have := AnyQ.insertionSortCmpFunc (P := Try.prog) (ρ := Try.ins_ren) Try.ins 12 Try.isAgg30 Try.sizeOf30 Ev.cells R.hk R.h1 cfE 16 #[] blk 0 cap A.length (A.length + X.length) d w eg16 (cmpLays _ _ _ _) (S.holds R.hblk R.hH hs) (S.lt R.hblk) (by omega) (by omega) (by omega)
  rw [hs] at this
  refine this.mono ?_
  rintro e w' ⟨rfl, n, os, rfl⟩
  refine ⟨rfl, _, ?_, ?_, S.on R.hblk n _ os hs'⟩
  · rw [ltOf_cfE]; exact insertion_part h rfl rfl
  · rw [hs', hs]

theorem ins_none (p : Option Addr) (cap : Nat) (w : World) : Calls Try.prog 26 #[.slice p 0 cap, .int .i64 0, .int .i64 0, .func (.func 16) #[] #[]] w fun e w' => e = .returned (.tuple #[]) ∧ w' = w := by
  go_enter Try.func26, Try.ntmps26
  go_wp2_with fail
  go_loopg [8] 0 (fun kx s wr => s = .int .i64 1 ∧ Hid (wr = w))
  case atStart => exact ⟨rfl, rfl⟩
  case round =>
    obtain ⟨rfl, hw⟩ := hrel
    go_wp2
    go_end0
    exact ⟨rfl, hw.out⟩
theorem stable_none (p : Option Addr) (cap : Nat) (w : World) : Calls Try.prog 24 #[.slice p 0 cap, .int .i64 0, .func (.func 16) #[] #[]] w fun e w' => e = .returned (.tuple #[]) ∧ w' = w := by
  go_enter Try.func24, Try.ntmps24
  go_wp2_with fail
  go_loopg [7, 8] 0 (fun kx s s' wr => s = .int .i64 0 ∧ s' = .int .i64 20 ∧ Hid (wr = w))
  case atStart => exact ⟨rfl, rfl, rfl⟩
  case round =>
    obtain ⟨rfl, rfl, hw⟩ := hrel
    go_wp2_with (go_at_call 26; refine (ins_none _ _ _).mono ?_; rintro e w1 ⟨rfl, hw1⟩)
    have HW : Hid (w1 = w) := hw1.trans hw.out
    clear hw1
    go_loopg [6] 0 (fun kx s wr => s = .int .i64 20 ∧ Hid (wr = w))
    case atStart => first | exact ⟨rfl, HW⟩ | exact ⟨rfl, hw⟩
    case round =>
      obtain ⟨rfl, hw⟩ := hrel
      go_wp2
      go_end0
      exact ⟨rfl, hw.out⟩

set_option maxRecDepth 100000 in
set_option maxHeartbeats 1000000 in
theorem sortStable_any {w : World} {B n cap : Nat} {p : Option Addr} {l : List Ev} (h : w.ownsRow B 30 12 (.slice p n cap) n (evs l)) (hn : n = l.length) (hB : B ≤ w.heap.size) (hl : l.length ≤ 100000) :
    Calls Try.prog 18 #[.slice p n cap, .func (.func 16) #[] #[]] w fun e w' => e = .returned (.tuple #[]) ∧ Sl w' 12 p n cap (evs (ssort Ev.s l)) ∧ Below B w w' := by
  have hS := Sl.of_own h
  by_cases h0 : n = 0
  · have : l = [] := List.length_eq_zero_iff.1 (by omega)
    subst this
    subst h0
    have HS := Lib.hid hS
    clear h hS hn hl
    go_enter Try.func18, Try.ntmps18
    go_wp2_with (go_at_call 24; refine (stable_none _ _ _).mono ?_; rintro e w1 ⟨rfl, rfl⟩)
    go_end0
    exact ⟨rfl, HS.out, Below.refl _ _⟩
  · obtain ⟨g, hp, hBg, hg⟩ : ∃ g, p = some ⟨g, 0, none⟩ ∧ B ≤ g ∧ g < w.heap.size := by
      rcases h.2 with ⟨-, e⟩ | ⟨g, cap', cur, hv, hb, hg, -⟩
      · exact absurd e h0
      · simp only [Value.slice.injEq, true_and] at hv
        exact ⟨g, hv.1, hb, (Array.getElem?_eq_some_iff.1 hg).1⟩
    subst hp
    have R := rowK_of_own h hn hg
    have hsz : l.toArray.size = n := by simpa using hn.symm
    have := stable_at (P := Try.prog) (α := Ev) (enc := Ev.cells) (k := 12) sf_try (key := Ev.s) (cf := cfE) cfE_lt (g := 16) (cb := #[]) eg16 (d0 := l.toArray) (w0 := w) (blk := g) (off := 0) (cap := cap) (cmpLays _ _ _ _) R (by omega) (ins_any R (by omega)) (d := l.toArray) (w := w) rfl (SWK.start R.hH)
    rw [hsz] at this
    have HT := Lib.hid this
    have HS := Lib.hid hS
    have HR := Lib.hid R
    have HSZ := Lib.hid hsz
    have HNN := Lib.hid hn
    clear this h hS R hsz hn hl
    go_enter Try.func18, Try.ntmps18
    go_wp2_with (go_at_call 24; refine (HT.out).mono ?_; rintro e w1 ⟨rfl, d', hd, hs, S⟩)
    go_end0
    refine ⟨rfl, ?_, below_swk S hBg hg⟩
    have hr := row_of_swk S HR.out (by rw [hs, HSZ.out])
    rw [hd] at hr
    exact ⟨hr, by rw [evs_length, ssort_length, ← HNN.out], HS.out.le, HS.out.big, fun e => by cases e⟩
end Go.Proofs.Ytpafnadfoedheaa
