/-
  slices.SortFunc of pairs: a row of the call's own becomes the sorted one; nothing else turns.
-/
import Derived.Test.YtiaaoajnecppnaaBy
import Derived.Test.YtiaaoajnecppnaaShelf
import Derived.Shelf.SlSortCmp.NoneTotal
namespace Go.Proofs.Ytiaaoajnecppnaa
open Go.RowKit Go.Sort

theorem bang_toArray (l : List Dp) (i : Nat) : l.toArray[i]! = l.getD i .z := by
  rw [List.getD_eq_getElem?_getD]
  by_cases h : i < l.length
  · rw [getElem!_pos _ i (by simpa using h), List.getElem?_eq_getElem h]; rfl
  · rw [getElem!_neg _ i (by simpa using h), List.getElem?_eq_none (by omega)]; rfl
theorem holds_of_own {w : World} {base g n cap : Nat} {l : List Dp} (h : w.ownsRow base 35 2 (.slice (some ⟨g, 0, none⟩) n cap) n (dps l)) (hn : n = l.length) : HoldsK Dp.cells 2 w g 0 l.toArray := by
  intro j hj
  rw [size_flatK, List.size_toArray] at hj
  have hj2 : j / 2 < l.length := by omega
  rw [get_flatK _ _ _ _ (by simpa using hj), bang_toArray, Nat.zero_add]
  refine ⟨?_, h.frozenAt j⟩
  rw [h.cellAt j (by omega)]
  have := dps_get hj2 (j := j % 2) (by omega)
  rw [show j / 2 * 2 + j % 2 = j from by omega] at this
  rw [this]
  have h2 : j % 2 < (l.getD (j / 2) .z).cells.length := by rw [Dp.cells_length]; omega
  rw [List.getElem?_eq_getElem h2, getElem!_pos (l.getD (j / 2) .z).cells (j % 2) h2]
  rfl
theorem rowK_of_own {w : World} {base g n cap : Nat} {l : List Dp} (h : w.ownsRow base 35 2 (.slice (some ⟨g, 0, none⟩) n cap) n (dps l)) (hn : n = l.length) (hg : g < w.heap.size) : RowK Dp.cells 2 w g 0 l.toArray :=
  ⟨fun _ => rfl, fun x v hv => dps_one (l := [x]) v (by rw [dps_cons, dps_nil, List.append_nil]; exact hv), holds_of_own h hn, hg⟩
theorem grown_swk {w W : World} {g : Nat} {d : Array Dp} (h : SWK Dp.cells 2 w g 0 d W) : w.grownBy W (some g) := by
  obtain ⟨n, os, rfl⟩ := h
  refine ⟨rfl, rfl, rfl, ?_, fun k hk hne => ?_⟩
  · exact SWK.le ⟨n, os, rfl⟩
  · show ((w.heap.modify g _) ++ os)[k]? = _
    rw [Array.getElem?_append_left (by rw [Array.size_modify]; omega), Array.getElem?_modify]
    rw [if_neg (fun e => hne (by rw [e]))]
theorem size_putCells {α : Type} [Inhabited α] (enc : α → Value) (off : Nat) (d : Array α) (c : Array Value) : (putCells enc off d c).size = c.size := by simp [putCells]
theorem own_of_swk {w W : World} {B g n cap : Nat} {l : List Dp} {d : Array Dp} (h : w.ownsRow B 35 2 (.slice (some ⟨g, 0, none⟩) n cap) n (dps l)) (S : SWK Dp.cells 2 w g 0 d W) (hn : n = l.length) (hs : d.size = l.length) (hg : g < w.heap.size) :
    W.ownsRow B 35 2 (.slice (some ⟨g, 0, none⟩) n cap) n (dps d.toList) := by
  have R := rowK_of_own h hn hg
  have hH := S.holds R.hblk R.hH (by simpa using hs)
  rcases h.2 with ⟨h', _⟩ | ⟨g', cap', cur, h', hb, hgg, hnc, hcm, hcs, htake⟩
  · simp at h'
  · simp only [Value.slice.injEq, Option.some.injEq, Addr.mk.injEq, and_true, true_and] at h'
    obtain ⟨rfl, rfl⟩ := h'
    obtain ⟨m, os, rfl⟩ := S
    refine ⟨by rw [dps_length, Array.length_toList]; omega, .inr ⟨g, cap, putCells id 0 (flatK Dp.cells 2 d) cur, rfl, hb, ?_, hnc, hcm, by rw [size_putCells, hcs], ?_⟩⟩
    · show ((w.heap.modify g _) ++ os)[g]? = _
      rw [Array.getElem?_append_left (by rw [Array.size_modify]; exact hg), Array.getElem?_modify, if_pos rfl, hgg]
      rfl
    · have hblk : (sortWorldK Dp.cells 2 w g 0 m d os).heap[g]? = some (.cells (putCells id 0 (flatK Dp.cells 2 d) cur) 35) := by
        show ((w.heap.modify g _) ++ os)[g]? = _
        rw [Array.getElem?_append_left (by rw [Array.size_modify]; exact hg), Array.getElem?_modify, if_pos rfl, hgg]
        rfl
      apply List.ext_getElem?
      intro i
      by_cases hi : i < n * 2
      · have hd2 : i / 2 < d.toList.length := by rw [Array.length_toList]; omega
        have hc := (hH.cell (i := i / 2) (c := i % 2) (by omega) (by omega)).1
        rw [show 0 + i / 2 * 2 + i % 2 = i from by omega] at hc
        have e2 : (sortWorldK Dp.cells 2 w g 0 m d os).cell? ⟨g, i, none⟩ = (putCells id 0 (flatK Dp.cells 2 d) cur)[i]? := by
          simp [World.cell?, hblk]
        rw [e2] at hc
        rw [List.getElem?_take_of_lt hi, Array.getElem?_toList, hc]
        have e := dps_get hd2 (j := i % 2) (by omega)
        rw [show i / 2 * 2 + i % 2 = i from by omega] at e
        rw [e, ← bang_toArray, Array.toArray_toList]
        have h12 : i % 2 < (d[i / 2]!).cells.length := by rw [Dp.cells_length]; omega
        rw [getElem!_pos (d[i / 2]!).cells (i % 2) h12, List.getElem?_eq_getElem h12]
      · rw [List.getElem?_eq_none (by rw [List.length_take]; omega), List.getElem?_eq_none (by rw [dps_length, Array.length_toList]; omega)]

def sortP (l : List Dp) : List Dp := l.mergeSort fun x y => !(ltOf cfP) y x
theorem sortP_perm (l : List Dp) : (sortP l).Perm l := List.mergeSort_perm l _
theorem eg17 : ∀ args w, (callFunc 38 args).run Try.prog w = .ok (.enter 38 args) w := enters_of Try.func38 rfl rfl
set_option maxRecDepth 100000 in
set_option maxHeartbeats 1000000 in
theorem sortP_any {w : World} {B n cap : Nat} {p : Option Addr} {l : List Dp} (h : w.ownsRow B 35 2 (.slice p n cap) n (dps l)) (hn : n = l.length) (hl : l.length ≤ 100000) :
    Calls Try.prog 37 #[.slice p n cap, .func (.func 38) #[] #[]] w fun e w' => e = .returned (.tuple #[]) ∧ w'.ownsRow B 35 2 (.slice p n cap) n (dps (sortP l)) ∧ w.grownBy w' (Value.slice p n cap).ownBlock := by
  by_cases h0 : n = 0
  · have : l = [] := List.length_eq_zero_iff.1 (by omega)
    subst this
    subst h0
    refine (AnyF.slices_SortFunc_none (P := Try.prog) (ρ := Try.sortP_ren) Try.sortP p cap (.func (.func 38) #[] #[]) w).mono ?_
    rintro e w' ⟨rfl, hw⟩
    subst hw
    have e2 : sortP [] = [] := by simp [sortP]
    exact ⟨rfl, by rw [e2]; exact h, World.grownBy.refl _ _⟩
  · obtain ⟨g, hp, hg⟩ : ∃ g, p = some ⟨g, 0, none⟩ ∧ g < w.heap.size := by
      rcases h.2 with ⟨-, e⟩ | ⟨g, cap', cur, hv, -, hg, -⟩
      · exact absurd e h0
      · simp only [Value.slice.injEq, true_and] at hv
        exact ⟨g, hv.1, (Array.getElem?_eq_some_iff.1 hg).1⟩
    subst hp
    have R := rowK_of_own h hn hg
    have hsz : l.toArray.size = n := by simpa using hn.symm
    have := AnyQ.slices_SortFunc_total (P := Try.prog) (ρ := Try.sortP_ren) Try.sortP 2 Try.isAgg35 Try.sizeOf35 Dp.cells R.hk R.h1 cfP swo_cfP 38 #[] g 0 cap l.toArray w eg17 (cmpLays _ _ _ _) R.hH R.hblk (by omega) tot_cfP
    rw [hsz] at this
    refine this.mono ?_
    rintro e w' ⟨rfl, m, os, hw⟩
    have S : SWK Dp.cells 2 w g 0 (sortP l).toArray w' := ⟨m, os, hw⟩
    have hlen : (sortP l).length = l.length := (sortP_perm l).length_eq
    have := own_of_swk h S hn (by simpa using hlen) hg
    exact ⟨rfl, this, grown_swk S⟩
end Go.Proofs.Ytiaaoajnecppnaa
