/-
  What PagesBack asks, in plain words.
-/
import Derived.Test.YtcnppcddpcpeoaaLaws4
namespace Go.Proofs.Ytcnppcddpcpeoaa

theorem putRoot_else {l : List (List Int)} (r : List Int) {p : Nat} (hp : p < l.length) (hne : p ≠ freeRoot l) : (putRoot l r).getD p [] = l.getD p [] := by
  unfold putRoot
  split
  · simp only [List.getD_eq_getElem?_getD, List.getElem?_set, if_neg (Ne.symm hne)]
  · rw [List.getD_eq_getElem?_getD, List.getElem?_append_left hp, ← List.getD_eq_getElem?_getD]
theorem free_empty {l : List (List Int)} (h : freeRoot l < l.length) : l.getD (freeRoot l) [] = [] := by
  have h3 : (l[freeRoot l]'h).isEmpty = true := List.findIdx_getElem (w := h)
  rw [List.getD_eq_getElem?_getD, List.getElem?_eq_getElem h]
  exact List.isEmpty_iff.1 h3
/-- The store behind Set and Drop. -/
structure BackOk (s d : DsC) : Prop where
  lo : s.pages.length ≤ d.pages.length
  hi : d.pages.length ≤ s.pages.length + 1
  small : s.pages.length ≤ 400
  sl : s.uses.length = s.pages.length
  dl : d.uses.length = d.pages.length
  pg : ∀ i, i < s.pages.length → d.pages.getD i default = s.pages.getD i default
  us : ∀ i, i < s.pages.length → d.uses.getD i 0 = s.uses.getD i 0
  out : ∀ i, s.pages.length ≤ i → i < d.pages.length → d.uses.getD i 0 = 0
  rl : s.roots.length ≤ d.roots.length
  rs : s.roots.length ≤ 40
  rt : ∀ i, i < s.roots.length → d.roots.getD i [] = s.roots.getD i []
theorem back_ok {s : DsC} {root at_ v : Int} (h : setR s root at_ v = 0) : ∃ t, setC s root.toNat at_.toNat v = t ∧ ∃ n : Int, (freeRoot s.roots : Nat) = n ∧ thereL t [n] = 0 ∧ ∃ d, dropC t n.toNat = d ∧ BackOk s d := by
  obtain ⟨q, a, rfl, rfl, ha, hq, h16, ho, hs⟩ := setR_facts h
  refine ⟨_, rfl, _, rfl, ?_⟩
  rw [Int.toNat_natCast, Int.toNat_natCast] at hs ⊢
  have hm := mid_ok ho hq h16 ha v
  have hn := hs.nlt
  have hn16 := hs.n16
  have hok := hs.ok
  have tn : There (setC s q a v) ((freeRoot s.roots : Nat) : Int) := there_of hn hn16
  refine ⟨thereL_zero.2 ⟨hok, by simpa using tn⟩, _, rfl, ?_⟩
  rw [Int.toNat_natCast]
  have hro : rootOk (setC s q a v).pages.length ((setC s q a v).roots.getD (freeRoot s.roots) []) := hok.form _ (rootmem hn)
  have hd := drop_ok hok hn hro
  generalize hde : dropC (setC s q a v) (freeRoot s.roots) = d at *
  have e1 : (setC s q a v).pages = (midC s q a v).pages := rfl
  have e2 : (setC s q a v).roots = putRoot s.roots (midC s q a v).r := rfl
  have hpn := putRoot_new s.roots (midC s q a v).r
  have hrr : (setC s q a v).roots.getD (freeRoot s.roots) [] = (midC s q a v).r := by rw [e2]; exact hpn.2.1
  have hcnt : ∀ i, cnt (setC s q a v).roots i = cnt s.roots i + (midC s q a v).r.count (i : Int) := fun i => by rw [e2, putRoot_cnt]
  have hdp := hd.pg
  have hdu := hd.us
  have hdl := hd.pl
  have hdr := hd.rl
  rw [hrr] at hdp hdu
  rw [e1] at hdp hdu hdl
  have hus : s.uses.length = s.pages.length := by rw [ho.uses]; simp
  have hug : ∀ i, i < s.pages.length → s.uses.getD i 0 = (cnt s.roots i : Int) := fun i hi => by rw [ho.uses, range_map_get _ _ _ hi]
  have hlo := hm.lo
  have hhi := hm.hi
  refine ⟨by omega, by omega, ho.np, hus, by rw [hd.ok.uses]; simp, fun i hi => ?_, fun i hi => ?_, fun i h1 h2 => ?_, ?_, ho.nr, fun i hi => ?_⟩
  · rw [hdp i (by omega)]
    have h3 := hcnt i
    have h4 := ho.zero i hi
    have h5 := hm.zero i (by omega)
    split
    · next h6 => exact (h4.2 (by omega)).symm
    · next h6 =>
      by_cases h7 : cnt s.roots i = 0
      · have h8 : (midC s q a v).r.count (i : Int) = 0 := by omega
        rw [h5.2 (by omega), h4.2 h7]
      · exact hm.old i hi h7
  · rw [hdu i (by omega), hug i hi, hcnt i]; omega
  · rw [hdu i (by omega), hcnt i]
    have := hm.free i h1 (by omega)
    omega
  · rw [hdr, List.length_set, e2]
    unfold putRoot; split <;> simp
  · rw [hdr]
    by_cases e : freeRoot s.roots = i
    · subst e
      rw [free_empty hi]
      simp [e2, hpn.1]
    · rw [show ((setC s q a v).roots.set (freeRoot s.roots) []).getD i [] = (setC s q a v).roots.getD i [] by simp only [List.getD_eq_getElem?_getD, List.getElem?_set, if_neg e], e2]
      exact putRoot_else _ hi (Ne.symm e)
end Go.Proofs.Ytcnppcddpcpeoaa
