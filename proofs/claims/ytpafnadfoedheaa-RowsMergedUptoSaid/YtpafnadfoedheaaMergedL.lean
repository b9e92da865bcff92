/-
  The plain law of RowsMerged: what is merged, taken apart again from its head.
-/
import Derived.Test.YtpafnadfoedheaaThree
namespace Go.Proofs.Ytpafnadfoedheaa
open Go.RowKit

section
variable {α : Type} {key : α → Int}
theorem sins_head {x : α} : ∀ {l : List α}, (∀ z ∈ l, key x ≤ key z) → sins key x l = x :: l
  | [], _ => rfl
  | y :: l, h => by unfold sins; rw [if_pos (h y List.mem_cons_self)]
theorem ssort_mem {l : List α} {x : α} : x ∈ ssort key l ↔ x ∈ l := ((ssort_stb l).mem x).symm
theorem head_l {x : α} {l m : List α} (h1 : ∀ z ∈ l, key x ≤ key z) (h2 : ∀ z ∈ m, key x ≤ key z) : ssort key (x :: l ++ m) = x :: ssort key (l ++ m) := by
  show sins key x (ssort key (l ++ m)) = _
  refine sins_head fun z hz => ?_
  rcases List.mem_append.1 (ssort_mem.1 hz) with h | h
  · exact h1 z h
  · exact h2 z h
theorem head_m {y : α} {l m : List α} (h1 : ∀ z ∈ l, key y < key z) (h2 : ∀ z ∈ m, key y ≤ key z) : ssort key (l ++ y :: m) = y :: ssort key (l ++ m) := by
  refine ssort_is (List.pairwise_cons.2 ⟨fun z hz => ?_, ssort_srt _⟩) fun k => ?_
  · rcases List.mem_append.1 (ssort_mem.1 hz) with h | h
    · have := h1 z h; omega
    · exact h2 z h
  · rw [fk_append, fk_cons, fk_cons, ← ssort_stb (l ++ m) k, fk_append]
    by_cases e : key y = k
    · have hl : fk key k l = [] := by
        unfold fk
        rw [List.filter_eq_nil_iff]
        intro z hz
        have := h1 z hz
        simp only [beq_iff_eq]
        omega
      rw [if_pos e, if_pos e, hl]; rfl
    · rw [if_neg e, if_neg e]
end

theorem srt_drop {l : List Ev} (h : Srt Ev.s l) (i : Nat) : Srt Ev.s (l.drop i) := h.sublist (List.drop_sublist _ _)
theorem drop_cons_ {l : List Ev} {i : Nat} (h : i < l.length) : l.drop i = l.getD i .z :: l.drop (i + 1) := by
  rw [List.drop_eq_getElem_cons h, List.getD_eq_getElem?_getD, List.getElem?_eq_getElem h]; rfl
/-- What the loop keeps. -/
def Apa (a l m : List Ev) (n i k : Nat) : Prop := a.drop n = ssort Ev.s (l.drop i ++ m.drop k) ∧ i ≤ l.length ∧ k ≤ m.length
theorem apa_len {a l m : List Ev} {n i k : Nat} (h : Apa a l m n i k) (hn : n < a.length) : i < l.length ∨ k < m.length := by
  have := congrArg List.length h.1
  rw [ssort_length, List.length_append, List.length_drop, List.length_drop, List.length_drop] at this
  omega
/-- One step: the head is the first one's, or it is not, and it is the second one's. -/
theorem apa_step {a l m : List Ev} {n i k : Nat} (hl : Srt Ev.s l) (hm : Srt Ev.s m) (h : Apa a l m n i k) (hn : n < a.length) :
    (i < l.length ∧ l.getD i .z = a.getD n .z ∧ Apa a l m (n + 1) (i + 1) k) ∨ (i < l.length ∧ k < m.length ∧ a.getD n .z ≠ l.getD i .z ∧ m.getD k .z = a.getD n .z ∧ Apa a l m (n + 1) i (k + 1)) ∨ (i = l.length ∧ k < m.length ∧ m.getD k .z = a.getD n .z ∧ Apa a l m (n + 1) i (k + 1)) := by
  obtain ⟨h1, h2, h3⟩ := h
  rw [drop_cons_ hn] at h1
  have sl := srt_drop hl i
  have sm := srt_drop hm k
  by_cases hi : i < l.length
  · rw [drop_cons_ hi] at h1 sl
    have pl := List.pairwise_cons.1 sl
    by_cases hk : k < m.length
    · rw [drop_cons_ hk] at h1 sm
      have pm := List.pairwise_cons.1 sm
      by_cases hle : (l.getD i .z).s ≤ (m.getD k .z).s
      · rw [head_l pl.1 (fun z hz => by
          rcases List.mem_cons.1 hz with e | e
          · rw [e]; exact hle
          · exact Int.le_trans hle (pm.1 z e))] at h1
        obtain ⟨e1, e2⟩ := List.cons.inj h1
        exact .inl ⟨hi, e1.symm, ⟨by rw [e2, drop_cons_ hk], by omega, h3⟩⟩
      · rw [head_m (fun z hz => by
          rcases List.mem_cons.1 hz with e | e
          · rw [e]; omega
          · have := pl.1 z e; omega) pm.1] at h1
        obtain ⟨e1, e2⟩ := List.cons.inj h1
        refine .inr (.inl ⟨hi, hk, ?_, e1.symm, ⟨by rw [e2, drop_cons_ hi], h2, by omega⟩⟩)
        rw [e1]
        intro e
        rw [e] at hle
        omega
    · rw [show m.drop k = [] from List.drop_of_length_le (by omega)] at h1
      rw [head_l pl.1 (fun z hz => by simp at hz)] at h1
      obtain ⟨e1, e2⟩ := List.cons.inj h1
      exact .inl ⟨hi, e1.symm, ⟨by rw [e2, show m.drop k = [] from List.drop_of_length_le (by omega)], by omega, h3⟩⟩
  · have hi' : i = l.length := by omega
    rcases apa_len ⟨by rw [drop_cons_ hn]; exact h1, h2, h3⟩ hn with h | hk
    · omega
    · rw [drop_cons_ hk] at h1 sm
      have pm := List.pairwise_cons.1 sm
      rw [head_m (fun z hz => by rw [List.drop_of_length_le (by omega)] at hz; simp at hz) pm.1] at h1
      obtain ⟨e1, e2⟩ := List.cons.inj h1
      exact .inr (.inr ⟨hi', hk, e1.symm, ⟨e2, h2, by omega⟩⟩)
theorem apa_end {a l m : List Ev} {i k : Nat} (h : Apa a l m a.length i k) : i = l.length ∧ k = m.length := by
  have := congrArg List.length h.1
  rw [ssort_length, List.length_append, List.length_drop, List.length_drop, List.length_drop] at this
  have h2 := h.2.1
  have h3 := h.2.2
  omega
theorem mergeM_srt {l m : List Ev} (h : (mergeM l m).2 = 0) : Srt Ev.s l ∧ Srt Ev.s m := by
  unfold mergeM at h
  split at h
  · cases h
  · split at h
    · next hc =>
      rw [Bool.and_eq_true] at hc
      exact ⟨of_decide_eq_true hc.1, of_decide_eq_true hc.2⟩
    · cases h
theorem mergeM_no {l m : List Ev} (h : (mergeM l m).2 ≠ 0) : (mergeM l m).1 = [] := by
  unfold mergeM at h ⊢
  split
  · rfl
  · next hb =>
    rw [if_neg hb] at h
    split
    · next hc => rw [if_pos hc] at h; exact absurd rfl h
    · rfl
theorem mergeM_nil {a : List Ev} (h : Srt Ev.s a) (hl : a.length ≤ 200) : mergeM a [] = (a, 0) ∧ mergeM [] a = (a, 0) := by
  have hs : srtB a = true := decide_eq_true h
  unfold mergeM
  constructor
  · rw [if_neg (by simp; omega), hs, srtB_nil, Bool.and_true, if_pos rfl, List.append_nil, ssort_srtd h]
  · rw [if_neg (by simp; omega), hs, srtB_nil, Bool.and_true, if_pos rfl, List.nil_append, ssort_srtd h]
theorem srt_get {a : List Ev} (h : Srt Ev.s a) {n : Nat} (hn : n + 1 < a.length) : ¬ (a.getD (n + 1) .z).s < (a.getD n .z).s := by
  have := List.pairwise_iff_getElem.1 h n (n + 1) (by omega) hn (by omega)
  rw [List.getD_eq_getElem?_getD, List.getD_eq_getElem?_getD, List.getElem?_eq_getElem hn, List.getElem?_eq_getElem (by omega)]
  simp only [Option.getD_some]
  omega
end Go.Proofs.Ytpafnadfoedheaa
