/-
  Arguments opened: a slice of events. (30: the type of an event, 28: of a value, 22: of a slice of events.)
-/
import Derived.Test.YtpafnadfoedheaaRows
import Derived.Test.YtpafnadfoedheaaOpen
import Derived.Test.YtpafnadfoedheaaEv
import Derived.Deep.Slices
import Derived.Deep.Fields
import Derived.ChangeSame
namespace Go.Proofs.Ytpafnadfoedheaa
open Go.ChangeShapes Go.WideShapes Go.ChangeAt Go.RowKit Go.Deep

def wf64 (x : Int) : Prop := (Lit.int .i64 x).wf = true
structure Ev.Wf (e : Ev) : Prop where
  k : wf64 e.k
  s : wf64 e.s
  t : wf64 e.t
  f : wf64 e.f
  a : wf64 e.a
  l : wf64 e.l
  A : wf64 e.A
  B : wf64 e.B
  v1 : wf64 e.v1
  v2 : wf64 e.v2
  o1 : wf64 e.o1
  o2 : wf64 e.o2

theorem bulk_pos {H : Type} (d : DataW H) : 1 ≤ Rows.uptoBulk d := by
  cases d with
  | lit l => cases l <;> simp [Rows.uptoBulk]
  | _ => simp [Rows.uptoBulk]
theorem bulkAll_one {H α : Type} (f : α → DataW H) (l : List α) : l.length ≤ Rows.uptoBulkAll (l.map f) := by
  induction l with
  | nil => simp
  | cons a l ih =>
    rw [List.map_cons, Rows.uptoBulkAll, List.length_cons]
    have := bulk_pos (f a)
    omega
section
variable {H : Type} {enc : TypeId × Value → H} {w : World} {base : Nat} {spare : Nat → Bool} {held : Bool} {fuel : Nat}
theorem trod_one {t : TypeId} (ht : Try.prog.underlying t = some (.int .i64)) {xs : List (DataW H × List MemPlace)} {i : Nat} (hi : i < xs.length) {v : Value}
    (h : DataW.trod enc Try.prog w base spare held fuel t [v] = xs[i]?) : ∃ n, v = .int .i64 n ∧ wf64 n := by
  rw [List.getElem?_eq_getElem hi] at h
  obtain ⟨n, h1, -, h2⟩ := DataW.trod_int ht h
  exact ⟨n, by simpa using h1, h2⟩

theorem trod_val2 {a b : Value} {x : DataW H × List MemPlace} (h : DataW.trod enc Try.prog w base spare held fuel 28 [a, b] = some x) : ∃ m n, a = .int .i64 m ∧ b = .int .i64 n ∧ wf64 m ∧ wf64 n := by
  obtain ⟨xs, n', -, -, -, hlen, hf⟩ := DataW.trod_struct Try.underlying28 h
  have hc3 : Try.prog.cellsOf 3 = 1 := by kernel_rfl
  have h0 : DataW.trod enc Try.prog w base spare held n' 3 (([a, b].drop 0).take (Try.prog.cellsOf 3)) = xs[0]? := hf 0 _ rfl
  have h1 : DataW.trod enc Try.prog w base spare held n' 3 (([a, b].drop 1).take (Try.prog.cellsOf 3)) = xs[1]? := hf 1 _ rfl
  rw [hc3] at h0 h1
  obtain ⟨m, rfl, hm⟩ := trod_one Try.underlying3 (by rw [hlen]; decide) h0
  obtain ⟨n, rfl, hn⟩ := trod_one Try.underlying3 (by rw [hlen]; decide) h1
  exact ⟨m, n, rfl, rfl, hm, hn⟩

theorem trod_ev {cs : List Value} {x : DataW H × List MemPlace} (h : DataW.trod enc Try.prog w base spare held fuel 30 cs = some x) : ∃ e : Ev, cs = e.cells ∧ e.Wf := by
  obtain ⟨xs, n', -, -, hcl, hlen, hf⟩ := DataW.trod_struct Try.underlying30 h
  have hc3 : Try.prog.cellsOf 3 = 1 := by kernel_rfl
  have hcv : Try.prog.cellsOf 28 = 2 := by kernel_rfl
  have hce : Try.prog.cellsOf 30 = 12 := by kernel_rfl
  rw [hce] at hcl
  rcases cs with _ | ⟨a0, cs⟩ <;> simp at hcl
  rcases cs with _ | ⟨a1, cs⟩ <;> simp at hcl
  rcases cs with _ | ⟨a2, cs⟩ <;> simp at hcl
  rcases cs with _ | ⟨a3, cs⟩ <;> simp at hcl
  rcases cs with _ | ⟨a4, cs⟩ <;> simp at hcl
  rcases cs with _ | ⟨a5, cs⟩ <;> simp at hcl
  rcases cs with _ | ⟨a6, cs⟩ <;> simp at hcl
  rcases cs with _ | ⟨a7, cs⟩ <;> simp at hcl
  rcases cs with _ | ⟨a8, cs⟩ <;> simp at hcl
  rcases cs with _ | ⟨a9, cs⟩ <;> simp at hcl
  rcases cs with _ | ⟨a10, cs⟩ <;> simp at hcl
  rcases cs with _ | ⟨a11, cs⟩ <;> simp at hcl
  subst hcl
  have h0 : DataW.trod enc Try.prog w base spare held n' 3 (([a0, a1, a2, a3, a4, a5, a6, a7, a8, a9, a10, a11].drop 0).take (Try.prog.cellsOf 3)) = xs[0]? := hf 0 _ rfl
  have h1 : DataW.trod enc Try.prog w base spare held n' 3 (([a0, a1, a2, a3, a4, a5, a6, a7, a8, a9, a10, a11].drop 1).take (Try.prog.cellsOf 3)) = xs[1]? := hf 1 _ rfl
  have h2 : DataW.trod enc Try.prog w base spare held n' 3 (([a0, a1, a2, a3, a4, a5, a6, a7, a8, a9, a10, a11].drop 2).take (Try.prog.cellsOf 3)) = xs[2]? := hf 2 _ rfl
  have h3 : DataW.trod enc Try.prog w base spare held n' 3 (([a0, a1, a2, a3, a4, a5, a6, a7, a8, a9, a10, a11].drop 3).take (Try.prog.cellsOf 3)) = xs[3]? := hf 3 _ rfl
  have h4 : DataW.trod enc Try.prog w base spare held n' 3 (([a0, a1, a2, a3, a4, a5, a6, a7, a8, a9, a10, a11].drop 4).take (Try.prog.cellsOf 3)) = xs[4]? := hf 4 _ rfl
  have h5 : DataW.trod enc Try.prog w base spare held n' 3 (([a0, a1, a2, a3, a4, a5, a6, a7, a8, a9, a10, a11].drop 5).take (Try.prog.cellsOf 3)) = xs[5]? := hf 5 _ rfl
  have h6 : DataW.trod enc Try.prog w base spare held n' 3 (([a0, a1, a2, a3, a4, a5, a6, a7, a8, a9, a10, a11].drop 6).take (Try.prog.cellsOf 3)) = xs[6]? := hf 6 _ rfl
  have h7 : DataW.trod enc Try.prog w base spare held n' 3 (([a0, a1, a2, a3, a4, a5, a6, a7, a8, a9, a10, a11].drop 7).take (Try.prog.cellsOf 3)) = xs[7]? := hf 7 _ rfl
  have h8 : DataW.trod enc Try.prog w base spare held n' 28 (([a0, a1, a2, a3, a4, a5, a6, a7, a8, a9, a10, a11].drop 8).take (Try.prog.cellsOf 28)) = xs[8]? := hf 8 _ rfl
  have h9 : DataW.trod enc Try.prog w base spare held n' 28 (([a0, a1, a2, a3, a4, a5, a6, a7, a8, a9, a10, a11].drop 10).take (Try.prog.cellsOf 28)) = xs[9]? := hf 9 _ rfl
  rw [hc3] at h0 h1 h2 h3 h4 h5 h6 h7
  rw [hcv] at h8 h9
  obtain ⟨n0, rfl, w0⟩ := trod_one Try.underlying3 (by rw [hlen]; decide) h0
  obtain ⟨n1, rfl, w1⟩ := trod_one Try.underlying3 (by rw [hlen]; decide) h1
  obtain ⟨n2, rfl, w2⟩ := trod_one Try.underlying3 (by rw [hlen]; decide) h2
  obtain ⟨n3, rfl, w3⟩ := trod_one Try.underlying3 (by rw [hlen]; decide) h3
  obtain ⟨n4, rfl, w4⟩ := trod_one Try.underlying3 (by rw [hlen]; decide) h4
  obtain ⟨n5, rfl, w5⟩ := trod_one Try.underlying3 (by rw [hlen]; decide) h5
  obtain ⟨n6, rfl, w6⟩ := trod_one Try.underlying3 (by rw [hlen]; decide) h6
  obtain ⟨n7, rfl, w7⟩ := trod_one Try.underlying3 (by rw [hlen]; decide) h7
  rw [List.getElem?_eq_getElem (by rw [hlen]; decide)] at h8 h9
  obtain ⟨n8, n9, rfl, rfl, w8, w9⟩ := trod_val2 h8
  obtain ⟨n10, n11, rfl, rfl, w10, w11⟩ := trod_val2 h9
  exact ⟨⟨n0, n1, n2, n3, n4, n5, n6, n7, n8, n9, n10, n11⟩, rfl, ⟨w0, w1, w2, w3, w4, w5, w6, w7, w8, w9, w10, w11⟩⟩

theorem open_evs {v : Value} {d : DataW H} {ps : List MemPlace} {r : Reach} {b0 : Nat} (hv : Value.okWide Try.prog w r b0 22 v) (h : DataW.Trod enc Try.prog w base spare held 22 v d ps) :
    ∃ (p : Option Addr) (cap : Nat) (l : List Ev), v = .slice p l.length cap ∧ Sl w 12 p l.length cap (evs l) ∧ (∀ e ∈ l, e.Wf) ∧ l.length ≤ Rows.uptoBulk d := by
  obtain ⟨a0, len, cap, rfl⟩ := okWide_slice Try.underlying22 hv
  obtain ⟨fuel, hf⟩ := h
  rcases open_slice Try.underlying22 hf with ⟨hcs, -⟩ | ⟨a, len', cap', m, n, D, Pl, hcs, -, hl, hm, hmm, hxx, hall⟩
  · simp [Value.cells] at hcs
    obtain ⟨rfl, rfl, rfl⟩ := hcs
    exact ⟨none, 0, [], rfl, Sl.zero _ _, fun x hx => by simp at hx, Nat.zero_le _⟩
  · simp [Value.cells] at hcs
    obtain ⟨rfl, rfl, rfl⟩ := hcs
    have hce : Try.prog.cellsOf 30 = 12 := by kernel_rfl
    have hlm : len ≤ m := by rw [hmm]; split <;> omega
    have key : ∀ i, i < len → ∃ e : Ev, e.Wf ∧ ∀ j, j < 12 → w.cell? (a.add (i * 12 + j)) = e.cells[j]? := by
      intro i hi
      obtain ⟨cs', hc, ht⟩ := hall i (by omega)
      rw [hce] at hc
      obtain ⟨e, rfl, hw⟩ := trod_ev ht
      obtain ⟨-, -, hat⟩ := World.cells?_some hc
      refine ⟨e, hw, fun j hj => ?_⟩
      have := hat j hj
      rw [← this, Go.Deep.add_add]
    obtain ⟨l, hl1, hl2⟩ : ∃ l : List Ev, l.length = len ∧ ∀ i, i < len → (l.getD i .z).Wf ∧ ∀ j, j < 12 → w.cell? (a.add (i * 12 + j)) = (l.getD i .z).cells[j]? := by
      refine ⟨(List.range len).map fun i => if h : i < len then (key i h).choose else .z, by simp, fun i hi => ?_⟩
      have hs := (key i hi).choose_spec
      have e : ((List.range len).map fun i => if h : i < len then (key i h).choose else Ev.z).getD i .z = (key i hi).choose := by simp [hi]
      rw [e]
      exact hs
    subst hl1
    have hbk : l.length ≤ Rows.uptoBulk d := by
      have hd := congrArg Prod.fst hxx
      dsimp only at hd
      rw [hd]
      have h1 := bulkAll_one D (List.range l.length)
      rw [List.length_range] at h1
      show _ ≤ Rows.uptoBulk (DataW.slice _ _)
      rw [Rows.uptoBulk]
      omega
    refine ⟨some a, cap, l, rfl, ⟨?_, by simp, by omega, by unfold maxLen at hm; exact hm, fun h => by cases h⟩, fun e he => ?_, hbk⟩
    · by_cases h0 : 0 < l.length
      · obtain ⟨b, off, spot⟩ := a
        have h1 := (hl2 0 h0).2 0 (by omega)
        have h1' : w.cell? (Addr.add ⟨b, off, spot⟩ (0 * 12 + 0)) = some (.int .i64 (l.getD 0 .z).k) := h1
        have hs : spot = none := by simpa [Addr.add] using World.cell?_spot h1'
        subst hs
        have hb : b < w.heap.size := World.block_lt_of_cell? w ⟨b, off, none⟩ (by simpa [Addr.add] using h1')
        refine ⟨b, off, fun _ => ⟨rfl, hb⟩, fun i hi => ?_⟩
        rw [evs_length] at hi
        have hi12 : i / 12 < l.length := by omega
        have hc := (hl2 (i / 12) hi12).2 (i % 12) (by omega)
        rw [add_lit', show i / 12 * 12 + i % 12 = i from by omega] at hc
        rw [hc, ← evs_get hi12 (by omega), show i / 12 * 12 + i % 12 = i from by omega]
      · have e : l = [] := List.eq_nil_of_length_eq_zero (by omega)
        rw [e]
        exact RowAt.nil _ _
    · obtain ⟨i, hi, rfl⟩ := List.getElem_of_mem he
      have := (hl2 i hi).1
      rw [List.getD_eq_getElem?_getD, List.getElem?_eq_getElem hi] at this
      exact this
end
theorem own : ownKnob Try.prog.godebug = none := by kernel_rfl
end Go.Proofs.Ytpafnadfoedheaa
