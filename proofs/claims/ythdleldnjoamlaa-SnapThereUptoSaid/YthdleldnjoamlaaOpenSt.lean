/-
  A state that came in, opened; how long its numbers are.
-/
import Derived.Test.YthdleldnjoamlaaRows
import Derived.Test.YthdleldnjoamlaaKinds
import Derived.Test.YthdleldnjoamlaaOpen
import Derived.Deep.Slices
import Derived.Deep.Fields
namespace Go.Proofs.Ythdleldnjoamlaa
open Go.ChangeShapes Go.WideShapes Go.ChangeAt Go.RowKit Go.Deep

theorem bulkAll_map {H α : Type} (f : α → DataW H) (g : α → Nat) (l : List α) (h : ∀ a ∈ l, g a ≤ Rows.uptoBulk (f a)) : (l.map g).sum ≤ Rows.uptoBulkAll (l.map f) := by
  induction l with
  | nil => simp
  | cons a l ih =>
    rw [List.map_cons, List.map_cons, List.sum_cons, Rows.uptoBulkAll]
    have h1 := h a (by simp)
    have h2 := ih fun b hb => h b (by simp [hb])
    omega
theorem fm_sum {α : Type} (e : α → List Int) (l : List α) : (l.flatMap e).length = (l.map fun x => (e x).length).sum := by
  induction l with
  | nil => rfl
  | cons a l ih => rw [List.flatMap_cons, List.length_append, ih, List.map_cons, List.sum_cons]
section
variable {H : Type} {enc : TypeId × Value → H} {w : World} {base : Nat} {spare : Nat → Bool} {held : Bool}
/-- What one of type E reads as. -/
def Op (enc : TypeId × Value → H) (w : World) (base : Nat) (spare : Nat → Bool) (held : Bool) {α : Type} (E : TypeId) (cells : α → List Value) (ok : World → α → Prop) (e : α → List Int) : Prop :=
  ∀ (fuel : Nat) (cs : List Value) (x : DataW H × List MemPlace), DataW.trod enc Try.prog w base spare held fuel E cs = some x → ∃ a : α, cs = cells a ∧ ok w a ∧ (e a).length ≤ Rows.uptoBulk x.1
theorem open_rd {α : Type} [Inhabited α] {E T : TypeId} {k : Nat} {cells : α → List Value} {ok : World → α → Prop} {e : α → List Int} (ht : Try.prog.underlying T = some (.slice E)) (hE : Try.prog.cellsOf E = k) (hk : ∀ x, (cells x).length = k) (hk0 : 0 < k)
    (hO : Op enc w base spare held E cells ok e) : Op enc w base spare held T (fun s : Sv α => [s.val]) (Rd k cells ok) (fun s => encL e s.l) := by
  intro fuel cs x hf
  rcases open_slice ht hf with ⟨hcs, hx⟩ | ⟨a, len, cap, m, n, D, Pl, hcs, -, hl, hm, hmm, hx, hall⟩
  · refine ⟨Sv.none, hcs, Rd.zero _, ?_⟩
    rw [hx]
    show 1 ≤ Rows.uptoBulk (DataW.nil)
    rw [Rows.uptoBulk]
    exact Nat.le_refl _
  · rw [hE] at hall
    have hlm : len ≤ m := by rw [hmm]; split <;> omega
    have key : ∀ i, i < len → ∃ b : α, ok w b ∧ (e b).length ≤ Rows.uptoBulk (D i) ∧ ∀ j, j < k → w.cell? (a.add (i * k + j)) = (cells b)[j]? := by
      intro i hi
      obtain ⟨cs', hc, htr⟩ := hall i (by omega)
      obtain ⟨b, rfl, hw, hb⟩ := hO _ _ _ htr
      obtain ⟨-, -, hat⟩ := World.cells?_some hc
      refine ⟨b, hw, hb, fun j hj => ?_⟩
      have := hat j hj
      rw [← this, Go.Deep.add_add]
    obtain ⟨l, hl1, hl2⟩ : ∃ l : List α, l.length = len ∧ ∀ i, i < len → ok w (l.getD i default) ∧ (e (l.getD i default)).length ≤ Rows.uptoBulk (D i) ∧ ∀ j, j < k → w.cell? (a.add (i * k + j)) = (cells (l.getD i default))[j]? := by
      refine ⟨(List.range len).map fun i => if h : i < len then (key i h).choose else default, by simp, fun i hi => ?_⟩
      have hs := (key i hi).choose_spec
      have e1 : ((List.range len).map fun i => if h : i < len then (key i h).choose else default).getD i default = (key i hi).choose := by simp [hi]
      rw [e1]
      exact hs
    subst hl1
    refine ⟨⟨some a, cap, l⟩, hcs, ⟨⟨?_, fm_len hk l, hl, by unfold maxLen at hm; exact hm, fun h => by cases h⟩, fun b hb => ?_⟩, ?_⟩
    · by_cases h0 : 0 < l.length
      · obtain ⟨b, off, spot⟩ := a
        have h1 := (hl2 0 h0).2.2 0 hk0
        have hne : (cells (l.getD 0 default))[0]? = some ((cells (l.getD 0 default))[0]'(by rw [hk]; exact hk0)) := List.getElem?_eq_getElem _
        have h1' : w.cell? (Addr.add ⟨b, off, spot⟩ (0 * k + 0)) = some ((cells (l.getD 0 default))[0]'(by rw [hk]; exact hk0)) := h1.trans hne
        have hs : spot = none := by simpa [Addr.add] using World.cell?_spot h1'
        subst hs
        have hb : b < w.heap.size := World.block_lt_of_cell? w ⟨b, off, none⟩ (by simpa [Addr.add] using h1')
        refine ⟨b, off, fun _ => ⟨rfl, hb⟩, fun i hi => ?_⟩
        rw [fm_len hk] at hi
        have hik : i / k < l.length := Nat.div_lt_of_lt_mul (by rw [Nat.mul_comm]; exact hi)
        have hmod := Nat.mod_lt i hk0
        have hc := (hl2 (i / k) hik).2.2 (i % k) hmod
        have hsum : i / k * k + i % k = i := by rw [Nat.mul_comm]; exact Nat.div_add_mod i k
        rw [add_lit', hsum] at hc
        rw [hc, ← fm_get hk hik hmod, hsum]
      · have e1 : l = [] := List.eq_nil_of_length_eq_zero (by omega)
        rw [e1]
        exact RowAt.nil _ _
    · obtain ⟨i, hi, rfl⟩ := List.getElem_of_mem hb
      have := (hl2 i hi).1
      rwa [List.getD_eq_getElem?_getD, List.getElem?_eq_getElem hi] at this
    · rw [hx]
      show (encL e l).length ≤ Rows.uptoBulk (DataW.slice _ _)
      rw [Rows.uptoBulk]
      unfold encL
      rw [List.length_cons, fm_sum]
      have h1 : (l.map fun x => (e x).length) = (List.range l.length).map fun i => (e (l.getD i default)).length := by
        refine List.ext_getElem (by simp) fun i h1 h2 => ?_
        simp at h1
        simp [h1]
      rw [h1]
      have := bulkAll_map D (fun i => (e (l.getD i default)).length) (List.range l.length) fun i hi => (hl2 i (List.mem_range.1 hi)).2.1
      omega
theorem bulk_pos (d : DataW H) : 1 ≤ Rows.uptoBulk d := by
  cases d with
  | lit l => cases l <;> simp [Rows.uptoBulk]
  | _ => simp [Rows.uptoBulk]
theorem op_Tx : Op enc w base spare held 9 txCells okT (fun x => txE (txC x)) := by
  intro fuel cs x h
  obtain ⟨s, rfl, rfl, -⟩ := DataW.trod_string Try.underlying9 h
  refine ⟨s, rfl, trivial, ?_⟩
  show (encL byE s.data.toList).length ≤ s.data.toList.length + 1
  unfold encL
  rw [List.length_cons, fm_sum]
  have : (s.data.toList.map fun x => (byE x).length).sum = s.data.toList.length := by
    generalize s.data.toList = l
    induction l with
    | nil => rfl
    | cons a l ih => rw [List.map_cons, List.sum_cons, ih, List.length_cons]; show 1 + _ = _; omega
  omega
def stCells (x : St) : List Value := [x.cells.val, x.shapes.val, x.texts.val, x.threads.val, x.ends.val, x.said.val, .int .i64 x.asked, .int .i64 x.steps]
set_option maxRecDepth 100000 in
theorem op_Vl : Op enc w base spare held 63 Vl.cells okT Vl.e := by
  intro fuel cs x h
  obtain ⟨xs, n', -, rfl, hcl, hlen, hf⟩ := DataW.trod_struct Try.underlying63 h
  have hce : Try.prog.cellsOf 63 = 2 := by kernel_rfl
  rw [hce] at hcl
  rcases cs with _ | ⟨v0, cs⟩ <;> simp only [List.length_nil, List.length_cons] at hcl <;> try omega
  rcases cs with _ | ⟨v1, cs⟩ <;> simp only [List.length_nil, List.length_cons] at hcl <;> try omega
  obtain rfl : cs = [] := List.eq_nil_of_length_eq_zero (by omega)
  have hl2 : xs.length = 2 := hlen
  rcases xs with _ | ⟨x0, xs⟩ <;> simp only [List.length_nil, List.length_cons] at hl2 <;> try omega
  rcases xs with _ | ⟨x1, xs⟩ <;> simp only [List.length_nil, List.length_cons] at hl2 <;> try omega
  obtain rfl : xs = [] := List.eq_nil_of_length_eq_zero (by omega)
  have hs0 : Try.prog.cellsOf 3 = 1 := by kernel_rfl
  have h0 : DataW.trod enc Try.prog w base spare held n' 3 (([v0, v1].drop 0).take (Try.prog.cellsOf 3)) = some x0 := hf 0 _ rfl
  rw [hs0] at h0
  obtain ⟨n0, e0, z0, -⟩ := DataW.trod_int Try.underlying3 h0
  have w0 : v0 = .int .i64 n0 := by simpa using e0
  have h1 : DataW.trod enc Try.prog w base spare held n' 3 (([v0, v1].drop 1).take (Try.prog.cellsOf 3)) = some x1 := hf 1 _ rfl
  rw [hs0] at h1
  obtain ⟨n1, e1, z1, -⟩ := DataW.trod_int Try.underlying3 h1
  have w1 : v1 = .int .i64 n1 := by simpa using e1
  have u0 := bulk_pos x0.1
  have u1 := bulk_pos x1.1
  clear h0 e0 h1 e1 hf hcl hlen hl2
  subst w0 w1
  refine ⟨⟨n0, n1⟩, rfl, trivial, ?_⟩
  show _ ≤ Rows.uptoBulk (DataW.agg [x0.1, x1.1])
  simp only [Rows.uptoBulk, Rows.uptoBulkAll]
  show 2 ≤ _
  omega
set_option maxRecDepth 100000 in
theorem op_Ty : Op enc w base spare held 104 Ty.cells okT Ty.e := by
  intro fuel cs x h
  obtain ⟨xs, n', -, rfl, hcl, hlen, hf⟩ := DataW.trod_struct Try.underlying104 h
  have hce : Try.prog.cellsOf 104 = 2 := by kernel_rfl
  rw [hce] at hcl
  rcases cs with _ | ⟨v0, cs⟩ <;> simp only [List.length_nil, List.length_cons] at hcl <;> try omega
  rcases cs with _ | ⟨v1, cs⟩ <;> simp only [List.length_nil, List.length_cons] at hcl <;> try omega
  obtain rfl : cs = [] := List.eq_nil_of_length_eq_zero (by omega)
  have hl2 : xs.length = 2 := hlen
  rcases xs with _ | ⟨x0, xs⟩ <;> simp only [List.length_nil, List.length_cons] at hl2 <;> try omega
  rcases xs with _ | ⟨x1, xs⟩ <;> simp only [List.length_nil, List.length_cons] at hl2 <;> try omega
  obtain rfl : xs = [] := List.eq_nil_of_length_eq_zero (by omega)
  have hs0 : Try.prog.cellsOf 3 = 1 := by kernel_rfl
  have h0 : DataW.trod enc Try.prog w base spare held n' 3 (([v0, v1].drop 0).take (Try.prog.cellsOf 3)) = some x0 := hf 0 _ rfl
  rw [hs0] at h0
  obtain ⟨n0, e0, z0, -⟩ := DataW.trod_int Try.underlying3 h0
  have w0 : v0 = .int .i64 n0 := by simpa using e0
  have h1 : DataW.trod enc Try.prog w base spare held n' 3 (([v0, v1].drop 1).take (Try.prog.cellsOf 3)) = some x1 := hf 1 _ rfl
  rw [hs0] at h1
  obtain ⟨n1, e1, z1, -⟩ := DataW.trod_int Try.underlying3 h1
  have w1 : v1 = .int .i64 n1 := by simpa using e1
  have u0 := bulk_pos x0.1
  have u1 := bulk_pos x1.1
  clear h0 e0 h1 e1 hf hcl hlen hl2
  subst w0 w1
  refine ⟨⟨n0, n1⟩, rfl, trivial, ?_⟩
  show _ ≤ Rows.uptoBulk (DataW.agg [x0.1, x1.1])
  simp only [Rows.uptoBulk, Rows.uptoBulkAll]
  show 2 ≤ _
  omega
set_option maxRecDepth 100000 in
theorem op_Sh : Op enc w base spare held 56 Sh.cells okT Sh.e := by
  intro fuel cs x h
  obtain ⟨xs, n', -, rfl, hcl, hlen, hf⟩ := DataW.trod_struct Try.underlying56 h
  have hce : Try.prog.cellsOf 56 = 2 := by kernel_rfl
  rw [hce] at hcl
  rcases cs with _ | ⟨v0, cs⟩ <;> simp only [List.length_nil, List.length_cons] at hcl <;> try omega
  rcases cs with _ | ⟨v1, cs⟩ <;> simp only [List.length_nil, List.length_cons] at hcl <;> try omega
  obtain rfl : cs = [] := List.eq_nil_of_length_eq_zero (by omega)
  have hl2 : xs.length = 2 := hlen
  rcases xs with _ | ⟨x0, xs⟩ <;> simp only [List.length_nil, List.length_cons] at hl2 <;> try omega
  rcases xs with _ | ⟨x1, xs⟩ <;> simp only [List.length_nil, List.length_cons] at hl2 <;> try omega
  obtain rfl : xs = [] := List.eq_nil_of_length_eq_zero (by omega)
  have hs0 : Try.prog.cellsOf 3 = 1 := by kernel_rfl
  have h0 : DataW.trod enc Try.prog w base spare held n' 3 (([v0, v1].drop 0).take (Try.prog.cellsOf 3)) = some x0 := hf 0 _ rfl
  rw [hs0] at h0
  obtain ⟨n0, e0, z0, -⟩ := DataW.trod_int Try.underlying3 h0
  have w0 : v0 = .int .i64 n0 := by simpa using e0
  have h1 : DataW.trod enc Try.prog w base spare held n' 3 (([v0, v1].drop 1).take (Try.prog.cellsOf 3)) = some x1 := hf 1 _ rfl
  rw [hs0] at h1
  obtain ⟨n1, e1, z1, -⟩ := DataW.trod_int Try.underlying3 h1
  have w1 : v1 = .int .i64 n1 := by simpa using e1
  have u0 := bulk_pos x0.1
  have u1 := bulk_pos x1.1
  clear h0 e0 h1 e1 hf hcl hlen hl2
  subst w0 w1
  refine ⟨⟨n0, n1⟩, rfl, trivial, ?_⟩
  show _ ≤ Rows.uptoBulk (DataW.agg [x0.1, x1.1])
  simp only [Rows.uptoBulk, Rows.uptoBulkAll]
  show 2 ≤ _
  omega
set_option maxRecDepth 100000 in
theorem op_En : Op enc w base spare held 69 En.cells okT En.e := by
  intro fuel cs x h
  obtain ⟨xs, n', -, rfl, hcl, hlen, hf⟩ := DataW.trod_struct Try.underlying69 h
  have hce : Try.prog.cellsOf 69 = 3 := by kernel_rfl
  rw [hce] at hcl
  rcases cs with _ | ⟨v0, cs⟩ <;> simp only [List.length_nil, List.length_cons] at hcl <;> try omega
  rcases cs with _ | ⟨v1, cs⟩ <;> simp only [List.length_nil, List.length_cons] at hcl <;> try omega
  rcases cs with _ | ⟨v2, cs⟩ <;> simp only [List.length_nil, List.length_cons] at hcl <;> try omega
  obtain rfl : cs = [] := List.eq_nil_of_length_eq_zero (by omega)
  have hl2 : xs.length = 2 := hlen
  rcases xs with _ | ⟨x0, xs⟩ <;> simp only [List.length_nil, List.length_cons] at hl2 <;> try omega
  rcases xs with _ | ⟨x1, xs⟩ <;> simp only [List.length_nil, List.length_cons] at hl2 <;> try omega
  obtain rfl : xs = [] := List.eq_nil_of_length_eq_zero (by omega)
  have hs0 : Try.prog.cellsOf 3 = 1 := by kernel_rfl
  have hs1 : Try.prog.cellsOf 63 = 2 := by kernel_rfl
  have h0 : DataW.trod enc Try.prog w base spare held n' 3 (([v0, v1, v2].drop 0).take (Try.prog.cellsOf 3)) = some x0 := hf 0 _ rfl
  rw [hs0] at h0
  obtain ⟨n0, e0, z0, -⟩ := DataW.trod_int Try.underlying3 h0
  have w0 : v0 = .int .i64 n0 := by simpa using e0
  have h1 : DataW.trod enc Try.prog w base spare held n' 63 (([v0, v1, v2].drop 1).take (Try.prog.cellsOf 63)) = some x1 := hf 1 _ rfl
  rw [hs1] at h1
  obtain ⟨⟨k1, n1⟩, e1, -, u1⟩ := op_Vl _ _ _ h1
  obtain ⟨w1, w1b⟩ : v1 = .int .i64 k1 ∧ v2 = .int .i64 n1 := by simpa [Vl.cells] using e1
  have u0 := bulk_pos x0.1
  replace u1 : 2 ≤ Rows.uptoBulk x1.1 := u1
  clear h0 e0 h1 e1 hf hcl hlen hl2
  subst w0 w1 w1b
  refine ⟨⟨n0, k1, n1⟩, rfl, trivial, ?_⟩
  show _ ≤ Rows.uptoBulk (DataW.agg [x0.1, x1.1])
  simp only [Rows.uptoBulk, Rows.uptoBulkAll]
  show 3 ≤ _
  omega
set_option maxRecDepth 100000 in
theorem op_Fr : Op enc w base spare held 94 Fr.cells Fr.ok (fun x : Fr => FrC.e x.c) := by
  intro fuel cs x h
  obtain ⟨xs, n', -, rfl, hcl, hlen, hf⟩ := DataW.trod_struct Try.underlying94 h
  have hce : Try.prog.cellsOf 94 = 8 := by kernel_rfl
  rw [hce] at hcl
  rcases cs with _ | ⟨v0, cs⟩ <;> simp only [List.length_nil, List.length_cons] at hcl <;> try omega
  rcases cs with _ | ⟨v1, cs⟩ <;> simp only [List.length_nil, List.length_cons] at hcl <;> try omega
  rcases cs with _ | ⟨v2, cs⟩ <;> simp only [List.length_nil, List.length_cons] at hcl <;> try omega
  rcases cs with _ | ⟨v3, cs⟩ <;> simp only [List.length_nil, List.length_cons] at hcl <;> try omega
  rcases cs with _ | ⟨v4, cs⟩ <;> simp only [List.length_nil, List.length_cons] at hcl <;> try omega
  rcases cs with _ | ⟨v5, cs⟩ <;> simp only [List.length_nil, List.length_cons] at hcl <;> try omega
  rcases cs with _ | ⟨v6, cs⟩ <;> simp only [List.length_nil, List.length_cons] at hcl <;> try omega
  rcases cs with _ | ⟨v7, cs⟩ <;> simp only [List.length_nil, List.length_cons] at hcl <;> try omega
  obtain rfl : cs = [] := List.eq_nil_of_length_eq_zero (by omega)
  have hl2 : xs.length = 7 := hlen
  rcases xs with _ | ⟨x0, xs⟩ <;> simp only [List.length_nil, List.length_cons] at hl2 <;> try omega
  rcases xs with _ | ⟨x1, xs⟩ <;> simp only [List.length_nil, List.length_cons] at hl2 <;> try omega
  rcases xs with _ | ⟨x2, xs⟩ <;> simp only [List.length_nil, List.length_cons] at hl2 <;> try omega
  rcases xs with _ | ⟨x3, xs⟩ <;> simp only [List.length_nil, List.length_cons] at hl2 <;> try omega
  rcases xs with _ | ⟨x4, xs⟩ <;> simp only [List.length_nil, List.length_cons] at hl2 <;> try omega
  rcases xs with _ | ⟨x5, xs⟩ <;> simp only [List.length_nil, List.length_cons] at hl2 <;> try omega
  rcases xs with _ | ⟨x6, xs⟩ <;> simp only [List.length_nil, List.length_cons] at hl2 <;> try omega
  obtain rfl : xs = [] := List.eq_nil_of_length_eq_zero (by omega)
  have hs0 : Try.prog.cellsOf 3 = 1 := by kernel_rfl
  have hs1 : Try.prog.cellsOf 63 = 2 := by kernel_rfl
  have hs2 : Try.prog.cellsOf 27 = 1 := by kernel_rfl
  have hs3 : Try.prog.cellsOf 92 = 1 := by kernel_rfl
  have h0 : DataW.trod enc Try.prog w base spare held n' 3 (([v0, v1, v2, v3, v4, v5, v6, v7].drop 0).take (Try.prog.cellsOf 3)) = some x0 := hf 0 _ rfl
  rw [hs0] at h0
  obtain ⟨n0, e0, z0, -⟩ := DataW.trod_int Try.underlying3 h0
  have w0 : v0 = .int .i64 n0 := by simpa using e0
  have h1 : DataW.trod enc Try.prog w base spare held n' 3 (([v0, v1, v2, v3, v4, v5, v6, v7].drop 1).take (Try.prog.cellsOf 3)) = some x1 := hf 1 _ rfl
  rw [hs0] at h1
  obtain ⟨n1, e1, z1, -⟩ := DataW.trod_int Try.underlying3 h1
  have w1 : v1 = .int .i64 n1 := by simpa using e1
  have h2 : DataW.trod enc Try.prog w base spare held n' 3 (([v0, v1, v2, v3, v4, v5, v6, v7].drop 2).take (Try.prog.cellsOf 3)) = some x2 := hf 2 _ rfl
  rw [hs0] at h2
  obtain ⟨n2, e2, z2, -⟩ := DataW.trod_int Try.underlying3 h2
  have w2 : v2 = .int .i64 n2 := by simpa using e2
  have h3 : DataW.trod enc Try.prog w base spare held n' 3 (([v0, v1, v2, v3, v4, v5, v6, v7].drop 3).take (Try.prog.cellsOf 3)) = some x3 := hf 3 _ rfl
  rw [hs0] at h3
  obtain ⟨n3, e3, z3, -⟩ := DataW.trod_int Try.underlying3 h3
  have w3 : v3 = .int .i64 n3 := by simpa using e3
  have h4 : DataW.trod enc Try.prog w base spare held n' 63 (([v0, v1, v2, v3, v4, v5, v6, v7].drop 4).take (Try.prog.cellsOf 63)) = some x4 := hf 4 _ rfl
  rw [hs1] at h4
  obtain ⟨⟨k4, n4⟩, e4, -, u4⟩ := op_Vl _ _ _ h4
  obtain ⟨w4, w4b⟩ : v4 = .int .i64 k4 ∧ v5 = .int .i64 n4 := by simpa [Vl.cells] using e4
  have h5 : DataW.trod enc Try.prog w base spare held n' 27 (([v0, v1, v2, v3, v4, v5, v6, v7].drop 6).take (Try.prog.cellsOf 27)) = some x5 := hf 5 _ rfl
  rw [hs2] at h5
  obtain ⟨s5, e5, r5, u5⟩ := open_rd (T := 27) Try.underlying27 (by kernel_rfl) (k := 2) (fun _ => rfl) (by decide) op_Vl _ _ _ h5
  have w5 : v6 = s5.val := by simpa using e5
  have h6 : DataW.trod enc Try.prog w base spare held n' 92 (([v0, v1, v2, v3, v4, v5, v6, v7].drop 7).take (Try.prog.cellsOf 92)) = some x6 := hf 6 _ rfl
  rw [hs3] at h6
  obtain ⟨s6, e6, r6, u6⟩ := open_rd (T := 92) Try.underlying92 (by kernel_rfl) (k := 2) (fun _ => rfl) (by decide) op_Ty _ _ _ h6
  have w6 : v7 = s6.val := by simpa using e6
  have u0 := bulk_pos x0.1
  have u1 := bulk_pos x1.1
  have u2 := bulk_pos x2.1
  have u3 := bulk_pos x3.1
  replace u4 : 2 ≤ Rows.uptoBulk x4.1 := u4
  replace u5 : (encL Vl.e s5.l).length ≤ Rows.uptoBulk x5.1 := u5
  replace u6 : (encL Ty.e s6.l).length ≤ Rows.uptoBulk x6.1 := u6
  clear h0 e0 h1 e1 h2 e2 h3 e3 h4 e4 h5 e5 h6 e6 hf hcl hlen hl2
  subst w0 w1 w2 w3 w4 w4b w5 w6
  refine ⟨⟨n0, n1, n2, n3, k4, n4, s5, s6⟩, rfl, ⟨r5, r6⟩, ?_⟩
  show _ ≤ Rows.uptoBulk (DataW.agg [x0.1, x1.1, x2.1, x3.1, x4.1, x5.1, x6.1])
  simp only [Rows.uptoBulk, Rows.uptoBulkAll]
  simp only [FrC.e, Fr.c, List.length_append, List.length_cons, List.length_nil]
  unfold encL at *
  simp only [List.length_cons] at *
  omega
set_option maxRecDepth 100000 in
theorem op_Ce : Op enc w base spare held 52 Ce.cells Ce.ok (fun x : Ce => CeC.e x.c) := by
  intro fuel cs x h
  obtain ⟨xs, n', -, rfl, hcl, hlen, hf⟩ := DataW.trod_struct Try.underlying52 h
  have hce : Try.prog.cellsOf 52 = 4 := by kernel_rfl
  rw [hce] at hcl
  rcases cs with _ | ⟨v0, cs⟩ <;> simp only [List.length_nil, List.length_cons] at hcl <;> try omega
  rcases cs with _ | ⟨v1, cs⟩ <;> simp only [List.length_nil, List.length_cons] at hcl <;> try omega
  rcases cs with _ | ⟨v2, cs⟩ <;> simp only [List.length_nil, List.length_cons] at hcl <;> try omega
  rcases cs with _ | ⟨v3, cs⟩ <;> simp only [List.length_nil, List.length_cons] at hcl <;> try omega
  obtain rfl : cs = [] := List.eq_nil_of_length_eq_zero (by omega)
  have hl2 : xs.length = 4 := hlen
  rcases xs with _ | ⟨x0, xs⟩ <;> simp only [List.length_nil, List.length_cons] at hl2 <;> try omega
  rcases xs with _ | ⟨x1, xs⟩ <;> simp only [List.length_nil, List.length_cons] at hl2 <;> try omega
  rcases xs with _ | ⟨x2, xs⟩ <;> simp only [List.length_nil, List.length_cons] at hl2 <;> try omega
  rcases xs with _ | ⟨x3, xs⟩ <;> simp only [List.length_nil, List.length_cons] at hl2 <;> try omega
  obtain rfl : xs = [] := List.eq_nil_of_length_eq_zero (by omega)
  have hs0 : Try.prog.cellsOf 3 = 1 := by kernel_rfl
  have hs1 : Try.prog.cellsOf 27 = 1 := by kernel_rfl
  have hs2 : Try.prog.cellsOf 50 = 1 := by kernel_rfl
  have h0 : DataW.trod enc Try.prog w base spare held n' 3 (([v0, v1, v2, v3].drop 0).take (Try.prog.cellsOf 3)) = some x0 := hf 0 _ rfl
  rw [hs0] at h0
  obtain ⟨n0, e0, z0, -⟩ := DataW.trod_int Try.underlying3 h0
  have w0 : v0 = .int .i64 n0 := by simpa using e0
  have h1 : DataW.trod enc Try.prog w base spare held n' 3 (([v0, v1, v2, v3].drop 1).take (Try.prog.cellsOf 3)) = some x1 := hf 1 _ rfl
  rw [hs0] at h1
  obtain ⟨n1, e1, z1, -⟩ := DataW.trod_int Try.underlying3 h1
  have w1 : v1 = .int .i64 n1 := by simpa using e1
  have h2 : DataW.trod enc Try.prog w base spare held n' 27 (([v0, v1, v2, v3].drop 2).take (Try.prog.cellsOf 27)) = some x2 := hf 2 _ rfl
  rw [hs1] at h2
  obtain ⟨s2, e2, r2, u2⟩ := open_rd (T := 27) Try.underlying27 (by kernel_rfl) (k := 2) (fun _ => rfl) (by decide) op_Vl _ _ _ h2
  have w2 : v2 = s2.val := by simpa using e2
  have h3 : DataW.trod enc Try.prog w base spare held n' 50 (([v0, v1, v2, v3].drop 3).take (Try.prog.cellsOf 50)) = some x3 := hf 3 _ rfl
  rw [hs2] at h3
  obtain ⟨s3, e3, r3, u3⟩ := open_rd (T := 50) Try.underlying50 (by kernel_rfl) (k := 8) (fun _ => rfl) (by decide) op_Fr _ _ _ h3
  have w3 : v3 = s3.val := by simpa using e3
  have u0 := bulk_pos x0.1
  have u1 := bulk_pos x1.1
  replace u2 : (encL Vl.e s2.l).length ≤ Rows.uptoBulk x2.1 := u2
  replace u3 : (encL (fun x : Fr => FrC.e x.c) s3.l).length ≤ Rows.uptoBulk x3.1 := u3
  clear h0 e0 h1 e1 h2 e2 h3 e3 hf hcl hlen hl2
  subst w0 w1 w2 w3
  refine ⟨⟨n0, n1, s2, s3⟩, rfl, ⟨r2, r3⟩, ?_⟩
  show _ ≤ Rows.uptoBulk (DataW.agg [x0.1, x1.1, x2.1, x3.1])
  simp only [Rows.uptoBulk, Rows.uptoBulkAll]
  simp only [CeC.e, Ce.c, List.length_append, List.length_cons, List.length_nil, encL_map]
  unfold encL at *
  simp only [List.length_cons] at *
  omega
set_option maxRecDepth 100000 in
theorem op_Th : Op enc w base spare held 65 Th.cells Th.ok (fun x : Th => ThC.e x.c) := by
  intro fuel cs x h
  obtain ⟨xs, n', -, rfl, hcl, hlen, hf⟩ := DataW.trod_struct Try.underlying65 h
  have hce : Try.prog.cellsOf 65 = 5 := by kernel_rfl
  rw [hce] at hcl
  rcases cs with _ | ⟨v0, cs⟩ <;> simp only [List.length_nil, List.length_cons] at hcl <;> try omega
  rcases cs with _ | ⟨v1, cs⟩ <;> simp only [List.length_nil, List.length_cons] at hcl <;> try omega
  rcases cs with _ | ⟨v2, cs⟩ <;> simp only [List.length_nil, List.length_cons] at hcl <;> try omega
  rcases cs with _ | ⟨v3, cs⟩ <;> simp only [List.length_nil, List.length_cons] at hcl <;> try omega
  rcases cs with _ | ⟨v4, cs⟩ <;> simp only [List.length_nil, List.length_cons] at hcl <;> try omega
  obtain rfl : cs = [] := List.eq_nil_of_length_eq_zero (by omega)
  have hl2 : xs.length = 4 := hlen
  rcases xs with _ | ⟨x0, xs⟩ <;> simp only [List.length_nil, List.length_cons] at hl2 <;> try omega
  rcases xs with _ | ⟨x1, xs⟩ <;> simp only [List.length_nil, List.length_cons] at hl2 <;> try omega
  rcases xs with _ | ⟨x2, xs⟩ <;> simp only [List.length_nil, List.length_cons] at hl2 <;> try omega
  rcases xs with _ | ⟨x3, xs⟩ <;> simp only [List.length_nil, List.length_cons] at hl2 <;> try omega
  obtain rfl : xs = [] := List.eq_nil_of_length_eq_zero (by omega)
  have hs0 : Try.prog.cellsOf 50 = 1 := by kernel_rfl
  have hs1 : Try.prog.cellsOf 3 = 1 := by kernel_rfl
  have hs2 : Try.prog.cellsOf 63 = 2 := by kernel_rfl
  have h0 : DataW.trod enc Try.prog w base spare held n' 50 (([v0, v1, v2, v3, v4].drop 0).take (Try.prog.cellsOf 50)) = some x0 := hf 0 _ rfl
  rw [hs0] at h0
  obtain ⟨s0, e0, r0, u0⟩ := open_rd (T := 50) Try.underlying50 (by kernel_rfl) (k := 8) (fun _ => rfl) (by decide) op_Fr _ _ _ h0
  have w0 : v0 = s0.val := by simpa using e0
  have h1 : DataW.trod enc Try.prog w base spare held n' 3 (([v0, v1, v2, v3, v4].drop 1).take (Try.prog.cellsOf 3)) = some x1 := hf 1 _ rfl
  rw [hs1] at h1
  obtain ⟨n1, e1, z1, -⟩ := DataW.trod_int Try.underlying3 h1
  have w1 : v1 = .int .i64 n1 := by simpa using e1
  have h2 : DataW.trod enc Try.prog w base spare held n' 3 (([v0, v1, v2, v3, v4].drop 2).take (Try.prog.cellsOf 3)) = some x2 := hf 2 _ rfl
  rw [hs1] at h2
  obtain ⟨n2, e2, z2, -⟩ := DataW.trod_int Try.underlying3 h2
  have w2 : v2 = .int .i64 n2 := by simpa using e2
  have h3 : DataW.trod enc Try.prog w base spare held n' 63 (([v0, v1, v2, v3, v4].drop 3).take (Try.prog.cellsOf 63)) = some x3 := hf 3 _ rfl
  rw [hs2] at h3
  obtain ⟨⟨k3, n3⟩, e3, -, u3⟩ := op_Vl _ _ _ h3
  obtain ⟨w3, w3b⟩ : v3 = .int .i64 k3 ∧ v4 = .int .i64 n3 := by simpa [Vl.cells] using e3
  replace u0 : (encL (fun x : Fr => FrC.e x.c) s0.l).length ≤ Rows.uptoBulk x0.1 := u0
  have u1 := bulk_pos x1.1
  have u2 := bulk_pos x2.1
  replace u3 : 2 ≤ Rows.uptoBulk x3.1 := u3
  clear h0 e0 h1 e1 h2 e2 h3 e3 hf hcl hlen hl2
  subst w0 w1 w2 w3 w3b
  refine ⟨⟨s0, n1, n2, k3, n3⟩, rfl, r0, ?_⟩
  show _ ≤ Rows.uptoBulk (DataW.agg [x0.1, x1.1, x2.1, x3.1])
  simp only [Rows.uptoBulk, Rows.uptoBulkAll]
  simp only [ThC.e, Th.c, List.length_append, List.length_cons, List.length_nil, encL_map]
  unfold encL at *
  simp only [List.length_cons] at *
  omega
set_option maxRecDepth 100000 in
theorem op_St : Op enc w base spare held 29 stCells St.ok (fun x : St => StC.e x.c) := by
  intro fuel cs x h
  obtain ⟨xs, n', -, rfl, hcl, hlen, hf⟩ := DataW.trod_struct Try.underlying29 h
  have hce : Try.prog.cellsOf 29 = 8 := by kernel_rfl
  rw [hce] at hcl
  rcases cs with _ | ⟨v0, cs⟩ <;> simp only [List.length_nil, List.length_cons] at hcl <;> try omega
  rcases cs with _ | ⟨v1, cs⟩ <;> simp only [List.length_nil, List.length_cons] at hcl <;> try omega
  rcases cs with _ | ⟨v2, cs⟩ <;> simp only [List.length_nil, List.length_cons] at hcl <;> try omega
  rcases cs with _ | ⟨v3, cs⟩ <;> simp only [List.length_nil, List.length_cons] at hcl <;> try omega
  rcases cs with _ | ⟨v4, cs⟩ <;> simp only [List.length_nil, List.length_cons] at hcl <;> try omega
  rcases cs with _ | ⟨v5, cs⟩ <;> simp only [List.length_nil, List.length_cons] at hcl <;> try omega
  rcases cs with _ | ⟨v6, cs⟩ <;> simp only [List.length_nil, List.length_cons] at hcl <;> try omega
  rcases cs with _ | ⟨v7, cs⟩ <;> simp only [List.length_nil, List.length_cons] at hcl <;> try omega
  obtain rfl : cs = [] := List.eq_nil_of_length_eq_zero (by omega)
  have hl2 : xs.length = 8 := hlen
  rcases xs with _ | ⟨x0, xs⟩ <;> simp only [List.length_nil, List.length_cons] at hl2 <;> try omega
  rcases xs with _ | ⟨x1, xs⟩ <;> simp only [List.length_nil, List.length_cons] at hl2 <;> try omega
  rcases xs with _ | ⟨x2, xs⟩ <;> simp only [List.length_nil, List.length_cons] at hl2 <;> try omega
  rcases xs with _ | ⟨x3, xs⟩ <;> simp only [List.length_nil, List.length_cons] at hl2 <;> try omega
  rcases xs with _ | ⟨x4, xs⟩ <;> simp only [List.length_nil, List.length_cons] at hl2 <;> try omega
  rcases xs with _ | ⟨x5, xs⟩ <;> simp only [List.length_nil, List.length_cons] at hl2 <;> try omega
  rcases xs with _ | ⟨x6, xs⟩ <;> simp only [List.length_nil, List.length_cons] at hl2 <;> try omega
  rcases xs with _ | ⟨x7, xs⟩ <;> simp only [List.length_nil, List.length_cons] at hl2 <;> try omega
  obtain rfl : xs = [] := List.eq_nil_of_length_eq_zero (by omega)
  have hs0 : Try.prog.cellsOf 22 = 1 := by kernel_rfl
  have hs1 : Try.prog.cellsOf 23 = 1 := by kernel_rfl
  have hs2 : Try.prog.cellsOf 24 = 1 := by kernel_rfl
  have hs3 : Try.prog.cellsOf 25 = 1 := by kernel_rfl
  have hs4 : Try.prog.cellsOf 26 = 1 := by kernel_rfl
  have hs5 : Try.prog.cellsOf 27 = 1 := by kernel_rfl
  have hs6 : Try.prog.cellsOf 3 = 1 := by kernel_rfl
  have h0 : DataW.trod enc Try.prog w base spare held n' 22 (([v0, v1, v2, v3, v4, v5, v6, v7].drop 0).take (Try.prog.cellsOf 22)) = some x0 := hf 0 _ rfl
  rw [hs0] at h0
  obtain ⟨s0, e0, r0, u0⟩ := open_rd (T := 22) Try.underlying22 (by kernel_rfl) (k := 4) (fun _ => rfl) (by decide) op_Ce _ _ _ h0
  have w0 : v0 = s0.val := by simpa using e0
  have h1 : DataW.trod enc Try.prog w base spare held n' 23 (([v0, v1, v2, v3, v4, v5, v6, v7].drop 1).take (Try.prog.cellsOf 23)) = some x1 := hf 1 _ rfl
  rw [hs1] at h1
  obtain ⟨s1, e1, r1, u1⟩ := open_rd (T := 23) Try.underlying23 (by kernel_rfl) (k := 2) (fun _ => rfl) (by decide) op_Sh _ _ _ h1
  have w1 : v1 = s1.val := by simpa using e1
  have h2 : DataW.trod enc Try.prog w base spare held n' 24 (([v0, v1, v2, v3, v4, v5, v6, v7].drop 2).take (Try.prog.cellsOf 24)) = some x2 := hf 2 _ rfl
  rw [hs2] at h2
  obtain ⟨s2, e2, r2, u2⟩ := open_rd (T := 24) Try.underlying24 (by kernel_rfl) (k := 1) (fun _ => rfl) (by decide) op_Tx _ _ _ h2
  have w2 : v2 = s2.val := by simpa using e2
  have h3 : DataW.trod enc Try.prog w base spare held n' 25 (([v0, v1, v2, v3, v4, v5, v6, v7].drop 3).take (Try.prog.cellsOf 25)) = some x3 := hf 3 _ rfl
  rw [hs3] at h3
  obtain ⟨s3, e3, r3, u3⟩ := open_rd (T := 25) Try.underlying25 (by kernel_rfl) (k := 5) (fun _ => rfl) (by decide) op_Th _ _ _ h3
  have w3 : v3 = s3.val := by simpa using e3
  have h4 : DataW.trod enc Try.prog w base spare held n' 26 (([v0, v1, v2, v3, v4, v5, v6, v7].drop 4).take (Try.prog.cellsOf 26)) = some x4 := hf 4 _ rfl
  rw [hs4] at h4
  obtain ⟨s4, e4, r4, u4⟩ := open_rd (T := 26) Try.underlying26 (by kernel_rfl) (k := 3) (fun _ => rfl) (by decide) op_En _ _ _ h4
  have w4 : v4 = s4.val := by simpa using e4
  have h5 : DataW.trod enc Try.prog w base spare held n' 27 (([v0, v1, v2, v3, v4, v5, v6, v7].drop 5).take (Try.prog.cellsOf 27)) = some x5 := hf 5 _ rfl
  rw [hs5] at h5
  obtain ⟨s5, e5, r5, u5⟩ := open_rd (T := 27) Try.underlying27 (by kernel_rfl) (k := 2) (fun _ => rfl) (by decide) op_Vl _ _ _ h5
  have w5 : v5 = s5.val := by simpa using e5
  have h6 : DataW.trod enc Try.prog w base spare held n' 3 (([v0, v1, v2, v3, v4, v5, v6, v7].drop 6).take (Try.prog.cellsOf 3)) = some x6 := hf 6 _ rfl
  rw [hs6] at h6
  obtain ⟨n6, e6, z6, -⟩ := DataW.trod_int Try.underlying3 h6
  have w6 : v6 = .int .i64 n6 := by simpa using e6
  have h7 : DataW.trod enc Try.prog w base spare held n' 3 (([v0, v1, v2, v3, v4, v5, v6, v7].drop 7).take (Try.prog.cellsOf 3)) = some x7 := hf 7 _ rfl
  rw [hs6] at h7
  obtain ⟨n7, e7, z7, -⟩ := DataW.trod_int Try.underlying3 h7
  have w7 : v7 = .int .i64 n7 := by simpa using e7
  replace u0 : (encL (fun x : Ce => CeC.e x.c) s0.l).length ≤ Rows.uptoBulk x0.1 := u0
  replace u1 : (encL Sh.e s1.l).length ≤ Rows.uptoBulk x1.1 := u1
  replace u2 : (encL (fun x => txE (txC x)) s2.l).length ≤ Rows.uptoBulk x2.1 := u2
  replace u3 : (encL (fun x : Th => ThC.e x.c) s3.l).length ≤ Rows.uptoBulk x3.1 := u3
  replace u4 : (encL En.e s4.l).length ≤ Rows.uptoBulk x4.1 := u4
  replace u5 : (encL Vl.e s5.l).length ≤ Rows.uptoBulk x5.1 := u5
  have u6 := bulk_pos x6.1
  have u7 := bulk_pos x7.1
  clear h0 e0 h1 e1 h2 e2 h3 e3 h4 e4 h5 e5 h6 e6 h7 e7 hf hcl hlen hl2
  subst w0 w1 w2 w3 w4 w5 w6 w7
  refine ⟨⟨s0, s1, s2, s3, s4, s5, n6, n7⟩, rfl, ⟨r0, r1, r2, r3, r4, r5⟩, ?_⟩
  show _ ≤ Rows.uptoBulk (DataW.agg [x0.1, x1.1, x2.1, x3.1, x4.1, x5.1, x6.1, x7.1])
  simp only [Rows.uptoBulk, Rows.uptoBulkAll]
  simp only [StC.e, St.c, List.length_append, List.length_cons, List.length_nil, encL_map]
  unfold encL at *
  simp only [List.length_cons] at *
  omega
end
end Go.Proofs.Ythdleldnjoamlaa
