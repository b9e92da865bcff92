/-
  Ol, Top, Es, Ib, in one.
-/
import Derived.Test.YtddmcmkhjkleoaaGreatDoorMak
import Derived.Test.YtddmcmkhjkleoaaGreatDoorMar
import Derived.Test.YtddmcmkhjkleoaaGreatDoorRows
import Derived.Deep.Slices
import Derived.Deep.Fields
import Derived.ChangeSame
import Derived.ChangeArms
import Derived.Lib.LaidTab
import Derived.Shelf.Vars
import Derived.WalkKit
import Derived.ProofKit
import Derived.OpenShut
import Derived.Deep.DeepHandedRow
import Derived.Deep.DeepWitnessRowRef
import Derived.LaidMore
import Derived.Test.YtddmcmkhjkleoaaGreatDoorMal
import Derived.Test.YtddmcmkhjkleoaaGreatDoorMao
import Derived.Test.YtddmcmkhjkleoaaGreatDoorMap
import Derived.Test.YtddmcmkhjkleoaaGreatDoorMam
import Derived.RangeFuncNested
import Derived.RangeFuncLeaves
section
namespace Go.Proofs.YtddmcmkhjkleoaaGreatDoor
open Go.ChangeShapes Go.WideShapes Go.ChangeAt Go.RowKit Go.Deep
set_option maxRecDepth 100000

theorem bulk_le {H : Type} : ∀ (l : List (DataW H)) (d : DataW H), d ∈ l → Rows.uptoBulk d ≤ Rows.uptoBulkAll l
  | [], _, h => by cases h
  | x :: l, d, h => by
    rw [Rows.uptoBulkAll]
    rcases List.mem_cons.1 h with rfl | h
    · omega
    · have := bulk_le l d h; omega
theorem bulk_pos {H : Type} (d : DataW H) : 1 ≤ Rows.uptoBulk d := by
  cases d with
  | lit x => cases x <;> simp [Rows.uptoBulk]
  | _ => simp [Rows.uptoBulk]
theorem bulk_all {H : Type} : ∀ l : List (DataW H), l.length ≤ Rows.uptoBulkAll l
  | [] => Nat.le_refl _
  | d :: l => by
    have h1 := bulk_pos d
    have h2 := bulk_all l
    rw [List.length_cons, Rows.uptoBulkAll]; omega
section
variable {H : Type} {enc : TypeId × Value → H} {w : World} {base : Nat} {spare : Nat → Bool} {held : Bool}
/-- What one of type E reads as; ok speaks of its bulk, too. -/
def OpB (enc : TypeId × Value → H) (w : World) (base : Nat) (spare : Nat → Bool) (held : Bool) {α : Type} (E : TypeId) (f : α → D) (ok : α → Nat → Prop) : Prop :=
  ∀ (fuel : Nat) (cs : List Value) (x : DataW H × List MemPlace), DataW.trod enc Tryz.prog w base spare held fuel E cs = some x → ∃ a : α, ok a (Rows.uptoBulk x.1) ∧ RepDs (allS w) (f a).lv cs
theorem wf64 {n : Int} (h : (Lit.int .i64 n).wf = true) : in64 n := by
  have h2 : (Lit.int .i64 n).wf = (decide (IntKind.i64.min ≤ n) && decide (n ≤ IntKind.i64.max)) := rfl
  rw [h2, Bool.and_eq_true, decide_eq_true_eq, decide_eq_true_eq] at h
  have e1 : IntKind.i64.min = -9223372036854775808 := by decide +kernel
  have e2 : IntKind.i64.max = 9223372036854775807 := by decide +kernel
  rw [e1, e2] at h
  exact h
theorem opb_int : OpB enc w base spare held 3 iD (fun n _ => in64 n) := fun fuel cs x hf => by
  obtain ⟨n, rfl, -, hw⟩ := DataW.trod_int Tryz.underlying3 hf
  exact ⟨n, wf64 hw, .cons (.v rfl) rfl .nil⟩
theorem opb_bool : OpB enc w base spare held 4 bD (fun _ _ => True) := fun fuel cs x hf => by
  obtain ⟨n, rfl, -⟩ := DataW.trod_bool Tryz.underlying4 hf
  exact ⟨n, trivial, .cons (.v rfl) rfl .nil⟩
theorem opb_str : OpB enc w base spare held 9 strD (fun _ _ => True) := fun fuel cs x hf => by
  obtain ⟨s, rfl, -, -⟩ := DataW.trod_string Tryz.underlying9 hf
  exact ⟨s.data.toList, trivial, .cons (.v rfl) rfl .nil⟩
theorem opb_sl {α : Type} {E T : TypeId} {k : Nat} {f : α → D} {ok : α → Nat → Prop} (ht : Tryz.prog.underlying T = some (.slice E)) (hE : Tryz.prog.cellsOf E = k) (hk0 : 0 < k) (hmo : ∀ a n m, ok a n → n ≤ m → ok a m) (hO : OpB enc w base spare held E f ok) :
    OpB enc w base spare held T (fun l : List α => .sl k (l.map f)) (fun l n => (∀ x ∈ l, ok x n) ∧ l.length ≤ n) := by
  intro fuel cs x hf
  rcases open_slice ht hf with ⟨rfl, -⟩ | ⟨a, len, cap, m, n, D, Pl, rfl, -, hl, hm, hmm, hxx, hall⟩
  · exact ⟨[], ⟨fun _ h => by simp at h, Nat.zero_le _⟩, .cons (.sl .nil (RowS.nil _ _) (Nat.le_refl _) (by decide) fun _ => rfl) rfl .nil⟩
  · rw [hE] at hall
    have hlm : len ≤ m := by rw [hmm]; split <;> omega
    have hbk : Rows.uptoBulk x.1 = Rows.uptoBulkAll ((List.range len).map D) + Rows.uptoBulkAll ((List.range (m - len)).map fun j => D (len + j)) + 1 := by rw [hxx]; rfl
    have hbl : ∀ i, i < len → Rows.uptoBulk (D i) ≤ Rows.uptoBulk x.1 := fun i hi => by
      have := bulk_le ((List.range len).map D) (D i) (List.mem_map_of_mem (List.mem_range.2 hi))
      omega
    have hlb : len ≤ Rows.uptoBulk x.1 := by
      have := bulk_all ((List.range len).map D)
      rw [List.length_map, List.length_range] at this
      omega
    have key : ∀ i, i ≤ len → ∃ (l : List α) (xs : List Value), l.length = i ∧ xs.length = i * k ∧ (∀ y ∈ l, ok y (Rows.uptoBulk x.1)) ∧ RepLv (allS w) k (l.map f) xs ∧ ∀ j, j < i * k → w.cell? (a.add j) = xs[j]? := by
      intro i
      induction i with
      | zero => intro _; exact ⟨[], [], rfl, by simp, fun _ h => (by simp at h), .nil, fun j h => by omega⟩
      | succ i ih =>
        intro hi
        obtain ⟨l, xs, h1, h2, h3, h4, h5⟩ := ih (by omega)
        obtain ⟨cs', hc, htr⟩ := hall i (by omega)
        obtain ⟨b, hb, hr⟩ := hO _ _ _ htr
        obtain ⟨-, hlen, hat⟩ := World.cells?_some hc
        refine ⟨l ++ [b], xs ++ cs', by simp [h1], by rw [List.length_append, h2, hlen, Nat.succ_mul], fun y hy => ?_, ?_, fun j hj => ?_⟩
        · rcases List.mem_append.1 hy with hy | hy
          · exact h3 y hy
          · obtain rfl := List.mem_singleton.1 hy; exact hmo _ _ _ hb (hbl i (by omega))
        · rw [List.map_append, List.map_cons, List.map_nil]
          refine RepLv.app h4 ?_
          have := RepLv.cons hr hlen (RepLv.nil (S := allS w) (k := k))
          rwa [List.append_nil] at this
        · by_cases hji : j < i * k
          · rw [List.getElem?_append_left (by omega)]; exact h5 j hji
          · rw [Nat.succ_mul] at hj
            have := hat (j - i * k) (by omega)
            rw [Go.Deep.add_add, show i * k + (j - i * k) = j from by omega] at this
            rw [List.getElem?_append_right (by omega), h2]
            exact this
    obtain ⟨l, xs, rfl, h2, h3, h4, h5⟩ := key len (Nat.le_refl _)
    have hml : (l.map f).length = l.length := List.length_map ..
    refine ⟨l, ⟨h3, hlb⟩, .cons (hml ▸ .sl h4 ?_ (by rw [hml]; exact hl) (by unfold maxLen at hm; exact hm) fun h => by cases h) rfl .nil⟩
    by_cases h0 : 0 < l.length
    · obtain ⟨b, off, spot⟩ := a
      have hx0 : 0 < xs.length := by rw [h2]; exact Nat.mul_pos h0 hk0
      have h1 := h5 0 (by omega)
      rw [List.getElem?_eq_getElem hx0] at h1
      have hs : spot = none := by simpa [Addr.add] using World.cell?_spot h1
      subst hs
      refine ⟨b, off, fun _ => rfl, fun i hi => ?_⟩
      have := h5 i (by omega)
      rw [add_lit'] at this
      exact this
    · obtain rfl : xs = [] := List.eq_nil_of_length_eq_zero (by rw [h2]; simp at h0; simp [h0])
      exact RowS.nil _ _
theorem at_ {P : TypeId} {n : Nat} {cs : List Value} {xs : List (DataW H × List MemPlace)} {i : Nat} (hi : i < xs.length) (h : DataW.trod enc Tryz.prog w base spare held n P cs = xs[i]?) : DataW.trod enc Tryz.prog w base spare held n P cs = some xs[i] := by
  rw [h, List.getElem?_eq_getElem hi]
theorem agg_le {xs : List (DataW H × List MemPlace)} {i : Nat} (hi : i < xs.length) : Rows.uptoBulk xs[i].1 ≤ Rows.uptoBulk (DataW.agg (xs.map (·.1))) := by
  have h1 := bulk_le (xs.map (·.1)) xs[i].1 (List.mem_map_of_mem (List.getElem_mem hi))
  have h2 : Rows.uptoBulk (DataW.agg (xs.map (·.1))) = Rows.uptoBulkAll (xs.map (·.1)) + 1 := rfl
  omega
theorem opb_val : OpB enc w base spare held 55 vaD (fun v _ => in64 v.1 ∧ in64 v.2) := fun fuel cs x hf => by
  obtain ⟨xs, n', -, -, hcl, hlen, hf⟩ := DataW.trod_struct Tryz.underlying55 hf
  have hcv : Tryz.prog.cellsOf 55 = 2 := by kernel_rfl
  have hc3 : Tryz.prog.cellsOf 3 = 1 := by kernel_rfl
  rw [hcv] at hcl
  have h0 : DataW.trod enc Tryz.prog w base spare held n' 3 ((cs.drop 0).take (Tryz.prog.cellsOf 3)) = xs[0]? := hf 0 _ rfl
  have h1 : DataW.trod enc Tryz.prog w base spare held n' 3 ((cs.drop 1).take (Tryz.prog.cellsOf 3)) = xs[1]? := hf 1 _ rfl
  rw [hc3] at h0 h1
  match cs, hcl with
  | [a0, a1], _ =>
    obtain ⟨n0, w0, r0⟩ := opb_int _ _ _ (at_ (by rw [hlen]; decide) h0)
    obtain ⟨n1, w1, r1⟩ := opb_int _ _ _ (at_ (by rw [hlen]; decide) h1)
    exact ⟨(n0, n1), ⟨w0, w1⟩, r0.app r1⟩
theorem opb_ins : OpB enc w base spare held 41 inD (fun i _ => in64 i.a ∧ in64 i.b ∧ in64 i.c ∧ in64 i.line) := fun fuel cs x hf => by
  obtain ⟨xs, n', -, -, hcl, hlen, hf⟩ := DataW.trod_struct Tryz.underlying41 hf
  have hcv : Tryz.prog.cellsOf 41 = 5 := by kernel_rfl
  have hc3 : Tryz.prog.cellsOf 3 = 1 := by kernel_rfl
  rw [hcv] at hcl
  have h0 : DataW.trod enc Tryz.prog w base spare held n' 3 ((cs.drop 0).take (Tryz.prog.cellsOf 3)) = xs[0]? := hf 0 _ rfl
  have h1 : DataW.trod enc Tryz.prog w base spare held n' 3 ((cs.drop 1).take (Tryz.prog.cellsOf 3)) = xs[1]? := hf 1 _ rfl
  have h2 : DataW.trod enc Tryz.prog w base spare held n' 3 ((cs.drop 2).take (Tryz.prog.cellsOf 3)) = xs[2]? := hf 2 _ rfl
  have h3 : DataW.trod enc Tryz.prog w base spare held n' 3 ((cs.drop 3).take (Tryz.prog.cellsOf 3)) = xs[3]? := hf 3 _ rfl
  have h4 : DataW.trod enc Tryz.prog w base spare held n' 3 ((cs.drop 4).take (Tryz.prog.cellsOf 3)) = xs[4]? := hf 4 _ rfl
  rw [hc3] at h0 h1 h2 h3 h4
  match cs, hcl with
  | [a0, a1, a2, a3, a4], _ =>
    obtain ⟨n0, w0, r0⟩ := opb_int _ _ _ (at_ (by rw [hlen]; decide) h0)
    obtain ⟨n1, w1, r1⟩ := opb_int _ _ _ (at_ (by rw [hlen]; decide) h1)
    obtain ⟨n2, w2, r2⟩ := opb_int _ _ _ (at_ (by rw [hlen]; decide) h2)
    obtain ⟨n3, w3, r3⟩ := opb_int _ _ _ (at_ (by rw [hlen]; decide) h3)
    obtain ⟨n4, w4, r4⟩ := opb_int _ _ _ (at_ (by rw [hlen]; decide) h4)
    exact ⟨⟨n0, n1, n2, n3, n4⟩, ⟨w1, w2, w3, w4⟩, r0.app (r1.app (r2.app (r3.app r4)))⟩
theorem opb_ints : OpB enc w base spare held 36 (fun l : List Int => isD l) (fun l n => (∀ x ∈ l, in64 x) ∧ l.length ≤ n) := opb_sl (E := 3) (k := 1) (f := iD) (ok := fun n _ => in64 n) Tryz.underlying36 (by kernel_rfl) (by decide) (fun _ _ _ h _ => h) opb_int
theorem opb_code : OpB enc w base spare held 37 (fun l : List InR => codeD l) (fun l n => (∀ i ∈ l, in64 i.a ∧ in64 i.b ∧ in64 i.c ∧ in64 i.line) ∧ l.length ≤ n) := opb_sl (E := 41) (k := 5) (f := inD) (ok := fun i _ => in64 i.a ∧ in64 i.b ∧ in64 i.c ∧ in64 i.line) Tryz.underlying37 (by kernel_rfl) (by decide) (fun _ _ _ h _ => h) opb_ins
def FnB (f : FnR) (n : Nat) : Prop := in64 f.params ∧ in64 f.regs ∧ (∀ x ∈ f.caught, in64 x) ∧ f.caught.length ≤ n ∧ ∀ i ∈ f.code, in64 i.a ∧ in64 i.b ∧ in64 i.c ∧ in64 i.line
theorem opb_fn : OpB enc w base spare held 39 fnD FnB := fun fuel cs x hf => by
  obtain ⟨xs, n', -, hx, hcl, hlen, hf⟩ := DataW.trod_struct Tryz.underlying39 hf
  have hcv : Tryz.prog.cellsOf 39 = 5 := by kernel_rfl
  have c0 : Tryz.prog.cellsOf 3 = 1 := by kernel_rfl
  have c1 : Tryz.prog.cellsOf 4 = 1 := by kernel_rfl
  have c2 : Tryz.prog.cellsOf 36 = 1 := by kernel_rfl
  have c3 : Tryz.prog.cellsOf 37 = 1 := by kernel_rfl
  rw [hcv] at hcl
  have h0 : DataW.trod enc Tryz.prog w base spare held n' 3 ((cs.drop 0).take (Tryz.prog.cellsOf 3)) = xs[0]? := hf 0 _ rfl
  have h1 : DataW.trod enc Tryz.prog w base spare held n' 3 ((cs.drop 1).take (Tryz.prog.cellsOf 3)) = xs[1]? := hf 1 _ rfl
  have h2 : DataW.trod enc Tryz.prog w base spare held n' 4 ((cs.drop 2).take (Tryz.prog.cellsOf 4)) = xs[2]? := hf 2 _ rfl
  have h3 : DataW.trod enc Tryz.prog w base spare held n' 36 ((cs.drop 3).take (Tryz.prog.cellsOf 36)) = xs[3]? := hf 3 _ rfl
  have h4 : DataW.trod enc Tryz.prog w base spare held n' 37 ((cs.drop 4).take (Tryz.prog.cellsOf 37)) = xs[4]? := hf 4 _ rfl
  rw [c0] at h0 h1
  rw [c1] at h2
  rw [c2] at h3
  rw [c3] at h4
  match cs, hcl with
  | [a0, a1, a2, a3, a4], _ =>
    have l3 : 3 < xs.length := by rw [hlen]; decide
    obtain ⟨n0, w0, r0⟩ := opb_int _ _ _ (at_ (by rw [hlen]; decide) h0)
    obtain ⟨n1, w1, r1⟩ := opb_int _ _ _ (at_ (by rw [hlen]; decide) h1)
    obtain ⟨n2, w2, r2⟩ := opb_bool _ _ _ (at_ (by rw [hlen]; decide) h2)
    obtain ⟨n3, w3, r3⟩ := opb_ints _ _ _ (at_ l3 h3)
    obtain ⟨n4, w4, r4⟩ := opb_code _ _ _ (at_ (by rw [hlen]; decide) h4)
    refine ⟨⟨n0, n1, n2, n3, n4⟩, ⟨w0, w1, w3.1, ?_, w4.1⟩, r0.app (r1.app (r2.app (r3.app r4)))⟩
    rw [hx]
    exact Nat.le_trans w3.2 (agg_le l3)
theorem opb_fns : OpB enc w base spare held 22 (fun l : List FnR => fnsD l) (fun l n => (∀ f ∈ l, FnB f n) ∧ l.length ≤ n) := opb_sl (E := 39) (k := 5) (f := fnD) (ok := FnB) Tryz.underlying22 (by kernel_rfl) (by decide) (fun _ _ _ h hn => ⟨h.1, h.2.1, h.2.2.1, Nat.le_trans h.2.2.2.1 hn, h.2.2.2.2⟩) opb_fn
theorem opb_vals : OpB enc w base spare held 23 (fun l : List (Int × Int) => vasD l) (fun l n => (∀ v ∈ l, in64 v.1 ∧ in64 v.2) ∧ l.length ≤ n) := opb_sl (E := 55) (k := 2) (f := vaD) (ok := fun v _ => in64 v.1 ∧ in64 v.2) Tryz.underlying23 (by kernel_rfl) (by decide) (fun _ _ _ h _ => h) opb_val
theorem opb_strs : OpB enc w base spare held 24 (fun l : List (List UInt8) => txD l) (fun l n => (∀ v ∈ l, True) ∧ l.length ≤ n) := opb_sl (E := 9) (k := 1) (f := strD) (ok := fun _ _ => True) Tryz.underlying24 (by kernel_rfl) (by decide) (fun _ _ _ h _ => h) opb_str
theorem open_prog {v : Value} {d : DataW H} {ps : List MemPlace} {r : Reach} {b0 : Nat} (hv : Value.okWide Tryz.prog w r b0 26 v) (h : DataW.Trod enc Tryz.prog w base spare held 26 v d ps) :
    ∃ p : PrR, (∀ f ∈ p.fns, FnB f (Rows.uptoBulk d)) ∧ (∀ v ∈ p.consts, in64 v.1 ∧ in64 v.2) ∧ RepD (allS w) (prD p) v := by
  obtain ⟨fuel, h⟩ := h
  obtain ⟨cs, rfl, hsz⟩ := okWide_struct Tryz.underlying26 hv
  obtain ⟨xs, n', -, hx, hcl, hlen, hf⟩ := DataW.trod_struct Tryz.underlying26 h
  have hcv : Tryz.prog.cellsOf 26 = 3 := by kernel_rfl
  have c0 : Tryz.prog.cellsOf 22 = 1 := by kernel_rfl
  have c1 : Tryz.prog.cellsOf 23 = 1 := by kernel_rfl
  have c2 : Tryz.prog.cellsOf 24 = 1 := by kernel_rfl
  have hce : (Value.agg cs).cells.toList = cs.toList := rfl
  rw [hce] at hcl hf
  rw [hcv] at hcl
  have h0 : DataW.trod enc Tryz.prog w base spare held n' 22 ((cs.toList.drop 0).take (Tryz.prog.cellsOf 22)) = xs[0]? := hf 0 _ rfl
  have h1 : DataW.trod enc Tryz.prog w base spare held n' 23 ((cs.toList.drop 1).take (Tryz.prog.cellsOf 23)) = xs[1]? := hf 1 _ rfl
  have h2 : DataW.trod enc Tryz.prog w base spare held n' 24 ((cs.toList.drop 2).take (Tryz.prog.cellsOf 24)) = xs[2]? := hf 2 _ rfl
  rw [c0] at h0
  rw [c1] at h1
  rw [c2] at h2
  obtain ⟨cs⟩ := cs
  dsimp only at hcl h0 h1 h2
  match cs, hcl with
  | [a0, a1, a2], _ =>
    have l0 : 0 < xs.length := by rw [hlen]; decide
    obtain ⟨n0, w0, r0⟩ := opb_fns _ _ _ (at_ l0 h0)
    obtain ⟨n1, w1, r1⟩ := opb_vals _ _ _ (at_ (by rw [hlen]; decide) h1)
    obtain ⟨n2, w2, r2⟩ := opb_strs _ _ _ (at_ (by rw [hlen]; decide) h2)
    refine ⟨⟨n0, n1, n2⟩, fun f hf => ?_, w1.1, .agg (r0.app (r1.app r2))⟩
    have hd : d = DataW.agg (xs.map (·.1)) := congrArg Prod.fst hx
    rw [hd]
    have := w0.1 f hf
    exact ⟨this.1, this.2.1, this.2.2.1, Nat.le_trans this.2.2.2.1 (agg_le l0), this.2.2.2.2⟩
end
theorem prin_of {p : PrR} {n : Nat} (hn : n ≤ 1048576) (h1 : ∀ f ∈ p.fns, FnB f n) (h2 : ∀ v ∈ p.consts, in64 v.1 ∧ in64 v.2) : PrIn p :=
  ⟨fun f hf => ⟨(h1 f hf).1, (h1 f hf).2.1, (h1 f hf).2.2.1, by have := (h1 f hf).2.2.2.1; omega, (h1 f hf).2.2.2.2⟩, fun v hv => (h2 v hv).2⟩
/-- How long a written program is. -/
theorem write_len {p : PrR} {n : Nat} (hn : n ≤ 1048576) (h1 : ∀ f ∈ p.fns, FnB f n) (h2 : ∀ v ∈ p.consts, in64 v.1 ∧ in64 v.2) (hc : checkM p = 0) : (writeT p).length ≤ 3000000000 := by
  have ho := ok_of hc
  have hp := prin_of hn h1 h2
  have e1 : (strU "text ").length = 5 := by decide +kernel
  have e2 : (strU "const ").length = 6 := by decide +kernel
  have l1 := flat_len 700 textT (p.texts.drop 19) fun s hs => by
    have := quotedM_len (ho.text s (List.mem_of_mem_drop hs))
    unfold textT
    simp only [List.length_append, e1, List.length_singleton]; omega
  have l2 := flat_len 100 (fun v => strU "const " ++ constW v ++ [10]) p.consts fun v hv => by
    have := constW_len (hp.consts v hv)
    simp only [List.length_append, e2, List.length_singleton]; omega
  have l3 := flat_len 30000000 functionT p.fns fun f hf => by
    obtain ⟨b1, b2, b3, b4, b5⟩ := h1 f hf
    have hok := (hp.fns f hf).ok ho hf
    have k1 := flat_len 200 orderT f.code fun i hi => order_len (hok.ins i hi)
    have k2 := nums_len f.caught b3
    have k3 := nums_len [f.params, f.regs] (by intro m hm; simp only [List.mem_cons, List.not_mem_nil, or_false] at hm; rcases hm with rfl | rfl; exact b1; exact b2)
    have k4 := (ho.code f hf).1
    have g1 : (strU "fn").length = 2 := by decide +kernel
    have g2 : (strU "gen").length = 3 := by decide +kernel
    have g3 : (strU "caught").length = 6 := by decide +kernel
    simp only [List.length_cons, List.length_nil] at k3
    unfold functionT headT caughtT
    simp only [List.length_append]
    split <;> split <;> simp only [List.length_append, List.length_cons, List.length_nil, g1, g2, g3] <;> omega
  have m1 := ho.fns
  have m2 := ho.consts
  have m3 := ho.texts
  rw [List.length_drop] at l1
  unfold writeT
  rw [List.length_append, List.length_append]
  omega
theorem own : ownKnob Tryz.prog.godebug = none := by kernel_rfl
theorem laidOut : laidOutB Tryz.prog = true := by kernel_rfl
/-- A cell that reads as an interface that holds something. -/
theorem err_of {H : Type} {enc : TypeId × Value → H} {w : World} {base : Nat} {sp : Nat → Bool} {fuel : Nat} {t : TypeId} {ms : Array (String × TypeId)} {cs : List Value} {n : String} {d : DataW H} {p : List MemPlace} (ht : Tryz.prog.underlying t = some (.interface ms))
    (h : DataW.trod enc Tryz.prog w base sp false fuel t cs = some (.iface n d, p)) : ∃ u v, cs = [.iface u v] := by
  cases fuel with
  | zero => simp [DataW.trod] at h
  | succ fuel =>
    match cs with
    | [] => simp [DataW.trod, ht] at h
    | [x] => cases x <;> first | exact ⟨_, _, rfl⟩ | (simp [DataW.trod, ht] at h)
    | x :: y :: l => simp [DataW.trod, ht] at h
theorem var_block {W : World} {name : String} {g : Nat} {cs : Array Value} (hg : Tryz.prog.globalNamed name = some g) (h : W.var? Tryz.prog name = some cs) : ∃ t fr, W.heap[g]? = some (.cells cs t fr) := by
  unfold World.var? at h
  rw [hg] at h
  simp only [Option.bind_some] at h
  split at h
  · next cs' t fr hh => cases h; exact ⟨t, fr, hh⟩
  · cases h
/-- The variable whose value no row tells: it holds some int. -/
theorem maxLen_in {W : World} (h : W.ShapedOpen Tryz.prog) : ∃ (cs : List Value) (t : TypeId) (fr : Nat × Nat), intV cs ∧ W.heap[4]? = some (.cells cs.toArray t fr) := by
  have h0 : ((begin Tryz.prog (fun _ _ => 0) default).world.heap[4]?).bind Obj.row? = some (#[.int .i64 0], 3) := by kernel_rfl
  have hg : 4 < Tryz.prog.globals.size := by decide +kernel
  obtain ⟨cs, hh, hs, -⟩ := h.1 _ _ _ hg h0
  obtain ⟨m, hm⟩ := cell_of_shapedOpen_int (k := .i64) h hg h0 rfl (by kernel_rfl) (by kernel_rfl) Tryz.underlying3
  have hs1 : cs.size = 1 := hs
  refine ⟨[.int .i64 m], 3, (0, 0), ⟨m, rfl⟩, ?_⟩
  rw [hh]
  have hc : cs = #[.int .i64 m] := by
    obtain ⟨cs⟩ := cs
    match cs, hs1 with
    | [x], _ =>
      simp [World.cell?, hh] at hm
      rw [hm]
  rw [hc]
end Go.Proofs.YtddmcmkhjkleoaaGreatDoor
end

section
namespace Go.Proofs.YtddmcmkhjkleoaaGreatDoor
open Go.ChangeShapes Go.WideShapes Go.ChangeAt Go.RowKit
set_option maxRecDepth 100000

theorem rows_nodup : ∀ l : List (Nat × Nat), (l.map (·.1)).Nodup → (l.flatMap fun x => MemPlace.row ⟨x.1, 0, none⟩ x.2).Nodup
  | [], _ => List.nodup_nil
  | x :: l, h => by
    rw [List.map_cons, List.nodup_cons] at h
    rw [List.flatMap_cons, List.nodup_append]
    refine ⟨?_, rows_nodup l h.2, ?_⟩
    · unfold MemPlace.row
      rw [List.nodup_iff_pairwise_ne, List.pairwise_map]
      exact List.nodup_range.imp fun hab e => hab (by simpa using e)
    · intro a ha b hb e
      subst e
      obtain ⟨y, hy, hb⟩ := List.mem_flatMap.1 hb
      unfold MemPlace.row at ha hb
      obtain ⟨i, -, rfl⟩ := List.mem_map.1 ha
      obtain ⟨j, -, e⟩ := List.mem_map.1 hb
      simp only [MemPlace.cell.injEq] at e
      exact h.1 (e.1 ▸ List.mem_map_of_mem hy)
def places : List MemPlace := [(9, 32), (10, 64), (6, 20), (3, 32), (8, 1), (17, 1), (7, 1), (18, 1), (1, 1), (20, 3), (19, 21), (0, 256), (2, 256)].flatMap fun x : Nat × Nat => MemPlace.row ⟨x.1, 0, none⟩ x.2
theorem places_nodup : places.Nodup := rows_nodup _ (by decide)
/-- A world in which the tables are laid. -/
noncomputable def laidWorld (os : Os) : World :=
  { World.holding Tryz.prog os ⟨#[], #[], []⟩ with heap := (((((((((((((((((((((((((((((World.holding Tryz.prog os ⟨#[], #[], []⟩).heap).modify 0 fun
      | .cells _ t frozen => .cells #[.int .u8 0, .int .u8 0, .int .u8 0, .int .u8 0, .int .u8 0, .int .u8 0, .int .u8 0, .int .u8 0, .int .u8 0, .int .u8 1, .int .u8 1, .int .u8 1, .int .u8 1, .int .u8 1, .int .u8 0, .int .u8 0, .int .u8 0, .int .u8 0, .int .u8 0, .int .u8 0, .int .u8 0, .int .u8 0, .int .u8 0, .int .u8 0, .int .u8 0, .int .u8 0, .int .u8 0, .int .u8 0, .int .u8 0, .int .u8 0, .int .u8 0, .int .u8 0, .int .u8 1, .int .u8 0, .int .u8 0, .int .u8 0, .int .u8 0, .int .u8 0, .int .u8 0, .int .u8 0, .int .u8 0, .int .u8 0, .int .u8 0, .int .u8 0, .int .u8 0, .int .u8 0, .int .u8 0, .int .u8 0, .int .u8 0, .int .u8 0, .int .u8 0, .int .u8 0, .int .u8 0, .int .u8 0, .int .u8 0, .int .u8 0, .int .u8 0, .int .u8 0, .int .u8 0, .int .u8 0, .int .u8 0, .int .u8 0, .int .u8 0, .int .u8 0, .int .u8 0, .int .u8 0, .int .u8 0, .int .u8 0, .int .u8 0, .int .u8 0, .int .u8 0, .int .u8 0, .int .u8 0, .int .u8 0, .int .u8 0, .int .u8 0, .int .u8 0, .int .u8 0, .int .u8 0, .int .u8 0, .int .u8 0, .int .u8 0, .int .u8 0, .int .u8 0, .int .u8 0, .int .u8 0, .int .u8 0, .int .u8 0, .int .u8 0, .int .u8 0, .int .u8 0, .int .u8 0, .int .u8 0, .int .u8 0, .int .u8 0, .int .u8 0, .int .u8 0, .int .u8 0, .int .u8 0, .int .u8 0, .int .u8 0, .int .u8 0, .int .u8 0, .int .u8 0, .int .u8 0, .int .u8 0, .int .u8 0, .int .u8 0, .int .u8 0, .int .u8 0, .int .u8 0, .int .u8 0, .int .u8 0, .int .u8 0, .int .u8 0, .int .u8 0, .int .u8 0, .int .u8 0, .int .u8 0, .int .u8 0, .int .u8 0, .int .u8 0, .int .u8 0, .int .u8 0, .int .u8 0, .int .u8 0, .int .u8 0, .int .u8 0, .int .u8 0, .int .u8 0, .int .u8 0, .int .u8 0, .int .u8 0, .int .u8 0, .int .u8 0, .int .u8 0, .int .u8 0, .int .u8 0, .int .u8 0, .int .u8 0, .int .u8 0, .int .u8 0, .int .u8 0, .int .u8 0, .int .u8 0, .int .u8 0, .int .u8 0, .int .u8 0, .int .u8 0, .int .u8 0, .int .u8 0, .int .u8 0, .int .u8 0, .int .u8 0, .int .u8 0, .int .u8 0, .int .u8 0, .int .u8 0, .int .u8 0, .int .u8 0, .int .u8 0, .int .u8 0, .int .u8 0, .int .u8 0, .int .u8 0, .int .u8 0, .int .u8 0, .int .u8 0, .int .u8 0, .int .u8 0, .int .u8 0, .int .u8 0, .int .u8 0, .int .u8 0, .int .u8 0, .int .u8 0, .int .u8 0, .int .u8 0, .int .u8 0, .int .u8 0, .int .u8 0, .int .u8 0, .int .u8 0, .int .u8 0, .int .u8 0, .int .u8 0, .int .u8 0, .int .u8 0, .int .u8 0, .int .u8 0, .int .u8 0, .int .u8 0, .int .u8 0, .int .u8 0, .int .u8 0, .int .u8 0, .int .u8 0, .int .u8 0, .int .u8 0, .int .u8 0, .int .u8 0, .int .u8 0, .int .u8 0, .int .u8 0, .int .u8 0, .int .u8 0, .int .u8 0, .int .u8 0, .int .u8 0, .int .u8 0, .int .u8 0, .int .u8 0, .int .u8 0, .int .u8 0, .int .u8 0, .int .u8 0, .int .u8 0, .int .u8 0, .int .u8 0, .int .u8 0, .int .u8 0, .int .u8 0, .int .u8 0, .int .u8 0, .int .u8 0, .int .u8 0, .int .u8 0, .int .u8 0, .int .u8 0, .int .u8 0, .int .u8 0, .int .u8 0, .int .u8 0, .int .u8 0, .int .u8 0, .int .u8 0, .int .u8 0, .int .u8 0, .int .u8 0, .int .u8 0, .int .u8 0, .int .u8 0, .int .u8 0, .int .u8 0, .int .u8 0, .int .u8 0, .int .u8 0, .int .u8 0, .int .u8 0, .int .u8 0, .int .u8 0, .int .u8 0, .int .u8 0, .int .u8 0, .int .u8 0, .int .u8 0] t frozen
      | o => o)).modify 3 fun
      | .cells _ t frozen => .cells #[.int .u8 128, .int .u8 191, .int .u8 160, .int .u8 191, .int .u8 128, .int .u8 159, .int .u8 144, .int .u8 191, .int .u8 128, .int .u8 143, .int .u8 0, .int .u8 0, .int .u8 0, .int .u8 0, .int .u8 0, .int .u8 0, .int .u8 0, .int .u8 0, .int .u8 0, .int .u8 0, .int .u8 0, .int .u8 0, .int .u8 0, .int .u8 0, .int .u8 0, .int .u8 0, .int .u8 0, .int .u8 0, .int .u8 0, .int .u8 0, .int .u8 0, .int .u8 0] t frozen
      | o => o)).modify 6 fun
      | .cells _ t frozen => .cells #[.int .u64 1, .int .u64 10, .int .u64 100, .int .u64 1000, .int .u64 10000, .int .u64 100000, .int .u64 1000000, .int .u64 10000000, .int .u64 100000000, .int .u64 1000000000, .int .u64 10000000000, .int .u64 100000000000, .int .u64 1000000000000, .int .u64 10000000000000, .int .u64 100000000000000, .int .u64 1000000000000000, .int .u64 10000000000000000, .int .u64 100000000000000000, .int .u64 1000000000000000000, .int .u64 10000000000000000000] t frozen
      | o => o)).modify 9 fun
      | .cells _ t frozen => .cells #[.int .u8 0, .int .u8 1, .int .u8 28, .int .u8 2, .int .u8 29, .int .u8 14, .int .u8 24, .int .u8 3, .int .u8 30, .int .u8 22, .int .u8 20, .int .u8 15, .int .u8 25, .int .u8 17, .int .u8 4, .int .u8 8, .int .u8 31, .int .u8 27, .int .u8 13, .int .u8 23, .int .u8 21, .int .u8 19, .int .u8 16, .int .u8 7, .int .u8 26, .int .u8 12, .int .u8 18, .int .u8 6, .int .u8 11, .int .u8 5, .int .u8 10, .int .u8 9] t frozen
      | o => o)).modify 10 fun
      | .cells _ t frozen => .cells #[.int .u8 0, .int .u8 1, .int .u8 56, .int .u8 2, .int .u8 57, .int .u8 49, .int .u8 28, .int .u8 3, .int .u8 61, .int .u8 58, .int .u8 42, .int .u8 50, .int .u8 38, .int .u8 29, .int .u8 17, .int .u8 4, .int .u8 62, .int .u8 47, .int .u8 59, .int .u8 36, .int .u8 45, .int .u8 43, .int .u8 51, .int .u8 22, .int .u8 53, .int .u8 39, .int .u8 33, .int .u8 30, .int .u8 24, .int .u8 18, .int .u8 12, .int .u8 5, .int .u8 63, .int .u8 55, .int .u8 48, .int .u8 27, .int .u8 60, .int .u8 41, .int .u8 37, .int .u8 16, .int .u8 46, .int .u8 35, .int .u8 44, .int .u8 21, .int .u8 52, .int .u8 32, .int .u8 23, .int .u8 11, .int .u8 54, .int .u8 26, .int .u8 40, .int .u8 15, .int .u8 34, .int .u8 20, .int .u8 31, .int .u8 10, .int .u8 25, .int .u8 14, .int .u8 19, .int .u8 9, .int .u8 13, .int .u8 8, .int .u8 7, .int .u8 6] t frozen
      | o => o)).modify 2 fun
      | .cells _ t frozen => .cells (Go.Pinned.utf8FirstZ.map fun (n : Nat) => Value.int .u8 (n : Int)).toArray t frozen
      | o => o)).modify 8 fun
      | .cells _ t frozen => .cells #[.iface 203 (.pointer (some ⟨17, 0, none⟩))] t frozen
      | o => o)).modify 7 fun
      | .cells _ t frozen => .cells #[.iface 203 (.pointer (some ⟨18, 0, none⟩))] t frozen
      | o => o)).modify 1 fun
      | .cells _ t frozen => .cells #[.pointer (some ⟨20, 0, none⟩)] t frozen
      | o => o)).modify 11 fun
      | .cells _ t frozen => .cells #[.pointer (some ⟨20, 0, none⟩)] t frozen
      | o => o)).push (.cells #[.string ⟨#[118, 97, 108, 117, 101, 32, 111, 117, 116, 32, 111, 102, 32, 114, 97, 110, 103, 101]⟩] 205 (0, 0)))).push (.cells #[.string ⟨#[105, 110, 118, 97, 108, 105, 100, 32, 115, 121, 110, 116, 97, 120]⟩] 205 (0, 0)))).push (.cells #[.int .u16 9, .int .u16 13, .int .u16 1, .int .u16 32, .int .u16 133, .int .u16 101, .int .u16 160, .int .u16 5760, .int .u16 5600, .int .u16 8192, .int .u16 8202, .int .u16 1, .int .u16 8232, .int .u16 8233, .int .u16 1, .int .u16 8239, .int .u16 8287, .int .u16 48, .int .u16 12288, .int .u16 12288, .int .u16 1] 164 (0, 0)))).push (.cells #[.slice (some ⟨19, 0, none⟩) 7 7, .slice none 0 0, .int .i64 2] 161 (0, 0))) }
theorem tabsIn {W : World} (h : laidMetH Tryz.prog Rows.listingBackRow.laid W) (hsh : W.ShapedOpen Tryz.prog) : TabsIn W := by
  rw [MakeChecks.laidMetH_plain _ _ _ (by kernel_rfl)] at h
  obtain ⟨ps, h1, -⟩ := h
  obtain ⟨_, _, _, _, _, _, _, _, _, _, h2, _⟩ := h1
  obtain ⟨_, _, _, _, _, _, _, _, _, _, h3, _⟩ := h2
  obtain ⟨g3, t3, cs3, u3, p3, q3, hg3, ht3, hv3, hd3, h4, _⟩ := h3
  obtain ⟨_, _, _, _, _, _, _, _, _, _, h5, _⟩ := h4
  obtain ⟨g5, t5, cs5, u5, p5, q5, hg5, ht5, hv5, hd5, h6, _⟩ := h5
  obtain ⟨g6, t6, cs6, u6, p6, q6, hg6, ht6, hv6, hd6, h7, _⟩ := h6
  obtain ⟨_, _, _, _, _, _, _, _, _, _, h8, _⟩ := h7
  obtain ⟨g8, t8, cs8, u8, p8, q8, hg8, ht8, hv8, hd8, _, _⟩ := h8
  intro x hx
  have hx' : x = (0, (· = asciiV)) ∨ x = (7, errV) ∨ x = (8, errV) ∨ x = (6, (· = pow10V)) ∨ x = (4, intV) := by simpa [tabs] using hx
  rcases hx' with rfl | rfl | rfl | rfl | rfl
  · obtain rfl := Option.some.inj ((show Tryz.prog.globalNamed "strings.asciiSpace" = some 0 by kernel_rfl).symm.trans hg8)
    obtain rfl := Option.some.inj ((show (Tryz.prog.globals[0]?).map (·.type) = some 106 by kernel_rfl).symm.trans ht8)
    have e := Lib.cells_of_tab (k := .u8) (zs := Lib.asciiSpaceTab) (show Tryz.prog.underlying 106 = some (.array 256 5) by kernel_rfl) (show Tryz.prog.underlying 5 = some (.int .u8) by kernel_rfl) (by kernel_rfl) (by kernel_rfl) hd8
    obtain ⟨t, fr, hh⟩ := var_block (by kernel_rfl) hv8
    refine ⟨asciiV, t, fr, rfl, ?_⟩
    have e2 : cs8 = asciiV.toArray := by
      apply Array.ext'
      rw [e]
      kernel_rfl
    rw [← e2]; exact hh
  · obtain rfl := Option.some.inj ((show Tryz.prog.globalNamed "strconv.ErrSyntax" = some 7 by kernel_rfl).symm.trans hg6)
    obtain rfl := Option.some.inj ((show (Tryz.prog.globals[7]?).map (·.type) = some 50 by kernel_rfl).symm.trans ht6)
    obtain ⟨u, v, e⟩ := err_of Tryz.underlying50 hd6
    obtain ⟨t, fr, hh⟩ := var_block (by kernel_rfl) hv6
    exact ⟨cs6.toList, t, fr, ⟨u, v, e⟩, by simpa using hh⟩
  · obtain rfl := Option.some.inj ((show Tryz.prog.globalNamed "strconv.ErrRange" = some 8 by kernel_rfl).symm.trans hg5)
    obtain rfl := Option.some.inj ((show (Tryz.prog.globals[8]?).map (·.type) = some 50 by kernel_rfl).symm.trans ht5)
    obtain ⟨u, v, e⟩ := err_of Tryz.underlying50 hd5
    obtain ⟨t, fr, hh⟩ := var_block (by kernel_rfl) hv5
    exact ⟨cs5.toList, t, fr, ⟨u, v, e⟩, by simpa using hh⟩
  · obtain rfl := Option.some.inj ((show Tryz.prog.globalNamed "internal/strconv.uint64pow10" = some 6 by kernel_rfl).symm.trans hg3)
    obtain rfl := Option.some.inj ((show (Tryz.prog.globals[6]?).map (·.type) = some 184 by kernel_rfl).symm.trans ht3)
    have e := Lib.cells_of_tab (k := .u64) (zs := Lib.pow10Tab) (show Tryz.prog.underlying 184 = some (.array 20 150) by kernel_rfl) (show Tryz.prog.underlying 150 = some (.int .u64) by kernel_rfl) (by kernel_rfl) (by kernel_rfl) hd3
    obtain ⟨t, fr, hh⟩ := var_block (by kernel_rfl) hv3
    refine ⟨pow10V, t, fr, rfl, ?_⟩
    have e2 : cs3 = pow10V.toArray := by
      apply Array.ext'
      rw [e]
      kernel_rfl
    rw [← e2]; exact hh
  · exact maxLen_in hsh
end Go.Proofs.YtddmcmkhjkleoaaGreatDoor
end

section
namespace Go.Proofs.YtddmcmkhjkleoaaGreatDoor
open Go.RowKit

theorem uVal : Tryz.prog.underlying 55 = some (.struct (Tryz.prog.fieldsOf 55)) := by kernel_rfl
theorem uIns : Tryz.prog.underlying 41 = some (.struct (Tryz.prog.fieldsOf 41)) := by kernel_rfl
theorem run_eqIn_val (w : World) (a b : Int) : (Op.equalIn 10000 55 (.agg #[.int .i64 a, .int .i64 b]) (.agg #[.int .i64 a, .int .i64 b])).run Tryz.prog w = .ok true w := by
  rw [show (10000 : Nat) = 9999 + 1 from rfl, run_equalIn_struct w 9999 55 _ _ uVal (by kernel_rfl), eqFields_of w 9999 _ _ _ [(3, 0, a == a), (3, 1, b == b)] (by kernel_rfl) fun k hk => ?_]
  · congr 1
    simp
  · simp only [List.mem_cons, List.not_mem_nil, or_false] at hk
    rcases hk with rfl | rfl
    · exact ⟨_, _, part_int _ _ _ w rfl, part_int _ _ _ w rfl, eq_int _ w _ _⟩
    · exact ⟨_, _, part_int _ _ _ w rfl, part_int _ _ _ w rfl, eq_int _ w _ _⟩
theorem run_eqIn_ins (w : World) (o a b c l : Int) : (Op.equalIn 10000 41 (.agg #[.int .i64 o, .int .i64 a, .int .i64 b, .int .i64 c, .int .i64 l]) (.agg #[.int .i64 o, .int .i64 a, .int .i64 b, .int .i64 c, .int .i64 l])).run Tryz.prog w = .ok true w := by
  rw [show (10000 : Nat) = 9999 + 1 from rfl, run_equalIn_struct w 9999 41 _ _ uIns (by kernel_rfl), eqFields_of w 9999 _ _ _ [(3, 0, o == o), (3, 1, a == a), (3, 2, b == b), (3, 3, c == c), (3, 4, l == l)] (by kernel_rfl) fun k hk => ?_]
  · congr 1
    simp
  · simp only [List.mem_cons, List.not_mem_nil, or_false] at hk
    rcases hk with rfl | rfl | rfl | rfl | rfl
    all_goals exact ⟨_, _, part_int _ _ _ w rfl, part_int _ _ _ w rfl, eq_int _ w _ _⟩
theorem bval_ne (a b : Int) : BinR Tryz.prog .neq 55 (.agg #[.int .i64 a, .int .i64 b]) (.agg #[.int .i64 a, .int .i64 b]) (.bool false) := by
  intro x y w
  have h := run_eqIn_val w a b
  have hg : (eqGuard .neq 55 x y (.agg #[.int .i64 a, .int .i64 b]) (.agg #[.int .i64 a, .int .i64 b])).run Tryz.prog w = .ok () w := by kernel_rfl
  rw [Sem.run_bind, hg]
  simp only [Result.andThen_ok]
  show (do pure (.bool (!(← Op.equal 55 _ _))) : Sem Value).run Tryz.prog w = _
  unfold Op.equal
  simp only [Sem.run_bind]
  rw [show Op.maxDepth = 10000 from rfl, h]
  rfl
theorem bins_ne (o a b c l : Int) : BinR Tryz.prog .neq 41 (.agg #[.int .i64 o, .int .i64 a, .int .i64 b, .int .i64 c, .int .i64 l]) (.agg #[.int .i64 o, .int .i64 a, .int .i64 b, .int .i64 c, .int .i64 l]) (.bool false) := by
  intro x y w
  have h := run_eqIn_ins w o a b c l
  have hg : (eqGuard .neq 41 x y (.agg #[.int .i64 o, .int .i64 a, .int .i64 b, .int .i64 c, .int .i64 l]) (.agg #[.int .i64 o, .int .i64 a, .int .i64 b, .int .i64 c, .int .i64 l])).run Tryz.prog w = .ok () w := by kernel_rfl
  rw [Sem.run_bind, hg]
  simp only [Result.andThen_ok]
  show (do pure (.bool (!(← Op.equal 41 _ _))) : Sem Value).run Tryz.prog w = _
  unfold Op.equal
  simp only [Sem.run_bind]
  rw [show Op.maxDepth = 10000 from rfl, h]
  rfl
theorem sameints_fn (l : List Int) : FnD Tryz.prog 23 [.d (isD l), .d (isD l)] (boolT true) := by
  have hlm : (l.map iD).length = l.length := List.length_map _
  have hb : (((l.map iD).length : Int) != ((l.map iD).length : Int)) = false := by simp
  refine FnD.of1 (n := 26) [] fax_ok Tryz.func23 rfl rfl rfl (by rfl) (by kernel_rfl) (by intro _; rfl) fun Γ hA hbA => ?_
  (repeat ((conv => whnf); (first | refine exR ?_ | refine tF ?_)))
  refine ev_loop [] fax_ok hA (by kernel_rfl) (fun i : Nat => i ≤ l.length) (fun i => [(0, .d (isD l)), (1, .d (isD l)), (5, intT i)]) (fun _ => []) (fun i => l.length - i) 0 (Nat.zero_le _) fiE fiO ?_
  rintro i hi hb0 -
  have hlen : (l.map iD).length ≤ 9223372036854775807 := hb0.1
  by_cases h : i < l.length
  · have hx : (l.map iD)[i]? = some (iD l[i]) := by rw [List.getElem?_map, List.getElem?_eq_getElem h, Option.map_some]
    have hc : (l[i] != l[i]) = false := by simp
    generalize l[i] = n at *
    (repeat ((conv => whnf); (first | with_reducible refine exE _ (w_inc (by omega)) ?_ | refine exR ?_ | refine tT ?_ | refine tF ?_ | refine oB ?_ | refine exI _ rfl (by assumption) ?_)))
    exact ⟨i + 1, by omega, by omega, fiE, fiO⟩
  · (repeat ((conv => whnf); (first | refine exR ?_ | refine tF ?_)))
    exact ⟨eN, rS, fiO⟩
theorem samevals_fn (l : List (Int × Int)) : FnD Tryz.prog 22 [.d (vasD l), .d (vasD l)] (boolT true) := by
  have hlm : (l.map vaD).length = l.length := List.length_map _
  have hb : (((l.map vaD).length : Int) != ((l.map vaD).length : Int)) = false := by simp
  refine FnD.of1 (n := 26) [] fax_ok Tryz.func22 rfl rfl rfl (by rfl) (by kernel_rfl) (by intro _; rfl) fun Γ hA hbA => ?_
  (repeat ((conv => whnf); (first | refine exR ?_ | refine tF ?_)))
  refine ev_loop [] fax_ok hA (by kernel_rfl) (fun i : Nat => i ≤ l.length) (fun i => [(0, .d (vasD l)), (1, .d (vasD l)), (5, intT i)]) (fun _ => []) (fun i => l.length - i) 0 (Nat.zero_le _) fiE fiO ?_
  rintro i hi hb0 -
  have hlen : (l.map vaD).length ≤ 9223372036854775807 := hb0.1
  by_cases h : i < l.length
  · have hx : (l.map vaD)[i]? = some (vaD l[i]) := by rw [List.getElem?_map, List.getElem?_eq_getElem h, Option.map_some]
    have hc := bval_ne l[i].1 l[i].2
    generalize l[i] = v at *
    obtain ⟨v1, v2⟩ := v
    (repeat ((conv => whnf); (first | with_reducible refine exE _ (w_inc (by omega)) ?_ | refine exR ?_ | refine tT ?_ | refine tF ?_ | refine oB ?_ | refine And.intro rfl ?_ | refine exBR _ (by assumption) ?_ | refine exI _ rfl (by assumption) ?_)))
    exact ⟨i + 1, by omega, by omega, fiE, fiO⟩
  · (repeat ((conv => whnf); (first | refine exR ?_ | refine tF ?_)))
    exact ⟨eN, rS, fiO⟩
set_option maxRecDepth 100000 in
set_option maxHeartbeats 1000000 in
theorem sameprog_fn (p : PrR) : FnD Tryz.prog 9 [.d (prD p), .d (prD p)] (boolT true) := by
  obtain ⟨fs, cs, ts⟩ := p
  have hV := samevals_fn cs
  have hI := sameints_fn
  have e1 : (fs.map fnD).length = fs.length := List.length_map _
  have e3 : (ts.map strD).length = ts.length := List.length_map _
  show FnD _ _ [.d (.agg [fnsD fs, vasD cs, txD ts]), .d (.agg [fnsD fs, vasD cs, txD ts])] _
  have b1 : (((fs.map fnD).length : Int) != ((fs.map fnD).length : Int)) = false := by simp
  have b3 : (((ts.map strD).length : Int) != ((ts.map strD).length : Int)) = false := by simp
  refine FnD.of1 (n := 123) [1002, 1003] fax_ok Tryz.func9 rfl rfl rfl (by rfl) (by kernel_rfl) (by intro _; rfl) fun Γ hA hbA => ?_
  (repeat ((conv => whnf); (first | refine exR ?_ | refine gd (enters_of Tryz.func22 rfl rfl) hV ?_ | refine tF ?_ | refine uT ?_)))
  refine ev_loop [1002, 1003] fax_ok hA (by kernel_rfl) (fun i : Nat => i ≤ ts.length) (fun i => [(2, .pi [fnsD fs, vasD cs, txD ts]), (3, .pi [fnsD fs, vasD cs, txD ts]), (5, intT i)]) (fun _ => []) (fun i => ts.length - i) 0 (Nat.zero_le _) fiE fiO ?_
  rintro i hi hb0 -
  have hlen : (ts.map strD).length ≤ 9223372036854775807 := hb0.1.2.2.1
  by_cases h : i < ts.length
  · have hx : (ts.map strD)[i]? = some (strD ts[i]) := by rw [List.getElem?_map, List.getElem?_eq_getElem h, Option.map_some]
    have hc : (!(ts[i] == ts[i])) = false := by simp
    generalize ts[i] = t at *
    (repeat ((conv => whnf); (first | with_reducible refine exE _ (w_inc (by omega)) ?_ | refine exR ?_ | refine tT ?_ | refine tF ?_ | refine oB ?_ | refine exI _ rfl (by assumption) ?_)))
    exact ⟨i + 1, by omega, by omega, fiE, fiO⟩
  · (repeat ((conv => whnf); (first | refine exR ?_ | refine tF ?_)))
    refine ev_loop [1002, 1003] fax_ok hA (by kernel_rfl) (fun i : Nat => i ≤ fs.length) (fun i => [(2, .pi [fnsD fs, vasD cs, txD ts]), (3, .pi [fnsD fs, vasD cs, txD ts]), (6, intT i)]) (fun _ => []) (fun i => fs.length - i) 0 (Nat.zero_le _) fiE fiO ?_
    rintro i hi hb0 -
    have hlen2 : (fs.map fnD).length ≤ 9223372036854775807 := hb0.1.1
    by_cases h : i < fs.length
    · have hx : (fs.map fnD)[i]? = some (fnD fs[i]) := by rw [List.getElem?_map, List.getElem?_eq_getElem h, Option.map_some]
      generalize fs[i] = f at *
      obtain ⟨a, b, c, d, e⟩ := f
      have q1 : (a != a) = false := by simp
      have q2 : (b != b) = false := by simp
      have q3 : (c != c) = false := by simp
      have hId := hI d
      have q5 : (((e.map inD).length : Int) != ((e.map inD).length : Int)) = false := by simp
      have e5 : (e.map inD).length = e.length := List.length_map _
      (repeat ((conv => whnf); (first | refine exR ?_ | refine gd (enters_of Tryz.func23 rfl rfl) hId ?_ | refine tT ?_ | refine tF ?_ | refine uT ?_ | refine oB ?_ | refine And.intro rfl ?_ | refine exI _ rfl (by assumption) ?_)))
      refine ev_loop [1002, 1003] fax_ok hA (by kernel_rfl) (fun k : Nat => k ≤ e.length) (fun k => [(2, .pi [fnsD fs, vasD cs, txD ts]), (3, .pi [fnsD fs, vasD cs, txD ts]), (6, intT i), (7, .ref 7 0), (8, .ref 8 0), (9, intT k)]) (fun _ => [(7, .cells 39 [.d (iD a), .d (iD b), .d (bD c), .d (isD d), .d (codeD e)]), (8, .cells 39 [.d (iD a), .d (iD b), .d (bD c), .d (isD d), .d (codeD e)])]) (fun k => e.length - k) 0 (Nat.zero_le _) fiE fiO ?_
      rintro k hk hb1 hbO1
      have hlen5 : (e.map inD).length ≤ 9223372036854775807 := hbO1.1.2.2.2.2.1
      by_cases h2 : k < e.length
      · have hx2 : (e.map inD)[k]? = some (inD e[k]) := by rw [List.getElem?_map, List.getElem?_eq_getElem h2, Option.map_some]
        have hc := bins_ne e[k].op e[k].a e[k].b e[k].c e[k].line
        generalize e[k] = z at *
        (repeat ((conv => whnf); (first | with_reducible refine exE _ (w_inc (by omega)) ?_ | refine exR ?_ | refine tT ?_ | refine tF ?_ | refine oB ?_ | refine And.intro rfl ?_ | refine exBR _ (by assumption) ?_ | refine exI _ rfl (by assumption) ?_)))
        exact ⟨k + 1, by omega, by omega, fiE, fiO⟩
      · (repeat ((conv => whnf); (first | with_reducible refine exE _ (w_inc (by omega)) ?_ | refine exR ?_ | refine tF ?_)))
        exact ⟨i + 1, by omega, by omega, fiE, fiO⟩
    · (repeat ((conv => whnf); (first | refine exR ?_ | refine tF ?_)))
      exact ⟨eN, rS, fiO⟩
end Go.Proofs.YtddmcmkhjkleoaaGreatDoor
end

section
namespace Go.Proofs.YtddmcmkhjkleoaaGreatDoor
open Go.RowKit

/-- Some blocks lie as they lay. -/
structure KeepS (Ks : Nat → Prop) (W W' : World) : Prop where
  size : W.heap.size ≤ W'.heap.size
  same : ∀ k, Ks k → W'.heap[k]? = W.heap[k]?
theorem KeepS.refl (Ks : Nat → Prop) (W : World) : KeepS Ks W W := ⟨Nat.le_refl _, fun _ _ => rfl⟩
theorem KeepS.trans {Ks : Nat → Prop} {A B C : World} (h : KeepS Ks A B) (k : KeepS Ks B C) : KeepS Ks A C := ⟨Nat.le_trans h.size k.size, fun i hi => (k.same i hi).trans (h.same i hi)⟩
theorem KeepS.putObj {Ks : Nat → Prop} {W : World} {l : Nat} (o : Obj) (h : ¬ Ks l) : KeepS Ks W (W.putObj l o) := ⟨by simp, fun k hk => World.putObj_heap_other fun e => h (e ▸ hk)⟩
theorem KeepS.alloc {Ks : Nat → Prop} {W : World} (o : Obj) (h : ∀ k, Ks k → k < W.heap.size) : KeepS Ks W (W.alloc o) := ⟨by simp, fun k hk => Below.heap_alloc W o k (h k hk)⟩
/-- An iterator whose only store goes into the box Bs: for whatever abides by that. -/
def SeqBox {α : Type} (F : Fence) (n : Nat) (P : Program) (g : Nat) (lb : Array Value) (encs : α → Array Value) (Ks : Nat → Prop) (Bs : Nat) (S Sp : List α → Prop) (w : World) : Prop :=
  ∀ (l : Nat) (J Jx : List α → World → Prop) (W : World), KeepS Ks w W → AbidesFrom W.heap.size J → (∀ pre W1 v, J pre W1 → J pre (W1.setCell ⟨Bs, 0, none⟩ v)) →
    (∀ pre x W1, J pre W1 → Sp (pre ++ [x]) → YieldAt F (n - 1) P l (encs x) W1 fun e W' => (e = .returned (.bool true) ∧ J (pre ++ [x]) W' ∧ KeepS Ks W1 W') ∨ (e = .returned (.bool false) ∧ Jx (pre ++ [x]) W')) →
    J [] W →
    CallsIn F n P g (#[.func (.yield l) #[] #[]] ++ lb) W fun e W' => (∃ v, e = .returned v) ∧ ((∃ xs, S xs ∧ J xs W') ∨ (∃ pre, Sp pre ∧ Jx pre W'))
section
variable {F : Fence} {n : Nat} {P : Program}
/-- How a round may be left. -/
def boxPost {α : Type} (Ks : Nat → Prop) (B : Nat) (I Ix : List α → World → Prop) (xs : List α) (W : World) : Exit → Act → World → Prop
  | .normal, _, W' => KeepsFrom B W W' ∧ KeepS Ks W W' ∧ I xs W'
  | .ret, _, W' => KeepsFrom B W W' ∧ Ix xs W'
  | _, _, _ => False
theorem range_box {α : Type} {g : Operand} {ps : Array Tmp} {assign body : Code} {Q : Exit → Act → World → Prop} {a : Act} {w : World} (hro : F.round = none) (h1 : 1 ≤ n) {gf : Nat} {lb : Array Value} (hg : a.eval g = .func (.func gf) #[] lb) (hFg : F.fn gf)
    (eg : ∀ args w, (callFunc gf args).run P w = .ok (.enter gf args) w) {encs : α → Array Value} {Ks : Nat → Prop} (hKs : ∀ k, Ks k → k < w.heap.size) {Bs : Nat} (hBs : Bs < w.heap.size) {S Sp : List α → Prop} (hseq : SeqBox F (n - 1) P gf lb encs Ks Bs S Sp w) (hps : ∀ x, (encs x).size = ps.size)
    (I Ix : List α → World → Prop) (hI : OwnFrom w.heap.size I) (hIx : OwnFrom w.heap.size Ix) (hIs : ∀ pre W v, I pre W → I pre (W.setCell ⟨Bs, 0, none⟩ v)) (h0 : I [] w) (A1 : α → Act)
    (hassign : ∀ (l : Nat) (x : α) (W : World) (K : Act → World → Prop), K (A1 x) W → assign.wpIn (F.inRound l) (n - 1 - 1) P (Exit.then K (fun _ _ _ => False)) { tmps := (ps.zip (encs x)).foldl (fun t (p, v) => t.setIfInBounds p v) a.tmps, defers := [] } W)
    (hbody : ∀ (l : Nat) (pre : List α) (x : α) (W : World), w.heap.size ≤ l → I pre W → Sp (pre ++ [x]) → body.wpIn (F.inRound l) (n - 1 - 1) P (boxPost Ks w.heap.size I Ix (pre ++ [x]) W) (A1 x) W)
    (hdone : ∀ (D : Nat) (xs : List α) (W : World), w.heap.size ≤ D → S xs → I xs W → W.heap[D]? = some (.deferred (some [])) → Q .normal { a with defers := { target := .collected D, args := #[] } :: a.defers } W)
    (hstop : ∀ (D : Nat) (pre : List α) (W : World), w.heap.size ≤ D → Sp pre → Ix pre W → W.heap[D]? = some (.deferred (some [])) → Code.ret.wpIn F n P Q { a with defers := { target := .collected D, args := #[] } :: a.defers } W) :
    (Code.rangeFunc g ps assign body).wpIn F n P Q a w := by
  refine wpIn_rangeFunc ?_
  intro fn hfn
  rw [hro]
  obtain ⟨rec, hrec⟩ : ∃ rec : LoopState → Option Code → Loop, rec = fun st pe => { state := st, pending := pe, fn, tmps := a.tmps, params := ps, assign, body, defers := w.heap.size } := ⟨_, rfl⟩
  obtain ⟨W1, hW1⟩ : ∃ W1, (w.alloc (.deferred (some []))).alloc (.loop (rec .ready none)) = W1 := ⟨_, rfl⟩
  have hL1 : W1.heap[w.heap.size + 1]? = some (.loop (rec .ready none)) := by
    rw [← hW1]; have := World.alloc_heap_new (w.alloc (.deferred (some []))) (.loop (rec .ready none)); rwa [World.size_alloc] at this
  have hK1 : W1.heap[w.heap.size]? = some (.deferred (some [])) := by
    rw [← hW1]; exact (Below.heap_alloc _ _ _ (by simp)).trans (World.alloc_heap_new w _)
  have hI1 : I [] W1 := by rw [← hW1]; exact hI.alloc _ (hI.alloc _ h0)
  have hS1 : KeepS Ks w W1 := by rw [← hW1]; exact (KeepS.alloc _ hKs).trans (KeepS.alloc _ fun k hk => by have := hKs k hk; simp; omega)
  have hnl : ¬ Ks (w.heap.size + 1) := fun h => by have := hKs _ h; omega
  refine ⟨w.heap.size + 1, [{ target := .collected w.heap.size, args := #[] }], W1, { target := .fn (.func gf) lb, args := #[.func (.yield (w.heap.size + 1)) #[] #[]] }, W1, gf,
    #[.func (.yield (w.heap.size + 1)) #[] #[]] ++ lb, W1, ?_, ?_, ?_, ?_, fun _ => h1, ?_⟩
  · rw [← hW1, hrec]; exact run_enterLoop_outer _ _ _ _ _
  · simp only [resolve, hg]
    simp [go_sem]
  · intro f' hf'; simp [Target.leads] at hf'; subst hf'; exact hFg
  · simp [invoke, go_sem, eg]
  · have hnw : ∀ {A B : World} {row : Option Nat}, (∀ r, row = some r → W1.heap.size ≤ r ∧ ∃ o : Obj, A.heap[r]? = some o ∧ o.isWalk = true) → (∀ r, row = some r → w.heap.size ≤ r ∧ ∃ o : Obj, A.heap[r]? = some o ∧ o.isCells = false) :=
      fun hr r e => by obtain ⟨hB, o, ho, hw⟩ := hr r e; exact ⟨by rw [← hW1] at hB; simp at hB; omega, o, ho, Obj.not_cells_of_walk hw⟩
    have hset : ∀ (W : World) (v : Value) (k : Nat) (o : Obj), w.heap.size ≤ k → W.heap[k]? = some o → (W.setCell ⟨Bs, 0, none⟩ v).heap[k]? = some o := fun W v k o hk ho => (Below.heap_setCell W _ v k (fun e => by have : k = Bs := e; omega)).trans ho
    refine (hseq (w.heap.size + 1)
      (fun pre W => I pre W ∧ W.heap[w.heap.size + 1]? = some (.loop (rec .ready none)) ∧ W.heap[w.heap.size]? = some (.deferred (some [])))
      (fun pre W => Ix pre W ∧ W.heap[w.heap.size + 1]? = some (.loop (rec .done (some .ret))) ∧ W.heap[w.heap.size]? = some (.deferred (some [])))
      W1 hS1
      (fun s A B row hs hg' hr => ⟨hI s A B row hs.1 hg' (hnw (B := B) hr), (grownBy_keeps hg' (fun r e => (hr r e).2) hs.2.1 rfl).trans hs.2.1, (grownBy_keeps hg' (fun r e => (hr r e).2) hs.2.2 rfl).trans hs.2.2⟩)
      (fun pre W v hs => ⟨hIs pre W v hs.1, hset W v _ _ (by omega) hs.2.1, hset W v _ _ (Nat.le_refl _) hs.2.2⟩)
      ?_ ⟨hI1, hL1, hK1⟩).mono ?_
    · rintro pre x W ⟨hi, hl, hk⟩ hsp
      have hlt : w.heap.size + 1 < W.heap.size := (Array.getElem?_eq_some_iff.1 hl).1
      have hy := run_yield (P := P) (args := encs x) hl (by rw [hrec]; exact hps x)
      rw [hrec] at hy
      refine ⟨fn, _, assign, body, hy, roundIn_of_wpIn hfn (hassign _ x W _ ?_)⟩
      clear hy
      refine ⟨_, run_beginRound hl (by rw [hrec]), ?_⟩
      have hl2 : (W.putObj (w.heap.size + 1) (.loop { rec .ready none with state := .busy })).heap[w.heap.size + 1]? = some (.loop { rec .ready none with state := .busy }) := World.putObj_heap_same hlt
      have hk2 : (W.putObj (w.heap.size + 1) (.loop { rec .ready none with state := .busy })).heap[w.heap.size]? = some (.deferred (some [])) := (World.putObj_heap_other (by omega)).trans hk
      have hw2 : KeepS Ks W (W.putObj (w.heap.size + 1) (.loop { rec .ready none with state := .busy })) := KeepS.putObj _ hnl
      refine wpIn_mono (hbody _ pre x _ (by omega) (hI.putObj _ hi (by omega) hl rfl) hsp) ?_
      have fin : ∀ (jump : Option Code) (W3 : World), KeepsFrom w.heap.size (W.putObj (w.heap.size + 1) (.loop { rec .ready none with state := .busy })) W3 →
          (Instr.endRound (w.heap.size + 1) jump).run P W3 = .ok (.bool jump.isNone) (W3.putObj (w.heap.size + 1) (.loop (rec (if jump.isNone then .ready else .done) jump))) ∧
          W3.heap[w.heap.size + 1]? = some (.loop { rec .ready none with state := .busy }) ∧
          (W3.putObj (w.heap.size + 1) (.loop (rec (if jump.isNone then .ready else .done) jump))).heap[w.heap.size + 1]? = some (.loop (rec (if jump.isNone then .ready else .done) jump)) ∧
          (W3.putObj (w.heap.size + 1) (.loop (rec (if jump.isNone then .ready else .done) jump))).heap[w.heap.size]? = some (.deferred (some [])) := fun jump W3 hk3 => by
        have hl3 := hk3.same _ _ (by omega) hl2 rfl
        have := run_endRound (P := P) jump hl3
        rw [hrec] at this ⊢
        exact ⟨this, by rw [hrec] at hl3; exact hl3, World.putObj_heap_same (Array.getElem?_eq_some_iff.1 hl3).1, (World.putObj_heap_other (by omega)).trans (hk3.same _ _ (Nat.le_refl _) hk2 rfl)⟩
      rintro e a3 W3 hp
      cases e with
      | normal =>
        obtain ⟨hk3, hkp3, hi3⟩ := hp
        obtain ⟨hr, hl3, hl4, hk4⟩ := fin none W3 hk3
        exact ⟨_, _, hr, .inl ⟨rfl, ⟨hI.putObj _ hi3 (by omega) hl3 rfl, hl4, hk4⟩, (hw2.trans hkp3).trans (KeepS.putObj _ hnl)⟩⟩
      | ret =>
        obtain ⟨hk3, hi3⟩ := hp
        obtain ⟨hr, hl3, hl4, hk4⟩ := fin (some .ret) W3 hk3
        exact ⟨_, _, hr, .inr ⟨rfl, hIx.putObj _ hi3 (by omega) hl3 rfl, hl4, hk4⟩⟩
      | exit id => exact hp.elim
      | goto t => exact hp.elim
      | panic ch => exact hp.elim
      | outgrown => exact hp.elim
    · rintro e W2 ⟨⟨v, rfl⟩, (⟨xs, hS, hi, hl, hk⟩ | ⟨pre, hSp, hi, hl, hk⟩)⟩
      · exact ⟨none, _, by have := run_endLoop (P := P) hl (by rw [hrec]; simp); rw [hrec] at this; exact this, hdone _ xs _ (Nat.le_refl _) hS (hI.putObj _ hi (by omega) hl rfl) ((World.putObj_heap_other (by omega)).trans hk)⟩
      · exact ⟨some .ret, _, by have := run_endLoop (P := P) hl (by rw [hrec]; simp); rw [hrec] at this; exact this, hstop _ pre _ (Nat.le_refl _) hSp (hIx.putObj _ hi (by omega) hl rfl) ((World.putObj_heap_other (by omega)).trans hk)⟩
end
end Go.Proofs.YtddmcmkhjkleoaaGreatDoor
end
