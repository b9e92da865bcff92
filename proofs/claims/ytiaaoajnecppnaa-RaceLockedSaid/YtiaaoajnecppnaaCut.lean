/-
  'l[i:]' and 'l[i:j]' in a walk, the new pointer under a name.
-/
import Derived.WalkKit
import Derived.OwnWalkIn
import Derived.TacticsInMore
namespace Go.Proofs.Ytiaaoajnecppnaa
open Go.RowKit

section
variable {P : Program} {a : Act} {o : Oper} {w : World}
theorem slice_low_run (x lo : Operand) (t e : TypeId) (i : TypeInfo) (size : Nat) (ho : o.op = Op.slice t x (some lo) none none) (ht : P.underlying t = some (.slice e)) (hi : P.info? e = some i) (hs : i.size = size)
    (p q : Option Addr) (n cap l : Nat) (k : IntKind) (hx : a.eval x = .slice p n cap) (hl : a.eval lo = .int k l) (h1 : l ≤ n) (hq : (if cap = l then p else p.map (·.add (l * size))) = q) :
    (execOp a.eval o).run P w = .ok (.value (.slice q (n - l) (cap - l))) w := by
  subst hs
  have hm : ¬ ((n : Int) < (l : Int)) := by omega
  unfold execOp
  simp only [ho]
  have hr : (Instr.sliceAt t (a.eval x) (some (a.eval lo)) none none).run P w = .ok (.slice q (n - l) (cap - l)) w := by
    rw [hx, hl, ← hq]
    simp [Instr.sliceAt, run_underlying ht, Instr.slice, Instr.sliceBounds, Instr.sliceBound, asIntOf, h1, sizeOf, typeInfo, hi]
  simp only [Option.map_some, Option.map_none, Sem.run_bind, hr, Result.andThen_ok, Sem.run_pure]
theorem slice_both_run (x lo hi' : Operand) (t e : TypeId) (i : TypeInfo) (size : Nat) (ho : o.op = Op.slice t x (some lo) (some hi') none) (ht : P.underlying t = some (.slice e)) (hi : P.info? e = some i) (hs : i.size = size)
    (p q : Option Addr) (n cap l m : Nat) (k k' : IntKind) (hx : a.eval x = .slice p n cap) (hl : a.eval lo = .int k l) (hh : a.eval hi' = .int k' m) (h1 : l ≤ m) (h2 : m ≤ cap) (hq : (if cap = l then p else p.map (·.add (l * size))) = q) :
    (execOp a.eval o).run P w = .ok (.value (.slice q (m - l) (cap - l))) w := by
  subst hs
  unfold execOp
  simp only [ho]
  have hr : (Instr.sliceAt t (a.eval x) (some (a.eval lo)) (some (a.eval hi')) none).run P w = .ok (.slice q (m - l) (cap - l)) w := by
    rw [hx, hl, hh, ← hq]
    simp [Instr.sliceAt, run_underlying ht, Instr.slice, Instr.sliceBounds, Instr.sliceBound, asIntOf, h1, h2, sizeOf, typeInfo, hi]
  simp only [Option.map_some, Option.map_none, Sem.run_bind, hr, Result.andThen_ok, Sem.run_pure]

variable {ops : Array Oper} {Q : Exit → Act → World → Prop} {rest : List Oper}
theorem wpList_slice_l (hg : o.guard = none) (x lo : Operand) (t : TypeId) (ho : o.op = Op.slice t x (some lo) none none) (e : TypeId) (i : TypeInfo) (size : Nat) (ht : P.underlying t = some (.slice e)) (hi : P.info? e = some i) (hs : i.size = size)
    (p q : Option Addr) (n cap l : Nat) (k : IntKind) (hx : a.eval x = .slice p n cap) (hl : a.eval lo = .int k l) (h1 : l ≤ n) (hq : (if cap = l then p else p.map (·.add (l * size))) = q)
    (m c' : Nat) (hm : n - l = m) (hc : cap - l = c') (h : wpList P ops Q rest (a.put o.dst (.slice q m c')) w) : wpList P ops Q (o :: rest) a w := by
  refine wpList_plain hg fun K hK => ?_
  subst hm hc
  unfold Oper.wp
  rw [slice_low_run x lo t e i size ho ht hi hs p q n cap l k hx hl h1 hq]
  exact hK _ _ h
theorem wpList_slice_lh (hg : o.guard = none) (x lo hi' : Operand) (t : TypeId) (ho : o.op = Op.slice t x (some lo) (some hi') none) (e : TypeId) (i : TypeInfo) (size : Nat) (ht : P.underlying t = some (.slice e)) (hi : P.info? e = some i) (hs : i.size = size)
    (p q : Option Addr) (n cap l m : Nat) (k k' : IntKind) (hx : a.eval x = .slice p n cap) (hl : a.eval lo = .int k l) (hh : a.eval hi' = .int k' m) (h1 : l ≤ m) (h2 : m ≤ cap) (hq : (if cap = l then p else p.map (·.add (l * size))) = q)
    (m' c' : Nat) (hm : m - l = m') (hc : cap - l = c') (h : wpList P ops Q rest (a.put o.dst (.slice q m' c')) w) : wpList P ops Q (o :: rest) a w := by
  refine wpList_plain hg fun K hK => ?_
  subst hm hc
  unfold Oper.wp
  rw [slice_both_run x lo hi' t e i size ho ht hi hs p q n cap l m k k' hx hl hh h1 h2 hq]
  exact hK _ _ h
variable {F : Fence} {N : Nat}
theorem wpListIn_slice_l (hg : o.guard = none) (x lo : Operand) (t : TypeId) (ho : o.op = Op.slice t x (some lo) none none) (e : TypeId) (i : TypeInfo) (size : Nat) (ht : P.underlying t = some (.slice e)) (hi : P.info? e = some i) (hs : i.size = size)
    (p q : Option Addr) (n cap l : Nat) (k : IntKind) (hx : a.eval x = .slice p n cap) (hl : a.eval lo = .int k l) (h1 : l ≤ n) (hq : (if cap = l then p else p.map (·.add (l * size))) = q)
    (m c' : Nat) (hm : n - l = m) (hc : cap - l = c') (h : wpListIn F N P ops Q rest (a.put o.dst (.slice q m c')) w) : wpListIn F N P ops Q (o :: rest) a w := by
  refine wpListIn_plain hg fun K hK => ?_
  subst hm hc
  unfold Oper.wpIn
  refine ⟨fun f hf => by simp [Oper.about, ho] at hf, ?_⟩
  rw [Oper.semAt_plain F _ _ (by rw [ho]; intro c hc'; cases hc')]
  rw [slice_low_run x lo t e i size ho ht hi hs p q n cap l k hx hl h1 hq]
  exact hK _ _ h
end
end Go.Proofs.Ytiaaoajnecppnaa
