/-
  Ghost values: strings as lists of bytes; parts of slices; numbers of other kinds; arrays by value; a pointer to what never turns.
-/
import Derived.Test.YtenlhfmchhljdaaDoorGp
import Derived.Lib.Strings
import Derived.Lib.PathFns
namespace Go.Proofs.YtenlhfmchhljdaaDoor
open Go.RowKit

abbrev strV (l : List UInt8) : Value := .string ⟨l.toArray⟩
abbrev strD (l : List UInt8) : D := .v (strV l)
abbrev strT (l : List UInt8) : T := .d (.v (strV l))
abbrev intT (n : Int) : T := .d (.v (.int .i64 n))
abbrev u8T (b : UInt8) : T := .d (.v (.int .u8 (b.toNat : Int)))
abbrev boolT (b : Bool) : T := .d (.v (.bool b))
theorem str_size (l : List UInt8) : (⟨l.toArray⟩ : ByteArray).size = l.length := by simp [ByteArray.size]
theorem str_toList (l : List UInt8) : (⟨l.toArray⟩ : ByteArray).toList = l := by rw [Lib.toList_data]
theorem str_get (l : List UInt8) (i : Nat) : (⟨l.toArray⟩ : ByteArray)[i]? = l[i]? := by
  by_cases h : i < l.length
  · have h2 : i < (⟨l.toArray⟩ : ByteArray).size := by rw [str_size]; exact h
    rw [getElem?_pos _ i h2, List.getElem?_eq_getElem h]
    rfl
  · have h2 : ¬ i < (⟨l.toArray⟩ : ByteArray).size := by rw [str_size]; exact h
    rw [getElem?_neg _ i h2, List.getElem?_eq_none (by omega)]
theorem str_app (l m : List UInt8) : (⟨l.toArray⟩ : ByteArray) ++ ⟨m.toArray⟩ = ⟨(l ++ m).toArray⟩ := by
  rw [ByteArray.ext_iff]
  simp
section
variable {P : Program} {o : Oper} {σ : Nat → T} {Γ : Cx} {n : Nat} {objs : Objs} {Q : GPost}
theorem t_len_s {t : TypeId} {x : Operand} {l : List UInt8} (ho : o.op = .call { callee := .builtin .len, args := #[x], argTypes := #[t] }) (ht : P.underlying t = some .string) (hx : opT σ x = strT l) : Tri P o σ [] (.d (.v (.int .i64 l.length))) [] := by
  have := t_len_str ho ht hx
  rwa [str_size] at this
theorem t_index_s {t : TypeId} {x i : Operand} {l : List UInt8} {kd : IntKind} {m : Nat} {b : UInt8} (ho : o.op = .index t x i) (ht : P.underlying t = some .string) (hx : opT σ x = strT l) (hi : opT σ i = .d (.v (.int kd m))) (hb : l[m]? = some b) : Tri P o σ [] (u8T b) [] :=
  .val fun _ g _ ac w hrp _ _ => ⟨.int .u8 b.toNat, by
    have e1 := hrp x (by rw [ho]; simp [Op.operands])
    have e2 := hrp i (by rw [ho]; simp [Op.operands])
    rw [hx] at e1
    rw [hi] at e2
    unfold execOp; rw [ho]
    simp only [inv_v e1, inv_v e2, Instr.index, asIntOf, Sem.run_bind, Sem.run_pure, Result.andThen_ok, run_underlying ht]
    rw [if_pos (Int.natCast_nonneg m)]
    simp only [Int.toNat_natCast, str_get, hb, Sem.run_pure, Result.andThen_ok], rep_v rfl⟩
/-- A bound of a part, and what it is. -/
inductive Lo (σ : Nat → T) : Option Operand → Nat → Prop
  | no : Lo σ none 0
  | at_ {x : Operand} {kd : IntKind} {a : Nat} (h : opT σ x = .d (.v (.int kd a))) : Lo σ (some x) a
inductive Hi (σ : Nat → T) (len : Nat) : Option Operand → Nat → Prop
  | no : Hi σ len none len
  | at_ {x : Operand} {kd : IntKind} {b : Nat} (h : opT σ x = .d (.v (.int kd b))) : Hi σ len (some x) b
theorem bounds_run {isS : Bool} {len cap : Nat} {lo hi : Option Operand} {a b : Nat} {ac : Act} {g : Gh} {w : World} (hlo : Lo σ lo a) (hhi : Hi σ len hi b) (h1 : a ≤ b) (h2 : b ≤ len) (h3 : len ≤ cap) (hr : ∀ x, (some x = lo ∨ some x = hi) → RepT g (opT σ x) (ac.eval x)) :
    (Instr.sliceBounds isS len cap (lo.map ac.eval) (hi.map ac.eval) none).run P w = .ok (a, b, cap) w := by
  have h4 : b ≤ cap := Nat.le_trans h2 h3
  cases hlo with
  | no =>
    cases hhi with
    | no => simp [Instr.sliceBounds]
    | at_ h =>
      have e := hr _ (.inr rfl)
      rw [h] at e
      simp [Instr.sliceBounds, Instr.sliceBound, asIntOf, inv_v e, h4]
  | at_ h' =>
    have e' := hr _ (.inl rfl)
    rw [h'] at e'
    cases hhi with
    | no => simp [Instr.sliceBounds, Instr.sliceBound, asIntOf, inv_v e', h1]
    | at_ h =>
      have e := hr _ (.inr rfl)
      rw [h] at e
      simp [Instr.sliceBounds, Instr.sliceBound, asIntOf, inv_v e, inv_v e', h4, h1]
theorem t_slice_s {t : TypeId} {x : Operand} {lo hi : Option Operand} {l : List UInt8} {a b : Nat} (ho : o.op = .slice t x lo hi none) (ht : P.underlying t = some .string) (hx : opT σ x = strT l) (hlo : Lo σ lo a) (hhi : Hi σ l.length hi b) (h1 : a ≤ b) (h2 : b ≤ l.length) : Tri P o σ [] (strT ((l.drop a).take (b - a))) [] :=
  .val fun _ g _ ac w hrp _ _ => ⟨strV ((l.drop a).take (b - a)), by
    have e1 := hrp x (by rw [ho]; simp [Op.operands])
    rw [hx] at e1
    have hB := bounds_run (P := P) (isS := false) (w := w) (cap := l.length) hlo hhi h1 h2 (Nat.le_refl _) (fun y hy => hrp y (by rw [ho]; rcases hy with rfl | rfl <;> simp [Op.operands]))
    unfold execOp; rw [ho]
    simp only [inv_v e1, Instr.sliceAt, Instr.slice, Sem.run_bind, run_underlying ht, Result.andThen_ok, Option.map_none, Option.isSome_none, Bool.false_eq_true, if_false, str_size, hB, Sem.run_pure, Lib.extract_eq], rep_v rfl⟩
theorem t_slice_sa {t : TypeId} {x lo : Operand} {l : List UInt8} {a : Nat} {kd : IntKind} (ho : o.op = .slice t x (some lo) none none) (ht : P.underlying t = some .string) (hx : opT σ x = strT l) (hlo : opT σ lo = .d (.v (.int kd a))) (h1 : a ≤ l.length) : Tri P o σ [] (strT (l.drop a)) [] := by
  have := t_slice_s ho ht hx (.at_ hlo) .no h1 (Nat.le_refl _)
  rwa [List.take_of_length_le (by simp)] at this
theorem t_slice_sb {t : TypeId} {x hi : Operand} {l : List UInt8} {b : Nat} {kd : IntKind} (ho : o.op = .slice t x none (some hi) none) (ht : P.underlying t = some .string) (hx : opT σ x = strT l) (hhi : opT σ hi = .d (.v (.int kd b))) (h1 : b ≤ l.length) : Tri P o σ [] (strT (l.take b)) [] := by
  have := t_slice_s ho ht hx .no (.at_ hhi) (Nat.zero_le _) h1
  simpa using this
/-- A part of a slice. -/
theorem t_slice_d {t e : TypeId} {x : Operand} {lo hi : Option Operand} {k : Nat} {l : List D} {a b : Nat} (ho : o.op = .slice t x lo hi none) (ht : elemOf? P t = some (e, k)) (hx : TLe (opT σ x) (.d (.sl k l))) (hlo : Lo σ lo a) (hhi : Hi σ l.length hi b) (h1 : a ≤ b) (h2 : b ≤ l.length) : Tri P o σ [] (.d (.sl k ((l.drop a).take (b - a)))) [] :=
  .val fun _ g _ ac w hrp _ _ => by
    have e1 := hx g _ (hrp x (by rw [ho]; simp [Op.operands]))
    obtain ⟨hu, inf, hinf, hsz⟩ := elem_spec ht
    generalize he : ac.eval x = y at e1
    cases e1 with
    | d h =>
      cases h with
      | @sl _ _ p cap xs h3 hr hc hb hn =>
        have hlen := h3.len
        have hB := bounds_run (P := P) (isS := true) (w := w) (cap := cap) hlo hhi h1 h2 hc (fun y hy => hrp y (by rw [ho]; rcases hy with rfl | rfl <;> simp [Op.operands]))
        have hl2 : ((l.drop a).take (b - a)).length = b - a := by simp; omega
        refine ⟨.slice (if cap = a then p else p.map (·.add (a * k))) (b - a) (cap - a), ?_, ?_⟩
        · unfold execOp; rw [ho]
          simp only [he, Instr.sliceAt, Instr.slice, Sem.run_bind, run_underlying hu, Result.andThen_ok, Option.map_none, hB, sizeOf, typeInfo, Sem.run_pure]
          simp [hinf, hsz]
        · have hrow : RowS g.S (if cap = a then p else p.map (·.add (a * k))) ((xs.drop (a * k)).take ((b - a) * k)) := by
            obtain ⟨bk, off, q1, q2⟩ := hr
            refine ⟨bk, off + a * k, fun h => ?_, fun i hi => ?_⟩
            · have hpos : 0 < xs.length := by simp at h; omega
              have hne : cap ≠ a := fun e => by
                simp only [List.length_take, List.length_drop] at h
                rw [hlen] at h
                have : b - a = 0 := by omega
                rw [this] at h
                simp at h
              rw [if_neg hne, q1 hpos]
              simp [Addr.add]
            · have : i < (b - a) * k ∧ a * k + i < xs.length := by simp at hi; omega
              rw [List.getElem?_take, if_pos this.1, List.getElem?_drop, Nat.add_assoc, q2 _ this.2]
          have := RepD.sl (S := g.S) ((h3.drop a).take (b - a)) hrow (cap := cap - a) (by rw [hl2]; omega) (by omega) (fun e => by
            split at e
            · next e2 => omega
            · rw [Option.map_eq_none_iff] at e
              have := hn e
              omega)
          rw [hl2] at this
          exact .d this
theorem t_slice_da {t e : TypeId} {x lo : Operand} {k a : Nat} {l : List D} {kd : IntKind} (ho : o.op = .slice t x (some lo) none none) (ht : elemOf? P t = some (e, k)) (hx : TLe (opT σ x) (.d (.sl k l))) (hlo : opT σ lo = .d (.v (.int kd a))) (h1 : a ≤ l.length) : Tri P o σ [] (.d (.sl k (l.drop a))) [] := by
  have := t_slice_d ho ht hx (.at_ hlo) .no h1 (Nat.le_refl _)
  rwa [List.take_of_length_le (by simp)] at this
/-! Strings: operators -/
theorem b_sadd (t : TypeId) (a b : List UInt8) (h : a.length + b.length ≤ 9223372036854775807) : BinR P .add t (strV a) (strV b) (strV (a ++ b)) := fun x y w => by
  simp [eqGuard, binOp, Op.stringOp, str_size, IntKind.max_i64, str_app]; omega
theorem b_sseql (t : TypeId) (a b : List UInt8) : BinR P .eql t (strV a) (strV b) (.bool (a == b)) := by
  have := b_seql (P := P) t ⟨a.toArray⟩ ⟨b.toArray⟩
  rwa [str_toList, str_toList] at this
theorem b_ssneq (t : TypeId) (a b : List UInt8) : BinR P .neq t (strV a) (strV b) (.bool (!(a == b))) := by
  have := b_sneq (P := P) t ⟨a.toArray⟩ ⟨b.toArray⟩
  rwa [str_toList, str_toList] at this
theorem b_slss (t : TypeId) (a b : List UInt8) : BinR P .lss t (strV a) (strV b) (.bool (Op.bytesLess a b)) := fun x y w => by simp [eqGuard, binOp, Op.stringOp]
/-! Conversions -/
theorem t_conv_int {src dst : TypeId} {x : Operand} {k k' : IntKind} {a : Int} (ho : o.op = .convert src dst x) (hs : P.underlying src = some (.int k)) (hd : P.underlying dst = some (.int k')) (hx : opT σ x = .d (.v (.int k a))) : Tri P o σ [] (.d (.v (.int k' (k'.wrap a)))) [] :=
  .val fun _ g _ ac w hrp _ _ => ⟨.int k' (k'.wrap a), by
    have e1 := hrp x (by rw [ho]; simp [Op.operands])
    rw [hx] at e1
    unfold execOp; rw [ho]
    simp [inv_v e1, convert, run_underlying hs, run_underlying hd, Conv.intToInt], rep_v rfl⟩
theorem t_conv_rune {src dst : TypeId} {x : Operand} {k : IntKind} {a : Int} (ho : o.op = .convert src dst x) (hs : P.underlying src = some (.int k)) (hd : P.underlying dst = some .string) (hx : opT σ x = .d (.v (.int k a))) : Tri P o σ [] (.d (.v (.string (Utf8.encode a)))) [] :=
  .val fun _ g _ ac w hrp _ _ => ⟨.string (Utf8.encode a), by
    have e1 := hrp x (by rw [ho]; simp [Op.operands])
    rw [hx] at e1
    unfold execOp; rw [ho]
    simp [inv_v e1, convert, run_underlying hs, run_underlying hd, Conv.intToString], rep_v rfl⟩
end
end Go.Proofs.YtenlhfmchhljdaaDoor
