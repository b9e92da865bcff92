/-
  Bytes as cells.
-/
import Derived.Test.YtnpfkhaaogjhlaaMem
import Derived.Laws.Bits64b
import Derived.Laws.BitsLemmas
namespace Go.Proofs.Ytnpfkhaaogjhlaa
open Go.RowKit

def bts (l : List UInt8) : List Value := l.map fun x => .int .u8 (x.toNat : Int)
@[simp] theorem bts_length (l : List UInt8) : (bts l).length = l.length := by simp [bts]
@[simp] theorem bts_nil : bts [] = [] := rfl
theorem bts_append (l m : List UInt8) : bts (l ++ m) = bts l ++ bts m := by simp [bts]
theorem bts_take (l : List UInt8) (n : Nat) : bts (l.take n) = (bts l).take n := by simp [bts]
theorem bts_drop (l : List UInt8) (n : Nat) : bts (l.drop n) = (bts l).drop n := by simp [bts]
theorem bts_get {l : List UInt8} {i : Nat} (h : i < l.length) : (bts l)[i]? = some (.int .u8 ((l.getD i 0).toNat : Int)) := by simp [bts, h]
theorem bts_one {l : List UInt8} : ∀ u ∈ bts l, u.oneCell' = true := by
  intro u hu
  obtain ⟨x, -, rfl⟩ := List.mem_map.1 hu
  rfl
/-- A slice of bytes. -/
abbrev SlB (w : World) (p : Option Addr) (cap : Nat) (l : List UInt8) : Prop := Sl w 1 p l.length cap (bts l)
theorem SlB.at_ {w : World} {p : Option Addr} {cap : Nat} {l : List UInt8} (h : SlB w p cap l) {i : Nat} (hi : i < l.length) : ∃ b off, p = some ⟨b, off, none⟩ ∧ b < w.heap.size ∧ w.cell? ⟨b, off + i, none⟩ = some (.int .u8 ((l.getD i 0).toNat : Int)) := by
  obtain ⟨b, off, e, hb, hc⟩ := h.row.cons (by simp; omega)
  exact ⟨b, off, e, hb, (hc i (by simpa using hi)).trans (bts_get hi)⟩
theorem u8_lt (x : UInt8) : x.toNat < 256 := x.toNat_lt
theorem bits_xor_u32 (a b : Nat) (ha : a < 4294967296) (hb : b < 4294967296) : bits .xor .u32 (a : Int) (b : Int) = ((a ^^^ b : Nat) : Int) := by
  have hx : a ^^^ b < 2 ^ 32 := Nat.xor_lt_two_pow (by omega) (by omega)
  have h1 : (BitVec.ofInt 32 (a : Int)).toNat = a := by rw [BitVec.ofInt_natCast, BitVec.toNat_ofNat]; exact Nat.mod_eq_of_lt (by omega)
  have h2 : (BitVec.ofInt 32 (b : Int)).toNat = b := by rw [BitVec.ofInt_natCast, BitVec.toNat_ofNat]; exact Nat.mod_eq_of_lt (by omega)
  show IntKind.u32.wrap ((BitVec.ofInt 32 (a : Int) ^^^ BitVec.ofInt 32 (b : Int)).toNat : Int) = _
  rw [BitVec.toNat_xor, h1, h2, IntKind.wrap_u32]
  omega
theorem bits_xor_u8 (a b : Nat) (ha : a < 256) (hb : b < 256) : bits .xor .u8 (a : Int) (b : Int) = ((a ^^^ b : Nat) : Int) := by
  have hx : a ^^^ b < 2 ^ 8 := Nat.xor_lt_two_pow (by omega) (by omega)
  have h1 : (BitVec.ofInt 8 (a : Int)).toNat = a := by rw [BitVec.ofInt_natCast, BitVec.toNat_ofNat]; exact Nat.mod_eq_of_lt (by omega)
  have h2 : (BitVec.ofInt 8 (b : Int)).toNat = b := by rw [BitVec.ofInt_natCast, BitVec.toNat_ofNat]; exact Nat.mod_eq_of_lt (by omega)
  show IntKind.u8.wrap ((BitVec.ofInt 8 (a : Int) ^^^ BitVec.ofInt 8 (b : Int)).toNat : Int) = _
  rw [BitVec.toNat_xor, h1, h2, IntKind.wrap_u8]
  omega
end Go.Proofs.Ytnpfkhaaogjhlaa
