/-
  The reader: its box; what stays while it reads; num.
-/
import Derived.Test.YthdleldnjoamlaaKinds
import Derived.Test.YthdleldnjoamlaaCut
import Derived.Maps.AppendAt
namespace Go.Proofs.Ythdleldnjoamlaa
open Go.RowKit

/-- What stays while the reader at rp reads: all but its box. -/
abbrev G (rp : Nat) (W W' : World) : Prop := W.grownBy W' (some rp)
theorem G.refl (rp : Nat) (W : World) : G rp W W := World.grownBy.refl _ _
theorem G.of_below {rp : Nat} {a b : World} (h : Below a.heap.size a b) : G rp a b := ⟨h.os, h.tape, h.output, h.size, fun k hk _ => h.block k hk⟩
theorem G.trans {rp : Nat} {a b c : World} (h : G rp a b) (k : G rp b c) : G rp a c := World.grownBy.trans h k
theorem G.alloc {rp : Nat} {a b : World} (h : G rp a b) (o : Obj) : G rp a (b.alloc o) := G.trans h (World.grownBy_alloc _ _ _)
theorem G.set {rp : Nat} {a b : World} (h : G rp a b) (u : Value) (i : Nat) : G rp a (b.setCell ⟨rp, i, none⟩ u) :=
  G.trans h ⟨rfl, rfl, rfl, by simp, fun k _ hne => Below.heap_setCell b _ _ k (fun e => hne (by rw [e]))⟩
/-- A cell of a block that was not there. -/
theorem G.setNew {rp : Nat} {a b : World} (h : G rp a b) {B : Nat} (hB : a.heap.size ≤ B) (u : Value) (i : Nat) : G rp a (b.setCell ⟨B, i, none⟩ u) :=
  ⟨h.os, h.tape, h.output, by simpa using h.size, fun k hk hne => (Below.heap_setCell b _ _ k (by show k ≠ B; omega)).trans (h.block k hk hne)⟩
theorem G.blk {rp : Nat} {a b : World} (h : G rp a b) {B : Nat} {cs : Array Value} {t : TypeId} (hb : Blk a B cs t) (hne : B ≠ rp) : Blk b B cs t :=
  (h.block B hb.lt (fun e => hne (by cases e; rfl))).trans hb
theorem G.own {rp : Nat} {a b : World} (h : G rp a b) {base : Nat} {e : TypeId} {size : Nat} {v : Value} {n : Nat} {xs : List Value} (ho : a.ownsRow base e size v n xs) (hb : rp < base) : b.ownsRow base e size v n xs := by
  refine ho.kept h ?_
  rcases ho.2 with ⟨rfl, _⟩ | ⟨g, cap, cur, rfl, hg, -⟩
  · exact .inl rfl
  · refine .inr fun e => ?_
    have : some g = some rp := e
    cases this
    omega

/-- The reader at rp has l ahead of it. -/
def RdrI (rp : Nat) (W : World) (l : List Int) : Prop :=
  ∃ p c, Blk W rp #[.slice p l.length c, .bool false] 75 ∧ SlI W p c l ∧ ∀ a, p = some a → a.block < rp
theorem RdrI.lt {rp : Nat} {W : World} {l : List Int} (h : RdrI rp W l) : rp < W.heap.size := by
  obtain ⟨p, c, h1, -⟩ := h
  exact h1.lt
theorem RdrI.below {rp : Nat} {W W' : World} {l : List Int} (h : RdrI rp W l) (hb : Below W.heap.size W W') : RdrI rp W' l := by
  obtain ⟨p, c, h1, h2, h3⟩ := h
  exact ⟨p, c, h1.next hb, h2.below hb, h3⟩
theorem RdrI.alloc {rp : Nat} {W : World} {l : List Int} (h : RdrI rp W l) (o : Obj) : RdrI rp (W.alloc o) l := h.below ((Below.refl _ _).alloc (Nat.le_refl _) o)
/-- A cell of another block, behind all that is read. -/
theorem RdrI.cut {rp : Nat} {W : World} {x : Int} {l : List Int} {p q : Option Addr} {c : Nat} (hB : Blk W rp #[.slice p (l.length + 1) c, .bool false] 75) (hR : SlI W p c (x :: l)) (hp : ∀ a, p = some a → a.block < rp) (hq : (if c = 1 then p else p.map (·.add (1 * 1))) = q) :
    RdrI rp (W.setCell ⟨rp, 0, none⟩ (.slice q l.length (c - 1))) l := by
  have h1 := hR.from_ (m := 1) (by simp)
  rw [hq] at h1
  have hq2 : ∀ a, q = some a → a.block < rp := fun a ha => by
    rw [← hq] at ha
    split at ha
    · exact hp a ha
    · cases p with
      | none => cases ha
      | some b =>
        simp only [Option.map_some, Option.some.injEq] at ha
        have := hp b rfl
        rw [← ha]
        unfold Addr.add
        split <;> exact this
  refine ⟨q, c - 1, hB.set 0 _, ?_, hq2⟩
  have h2 : Sl W 1 q l.length (c - 1) (ints .i64 l) := by simpa [ints] using h1
  refine ⟨?_, h2.len, h2.le, h2.big, h2.isNil⟩
  by_cases hl : 0 < (ints .i64 l).length
  · obtain ⟨b, off, e, hb, hc⟩ := h2.row.cons hl
    refine ⟨b, off, fun _ => ⟨e, by simpa using hb⟩, fun i hi => ?_⟩
    rw [← hc i hi]
    exact World.cell?_of_block (Below.heap_setCell W _ _ b (by have h5 : b < rp := hq2 _ e; show b ≠ rp; omega))
  · rw [List.eq_nil_of_length_eq_zero (Nat.eq_zero_of_not_pos hl)]
    exact RowAt.nil _ _

/-- All blocks but those of the types S stay. -/
def KT (S : List TypeId) (W W' : World) : Prop := ∀ (B : Nat) (cs : Array Value) (t : TypeId), Blk W B cs t → t ∉ S → Blk W' B cs t
theorem KT.refl (S : List TypeId) (W : World) : KT S W W := fun _ _ _ h _ => h
theorem KT.mono {S S' : List TypeId} {W W' : World} (h : KT S W W') (hs : ∀ t ∈ S, t ∈ S') : KT S' W W' := fun B cs t hb ht => h B cs t hb fun h' => ht (hs t h')
theorem KT.trans {S : List TypeId} {a b c : World} (h : KT S a b) (k : KT S b c) : KT S a c := fun B cs t hb ht => k B cs t (h B cs t hb ht) ht
theorem KT.of_below {S : List TypeId} {a b : World} (h : Below a.heap.size a b) : KT S a b := fun _ _ _ hb _ => hb.next h
theorem G.kt {rp : Nat} {a b : World} (h : G rp a b) {cs : Array Value} (hb : Blk a rp cs 75) : KT [75] a b := fun B cs' t hB ht => by
  refine h.blk hB fun e => ?_
  subst e
  unfold Blk at hb hB
  rw [hb] at hB
  cases hB
  exact ht (by simp)
theorem RdrI.kt {rp : Nat} {a b : World} {l : List Int} (hr : RdrI rp a l) (h : G rp a b) : KT [75] a b := by
  obtain ⟨p, c, h1, -⟩ := hr
  exact h.kt h1
theorem KT.own {S : List TypeId} {a b : World} (h : KT S a b) {base : Nat} {e : TypeId} {size : Nat} {v : Value} {n : Nat} {xs : List Value} (ho : a.ownsRow base e size v n xs) (he : e ∉ S) : b.ownsRow base e size v n xs := by
  refine ⟨ho.1, ?_⟩
  rcases ho.2 with hn | ⟨g, cap, cur, rfl, hb, hg, rest⟩
  · exact .inl hn
  · exact .inr ⟨g, cap, cur, rfl, hb, h g cur e hg he, rest⟩
/-- An append to a row of the call's own turns none but rows of its type. -/
theorem KT.of_append {a b : World} {base : Nat} {e : TypeId} {size : Nat} {v : Value} {n : Nat} {xs : List Value} (ho : a.ownsRow base e size v n xs) (hg : a.grownBy b v.ownBlock) : KT [e] a b := fun B cs t hB ht => by
  refine (hg.block B hB.lt fun e' => ?_).trans hB
  rcases ho.2 with ⟨rfl, _⟩ | ⟨g, cap, cur, rfl, hb, hgg, -⟩
  · cases e'
  · have : some B = some g := e'
    cases this
    unfold Blk at hB
    rw [hgg] at hB
    cases hB
    exact ht (by simp)
theorem RdrI.keep {rp : Nat} {a b : World} {l : List Int} {B : Nat} (hr : RdrI rp a l) (h : Below B a b) (hB : rp < B) : RdrI rp b l := by
  obtain ⟨p, c, h1, h2, h3⟩ := hr
  refine ⟨p, c, (h.block rp hB).trans h1, ?_, h3⟩
  refine ⟨?_, h2.len, h2.le, h2.big, h2.isNil⟩
  by_cases hl : 0 < (ints .i64 l).length
  · obtain ⟨b', off, e, hb, hc⟩ := h2.row.cons hl
    have hlt : b' < rp := h3 _ e
    refine ⟨b', off, fun _ => ⟨e, Nat.lt_of_lt_of_le hb h.size⟩, fun i hi => ?_⟩
    rw [← hc i hi]
    exact World.cell?_of_block (h.block b' (by omega))
  · rw [List.eq_nil_of_length_eq_zero (Nat.eq_zero_of_not_pos hl)]
    exact RowAt.nil _ _
/-- The types that may turn while a row of the types below stays. -/
abbrev S0 : List TypeId := [29, 94, 52, 65, 75]
abbrev S1 : List TypeId := [29, 52, 65, 75]
abbrev S2 : List TypeId := [29, 75]

set_option maxRecDepth 100000 in
set_option maxHeartbeats 1000000 in
theorem num_any {rp : Nat} {W : World} {x : Int} {l : List Int} (h : RdrI rp W (x :: l)) :
    Calls Try.prog 38 #[.pointer (some ⟨rp, 0, none⟩)] W fun r W' => r = .returned (.int .i64 x) ∧ RdrI rp W' l ∧ G rp W W' := by
  obtain ⟨p, c, hB, hR, hp⟩ := h
  have hle := hR.le
  have hbig := hR.big
  rw [List.length_cons] at hB hle
  obtain ⟨b, off, hpe, hb, hc0⟩ := Sl.int_at hR (i := 0) (by simp)
  have hcut := fun q h => RdrI.cut (q := q) hB hR hp h
  have cB := hB.cell 0
  change W.cell? ⟨rp, 0, none⟩ = some (.slice p (l.length + 1) c) at cB
  have cB1 := hB.cell 1
  change W.cell? ⟨rp, 1, none⟩ = some (.bool false) at cB1
  have fB := hB.frozen 0
  rw [show (x :: l).getD 0 0 = x from rfl, Nat.add_zero] at hc0
  have HC := Lib.hid hcut; have HP := Lib.hid hp; clear hcut hp hR hB
  subst hpe
  obtain ⟨i0, hi0, iz0, iz1, iz2⟩ := info_parts infoI
  generalize hn : l.length = n at *
  have hnb : n + 1 ≤ 9223372036854775807 := by omega
  obtain ⟨q, hq⟩ : ∃ q, (if c = 1 then (some ⟨b, off, none⟩ : Option Addr) else (some ⟨b, off, none⟩ : Option Addr).map (·.add (1 * 1))) = q := ⟨_, rfl⟩
  have HQ := Lib.hid hq; clear hq
  have h1n : 1 ≤ n + 1 := by omega
  go_enter Try.func38, Try.ntmps38
  go_wp2_with (refine wpList_slice_l rfl _ _ 31 rfl 3 i0 1 Try.underlying31 hi0 iz1 (some ⟨b, off, none⟩) q (n + 1) c 1 .i64 rfl rfl h1n HQ.out n (c - 1) rfl rfl ?_)
  go_ret
  exact ⟨rfl, HC.out q HQ.out, (G.refl _ _).set _ _⟩
end Go.Proofs.Ythdleldnjoamlaa
