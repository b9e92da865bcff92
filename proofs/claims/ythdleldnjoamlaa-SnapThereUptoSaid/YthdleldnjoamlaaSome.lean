/-
  some things read, each by a function.
-/
import Derived.Test.YthdleldnjoamlaaNum
namespace Go.Proofs.Ythdleldnjoamlaa
open Go.RowKit

/-- A function that reads one thing. -/
structure OneR {α γ : Type} (rp : Nat) (f : FuncId) (val : α → Value) (ok : World → α → Prop) (c : α → γ) (e : γ → List Int) (S : List TypeId) : Prop where
  ent : ∀ (args : Array Value) (w : World), (callFunc f args).run Try.prog w = .ok (.enter f args) w
  call : ∀ W x r, RdrI rp W (e x ++ r) → (e x ++ r).length ≤ 50000000 →
    Calls Try.prog f #[.pointer (some ⟨rp, 0, none⟩)] W fun res W' => ∃ y, res = .returned (val y) ∧ c y = x ∧ RdrI rp W' r ∧ (∀ W3, KT S W' W3 → ok W3 y) ∧ G rp W W'
theorem many_le {γ : Type} {e : γ → List Int} (h1 : ∀ x, 1 ≤ (e x).length) (m : List γ) : m.length ≤ (m.flatMap e).length := by
  induction m with
  | nil => simp
  | cons a m ih => rw [List.flatMap_cons, List.length_append, List.length_cons]; have := h1 a; omega
theorem fm_drop {γ : Type} (e : γ → List Int) (m : List γ) (k : Nat) : ((m.drop k).flatMap e).length ≤ (m.flatMap e).length := by
  have : m.flatMap e = (m.take k).flatMap e ++ (m.drop k).flatMap e := by rw [← List.flatMap_append, List.take_append_drop]
  rw [this, List.length_append]; omega

theorem info_Vl : (Try.prog.info? 63).map (fun i => (i.zero, i.size, i.bytes)) = some (some (.agg #[.int .i64 0, .int .i64 0]), 2, 16) := by kernel_rfl
theorem one_le_Vl (x : Vl) : 1 ≤ (Vl.e x).length := by show 1 ≤ 2; omega
/-- What the round keeps. -/
structure Si_Vl (rp : Nat) (W wr : World) (m : List (Vl)) (r : List Int) (k : Nat) (ys : List Vl) (p : Option Addr) (cp : Nat) : Prop where
  len : ys.length = k
  is : ys.map id = m.take k
  rd : RdrI rp wr ((m.drop k).flatMap Vl.e ++ r)
  own : wr.ownsRow W.heap.size 63 2 (.slice p k cp) k (ys.flatMap Vl.cells)
  ok : ∀ W3, KT [63, 75] wr W3 → ∀ y ∈ ys, okT W3 y
  g : G rp W wr
set_option maxRecDepth 100000 in
set_option maxHeartbeats 2000000 in
theorem some_Vl {rp : Nat} {W : World} {m : List (Vl)} {r : List Int} {f : FuncId} (h : RdrI rp W (encL Vl.e m ++ r)) (h1 : OneR rp f Vl.val okT id Vl.e [63, 75]) (hl : (encL Vl.e m ++ r).length ≤ 50000000) :
    Calls Try.prog 36 #[.pointer (some ⟨rp, 0, none⟩), .func (.func f) #[.pointer (some ⟨rp, 0, none⟩)] #[]] W fun res W' => ∃ s : Sv Vl, res = .returned s.val ∧ s.l.map id = m ∧ RdrI rp W' r ∧ (∀ W3, KT S0 W' W3 → RdVl W3 s) ∧ G rp W W' := by
  have hent := h1.ent
  have hrp := h.lt
  have hnum := num_any (show RdrI rp W ((m.length : Int) :: (m.flatMap Vl.e ++ r)) from h)
  have hlen : m.length ≤ (m.flatMap Vl.e ++ r).length := by have := many_le one_le_Vl m; rw [List.length_append]; omega
  have hl2 : (m.flatMap Vl.e ++ r).length ≤ 50000000 := by unfold encL at hl; rw [List.cons_append, List.length_cons] at hl; omega
  obtain ⟨iT, hiT, tz0, tz1, tz2⟩ := info_parts info_Vl
  have hLL : (m.flatMap Vl.e).length + r.length ≤ 50000000 := by rw [← List.length_append]; exact hl2
  have HLL := Lib.hid hLL; clear hLL
  have HN := Lib.hid hnum; have HC := Lib.hid h1.call; have HL := Lib.hid hl2; clear hnum h h1 hl hl2
  go_enter Try.func36, Try.ntmps36
  go_wp2_with fail
  refine HN.out.mono ?_
  rintro _ W1 ⟨rfl, hr1, hg1⟩
  have hI0 : Si_Vl rp W W1 m r 0 [] none 0 := ⟨rfl, by simp, by simpa using hr1, World.ownsRow_nil _ _ _ _, fun _ _ y hy => (by cases hy), hg1⟩
  obtain ⟨p, c, hB, hR, hp⟩ := hr1
  have cB := hB.cell 0
  change W1.cell? ⟨rp, 0, none⟩ = some (.slice p _ c) at cB
  have HI0 := Lib.hid hI0
  have hm5 : m.length ≤ 50000000 := by have := HL.out; omega
  clear HN hB hR hp hg1 hI0
  generalize (m.flatMap Vl.e ++ r).length = n at *
  have q1 : decide ((n : Int) < (m.length : Int)) = false := decide_eq_false (by omega)
  have q2 : decide (n < m.length) = false := decide_eq_false (by omega)
  have q3 : ¬ n < m.length := by omega
  go_wp2_with fail
  go_loopw [6, 7] (fun s6 s7 wr => ∃ (k : Nat) (ys : List Vl) (p : Option Addr) (cp : Nat), k ≤ m.length ∧ s7 = .int .i64 k ∧ s6 = .slice p k cp ∧ Si_Vl rp W wr m r k ys p cp) (fun _ s7 _ => m.length - (intOf s7).toNat)
  case atStart => exact ⟨0, [], none, 0, Nat.zero_le _, rfl, rfl, HI0.out⟩
  case round =>
    clear HI0 cB
    obtain ⟨k, ys, p, cp, hk, rfl, rfl, hI⟩ := hrel
    obtain ⟨p0, c0, hB, -, -⟩ := hI.rd
    have cB := hB.cell 1
    change wr.cell? ⟨rp, 1, none⟩ = some (.bool false) at cB
    clear hB
    by_cases hlt : k < m.length
    · obtain ⟨x, hx⟩ : ∃ x, m[k]? = some x := ⟨m[k], List.getElem?_eq_getElem hlt⟩
      have hd : m.drop k = x :: m.drop (k + 1) := by
        rw [List.drop_eq_getElem_cons hlt]
        congr 1
        rw [List.getElem?_eq_getElem hlt] at hx
        exact Option.some.inj hx
      have ht : m.take (k + 1) = m.take k ++ [x] := by rw [List.take_add_one, hx]; rfl
      have hrd := hI.rd
      rw [hd, List.flatMap_cons, List.append_assoc] at hrd
      have hbd : (Vl.e x ++ ((m.drop (k + 1)).flatMap Vl.e ++ r)).length ≤ 50000000 := by
        have h1 := fm_drop Vl.e m k
        rw [hd, List.flatMap_cons] at h1
        have := HLL.out
        simp only [List.length_append] at h1 ⊢
        omega
      have hcall := HC.out wr x _ hrd hbd
      have HCL := Lib.hid hcall; have HT := Lib.hid ht; have HRD := Lib.hid hrd; clear hcall hd ht hrd hbd hx
      go_wp2_with fail
      refine HCL.out.mono ?_
      rintro _ W2 ⟨y, rfl, hcy, hr2, hok2, hg2⟩
      have hown2 := hg2.own hI.own hrp
      have hs2 : W.heap.size ≤ W2.heap.size := Nat.le_trans hI.g.size hg2.size
      have hal := (Below.refl W2.heap.size W2).alloc (Nat.le_refl _) (.cells #[.int .i64 y.k, .int .i64 y.n] 63)
      have hown3 := own_below hown2 hal
      have hnews : ∀ (j : Nat) (u : Value), ([Value.int .i64 y.k, Value.int .i64 y.n] : List Value)[j]? = some u → (W2.alloc (.cells #[.int .i64 y.k, .int .i64 y.n] 63)).cell? ((⟨W2.heap.size, 0, none⟩ : Addr).add j) = some u := fun j u hj => by
        rw [add_lit']; exact (new_row W2 #[.int .i64 y.k, .int .i64 y.n] 63 (0, 0)).at_ hj
      have hbs : W.heap.size ≤ (W2.alloc (.cells #[.int .i64 y.k, .int .i64 y.n] 63)).heap.size := Nat.le_trans hs2 hal.size
      have hcl : ∀ u ∈ ([Value.int .i64 y.k, Value.int .i64 y.n] : List Value), u.oneCell' = true := by simp [Value.oneCell']
      have hstep : ∀ p5 c5 w5, w5.ownsRow W.heap.size 63 2 (.slice p5 (k + 1) c5) (k + 1) (ys.flatMap Vl.cells ++ [Value.int .i64 y.k, Value.int .i64 y.n]) → (W2.alloc (.cells #[.int .i64 y.k, .int .i64 y.n] 63)).grownBy w5 (Value.slice p k cp).ownBlock → Si_Vl rp W w5 m r (k + 1) (ys ++ [y]) p5 c5 := fun p5 c5 w5 ho hg => by
        have hbel : Below W.heap.size W2 w5 := (hal.mono hs2).grown hg hbs (fun q hq => (hown3.lt q hq).1)
        have hkt : KT [63] W2 w5 := (KT.of_below hal).trans (KT.of_append hown3 hg)
        refine ⟨by simp [hI.len], by rw [List.map_append, hI.is, HT.out, List.map_singleton, hcy], hr2.keep hbel hrp, ?_, fun W3 h3 z hz => ?_, ?_⟩
        · rw [List.flatMap_append, List.flatMap_singleton]; exact ho
        · rcases List.mem_append.1 hz with hz | hz
          · exact hI.ok W3 (((HRD.out.kt hg2).mono (by decide)).trans ((hkt.mono (by decide)).trans h3)) z hz
          · rw [List.mem_singleton.1 hz]
            exact hok2 W3 ((hkt.mono (by decide)).trans h3)
        · have h0 := G.trans hI.g hg2
          exact ⟨hbel.os.trans h0.os, hbel.tape.trans h0.tape, hbel.output.trans h0.output, Nat.le_trans h0.size hbel.size, fun q hq hne => (hbel.block q hq).trans (h0.block q hq hne)⟩
      have HS := Lib.hid hstep; clear hstep hok2 hr2 hg2 HCL HRD hI hown2 hal cB hcy HT
      go_wp2_with (at_builtin; refine wpList_append_own _ rfl _ _ 27 rfl W.heap.size 63 iT (.agg #[.int .i64 0, .int .i64 0]) 2 16 Try.underlying27 hiT tz0 tz1 tz2 rfl (by decide) _ k _ rfl hown3 ⟨W2.heap.size, 0, none⟩ 1 1 [Value.int .i64 y.k, Value.int .i64 y.n] rfl rfl hnews hcl (by unfold maxLen; omega) (by omega) hbs ?_; intro v5 w5 hrow5 hg5 hv5; obtain ⟨p5, c5, rfl, hle5, hbig5⟩ := own_slice hrow5)
      go_roundw
      case rel => exact ⟨k + 1, ys ++ [y], p5, c5, by omega, by go_num, rfl, HS.out p5 c5 w5 hrow5 hg5⟩
      case measure => simp [intOf]; omega
    · obtain rfl : k = m.length := by omega
      have his := hI.is
      rw [List.take_length] at his
      have hrd := hI.rd
      rw [List.drop_length] at hrd
      have hyl := hI.len
      have hfin : ∀ W3, KT S0 wr W3 → RdVl W3 ⟨p, cp, ys⟩ := fun W3 h3 => by
        refine ⟨?_, fun _ _ => trivial⟩
        have := Sl.of_own (h3.own hI.own (by decide))
        show Sl W3 2 p ys.length cp _
        rw [hyl]; exact this
      have hg := hI.g
      have HF := Lib.hid hfin; have HIs := Lib.hid his; have HY := Lib.hid hyl; have HRD := Lib.hid hrd; clear hfin his hyl hrd hI
      go_wp2_with fail
      go_ret
      exact ⟨⟨p, cp, ys⟩, by show _ = Ending.returned (Value.slice p ys.length cp); rw [HY.out]; rfl, HIs.out, by simpa using HRD.out, HF.out, hg⟩

theorem info_Ty : (Try.prog.info? 104).map (fun i => (i.zero, i.size, i.bytes)) = some (some (.agg #[.int .i64 0, .int .i64 0]), 2, 16) := by kernel_rfl
theorem one_le_Ty (x : Ty) : 1 ≤ (Ty.e x).length := by show 1 ≤ 2; omega
/-- What the round keeps. -/
structure Si_Ty (rp : Nat) (W wr : World) (m : List (Ty)) (r : List Int) (k : Nat) (ys : List Ty) (p : Option Addr) (cp : Nat) : Prop where
  len : ys.length = k
  is : ys.map id = m.take k
  rd : RdrI rp wr ((m.drop k).flatMap Ty.e ++ r)
  own : wr.ownsRow W.heap.size 104 2 (.slice p k cp) k (ys.flatMap Ty.cells)
  ok : ∀ W3, KT [104, 75] wr W3 → ∀ y ∈ ys, okT W3 y
  g : G rp W wr
set_option maxRecDepth 100000 in
set_option maxHeartbeats 2000000 in
theorem some_Ty {rp : Nat} {W : World} {m : List (Ty)} {r : List Int} {f : FuncId} (h : RdrI rp W (encL Ty.e m ++ r)) (h1 : OneR rp f Ty.val okT id Ty.e [104, 75]) (hl : (encL Ty.e m ++ r).length ≤ 50000000) :
    Calls Try.prog 51 #[.pointer (some ⟨rp, 0, none⟩), .func (.func f) #[.pointer (some ⟨rp, 0, none⟩)] #[]] W fun res W' => ∃ s : Sv Ty, res = .returned s.val ∧ s.l.map id = m ∧ RdrI rp W' r ∧ (∀ W3, KT S0 W' W3 → RdTy W3 s) ∧ G rp W W' := by
  have hent := h1.ent
  have hrp := h.lt
  have hnum := num_any (show RdrI rp W ((m.length : Int) :: (m.flatMap Ty.e ++ r)) from h)
  have hlen : m.length ≤ (m.flatMap Ty.e ++ r).length := by have := many_le one_le_Ty m; rw [List.length_append]; omega
  have hl2 : (m.flatMap Ty.e ++ r).length ≤ 50000000 := by unfold encL at hl; rw [List.cons_append, List.length_cons] at hl; omega
  obtain ⟨iT, hiT, tz0, tz1, tz2⟩ := info_parts info_Ty
  have hLL : (m.flatMap Ty.e).length + r.length ≤ 50000000 := by rw [← List.length_append]; exact hl2
  have HLL := Lib.hid hLL; clear hLL
  have HN := Lib.hid hnum; have HC := Lib.hid h1.call; have HL := Lib.hid hl2; clear hnum h h1 hl hl2
  go_enter Try.func51, Try.ntmps51
  go_wp2_with fail
  refine HN.out.mono ?_
  rintro _ W1 ⟨rfl, hr1, hg1⟩
  have hI0 : Si_Ty rp W W1 m r 0 [] none 0 := ⟨rfl, by simp, by simpa using hr1, World.ownsRow_nil _ _ _ _, fun _ _ y hy => (by cases hy), hg1⟩
  obtain ⟨p, c, hB, hR, hp⟩ := hr1
  have cB := hB.cell 0
  change W1.cell? ⟨rp, 0, none⟩ = some (.slice p _ c) at cB
  have HI0 := Lib.hid hI0
  have hm5 : m.length ≤ 50000000 := by have := HL.out; omega
  clear HN hB hR hp hg1 hI0
  generalize (m.flatMap Ty.e ++ r).length = n at *
  have q1 : decide ((n : Int) < (m.length : Int)) = false := decide_eq_false (by omega)
  have q2 : decide (n < m.length) = false := decide_eq_false (by omega)
  have q3 : ¬ n < m.length := by omega
  go_wp2_with fail
  go_loopw [6, 7] (fun s6 s7 wr => ∃ (k : Nat) (ys : List Ty) (p : Option Addr) (cp : Nat), k ≤ m.length ∧ s7 = .int .i64 k ∧ s6 = .slice p k cp ∧ Si_Ty rp W wr m r k ys p cp) (fun _ s7 _ => m.length - (intOf s7).toNat)
  case atStart => exact ⟨0, [], none, 0, Nat.zero_le _, rfl, rfl, HI0.out⟩
  case round =>
    clear HI0 cB
    obtain ⟨k, ys, p, cp, hk, rfl, rfl, hI⟩ := hrel
    obtain ⟨p0, c0, hB, -, -⟩ := hI.rd
    have cB := hB.cell 1
    change wr.cell? ⟨rp, 1, none⟩ = some (.bool false) at cB
    clear hB
    by_cases hlt : k < m.length
    · obtain ⟨x, hx⟩ : ∃ x, m[k]? = some x := ⟨m[k], List.getElem?_eq_getElem hlt⟩
      have hd : m.drop k = x :: m.drop (k + 1) := by
        rw [List.drop_eq_getElem_cons hlt]
        congr 1
        rw [List.getElem?_eq_getElem hlt] at hx
        exact Option.some.inj hx
      have ht : m.take (k + 1) = m.take k ++ [x] := by rw [List.take_add_one, hx]; rfl
      have hrd := hI.rd
      rw [hd, List.flatMap_cons, List.append_assoc] at hrd
      have hbd : (Ty.e x ++ ((m.drop (k + 1)).flatMap Ty.e ++ r)).length ≤ 50000000 := by
        have h1 := fm_drop Ty.e m k
        rw [hd, List.flatMap_cons] at h1
        have := HLL.out
        simp only [List.length_append] at h1 ⊢
        omega
      have hcall := HC.out wr x _ hrd hbd
      have HCL := Lib.hid hcall; have HT := Lib.hid ht; have HRD := Lib.hid hrd; clear hcall hd ht hrd hbd hx
      go_wp2_with fail
      refine HCL.out.mono ?_
      rintro _ W2 ⟨y, rfl, hcy, hr2, hok2, hg2⟩
      have hown2 := hg2.own hI.own hrp
      have hs2 : W.heap.size ≤ W2.heap.size := Nat.le_trans hI.g.size hg2.size
      have hal := (Below.refl W2.heap.size W2).alloc (Nat.le_refl _) (.cells #[.int .i64 y.r, .int .i64 y.a] 104)
      have hown3 := own_below hown2 hal
      have hnews : ∀ (j : Nat) (u : Value), ([Value.int .i64 y.r, Value.int .i64 y.a] : List Value)[j]? = some u → (W2.alloc (.cells #[.int .i64 y.r, .int .i64 y.a] 104)).cell? ((⟨W2.heap.size, 0, none⟩ : Addr).add j) = some u := fun j u hj => by
        rw [add_lit']; exact (new_row W2 #[.int .i64 y.r, .int .i64 y.a] 104 (0, 0)).at_ hj
      have hbs : W.heap.size ≤ (W2.alloc (.cells #[.int .i64 y.r, .int .i64 y.a] 104)).heap.size := Nat.le_trans hs2 hal.size
      have hcl : ∀ u ∈ ([Value.int .i64 y.r, Value.int .i64 y.a] : List Value), u.oneCell' = true := by simp [Value.oneCell']
      have hstep : ∀ p5 c5 w5, w5.ownsRow W.heap.size 104 2 (.slice p5 (k + 1) c5) (k + 1) (ys.flatMap Ty.cells ++ [Value.int .i64 y.r, Value.int .i64 y.a]) → (W2.alloc (.cells #[.int .i64 y.r, .int .i64 y.a] 104)).grownBy w5 (Value.slice p k cp).ownBlock → Si_Ty rp W w5 m r (k + 1) (ys ++ [y]) p5 c5 := fun p5 c5 w5 ho hg => by
        have hbel : Below W.heap.size W2 w5 := (hal.mono hs2).grown hg hbs (fun q hq => (hown3.lt q hq).1)
        have hkt : KT [104] W2 w5 := (KT.of_below hal).trans (KT.of_append hown3 hg)
        refine ⟨by simp [hI.len], by rw [List.map_append, hI.is, HT.out, List.map_singleton, hcy], hr2.keep hbel hrp, ?_, fun W3 h3 z hz => ?_, ?_⟩
        · rw [List.flatMap_append, List.flatMap_singleton]; exact ho
        · rcases List.mem_append.1 hz with hz | hz
          · exact hI.ok W3 (((HRD.out.kt hg2).mono (by decide)).trans ((hkt.mono (by decide)).trans h3)) z hz
          · rw [List.mem_singleton.1 hz]
            exact hok2 W3 ((hkt.mono (by decide)).trans h3)
        · have h0 := G.trans hI.g hg2
          exact ⟨hbel.os.trans h0.os, hbel.tape.trans h0.tape, hbel.output.trans h0.output, Nat.le_trans h0.size hbel.size, fun q hq hne => (hbel.block q hq).trans (h0.block q hq hne)⟩
      have HS := Lib.hid hstep; clear hstep hok2 hr2 hg2 HCL HRD hI hown2 hal cB hcy HT
      go_wp2_with (at_builtin; refine wpList_append_own _ rfl _ _ 92 rfl W.heap.size 104 iT (.agg #[.int .i64 0, .int .i64 0]) 2 16 Try.underlying92 hiT tz0 tz1 tz2 rfl (by decide) _ k _ rfl hown3 ⟨W2.heap.size, 0, none⟩ 1 1 [Value.int .i64 y.r, Value.int .i64 y.a] rfl rfl hnews hcl (by unfold maxLen; omega) (by omega) hbs ?_; intro v5 w5 hrow5 hg5 hv5; obtain ⟨p5, c5, rfl, hle5, hbig5⟩ := own_slice hrow5)
      go_roundw
      case rel => exact ⟨k + 1, ys ++ [y], p5, c5, by omega, by go_num, rfl, HS.out p5 c5 w5 hrow5 hg5⟩
      case measure => simp [intOf]; omega
    · obtain rfl : k = m.length := by omega
      have his := hI.is
      rw [List.take_length] at his
      have hrd := hI.rd
      rw [List.drop_length] at hrd
      have hyl := hI.len
      have hfin : ∀ W3, KT S0 wr W3 → RdTy W3 ⟨p, cp, ys⟩ := fun W3 h3 => by
        refine ⟨?_, fun _ _ => trivial⟩
        have := Sl.of_own (h3.own hI.own (by decide))
        show Sl W3 2 p ys.length cp _
        rw [hyl]; exact this
      have hg := hI.g
      have HF := Lib.hid hfin; have HIs := Lib.hid his; have HY := Lib.hid hyl; have HRD := Lib.hid hrd; clear hfin his hyl hrd hI
      go_wp2_with fail
      go_ret
      exact ⟨⟨p, cp, ys⟩, by show _ = Ending.returned (Value.slice p ys.length cp); rw [HY.out]; rfl, HIs.out, by simpa using HRD.out, HF.out, hg⟩

theorem info_Sh : (Try.prog.info? 56).map (fun i => (i.zero, i.size, i.bytes)) = some (some (.agg #[.int .i64 0, .int .i64 0]), 2, 16) := by kernel_rfl
theorem one_le_Sh (x : Sh) : 1 ≤ (Sh.e x).length := by show 1 ≤ 2; omega
/-- What the round keeps. -/
structure Si_Sh (rp : Nat) (W wr : World) (m : List (Sh)) (r : List Int) (k : Nat) (ys : List Sh) (p : Option Addr) (cp : Nat) : Prop where
  len : ys.length = k
  is : ys.map id = m.take k
  rd : RdrI rp wr ((m.drop k).flatMap Sh.e ++ r)
  own : wr.ownsRow W.heap.size 56 2 (.slice p k cp) k (ys.flatMap Sh.cells)
  ok : ∀ W3, KT [56, 75] wr W3 → ∀ y ∈ ys, okT W3 y
  g : G rp W wr
set_option maxRecDepth 100000 in
set_option maxHeartbeats 2000000 in
theorem some_Sh {rp : Nat} {W : World} {m : List (Sh)} {r : List Int} {f : FuncId} (h : RdrI rp W (encL Sh.e m ++ r)) (h1 : OneR rp f Sh.val okT id Sh.e [56, 75]) (hl : (encL Sh.e m ++ r).length ≤ 50000000) :
    Calls Try.prog 28 #[.pointer (some ⟨rp, 0, none⟩), .func (.func f) #[.pointer (some ⟨rp, 0, none⟩)] #[]] W fun res W' => ∃ s : Sv Sh, res = .returned s.val ∧ s.l.map id = m ∧ RdrI rp W' r ∧ (∀ W3, KT S0 W' W3 → RdSh W3 s) ∧ G rp W W' := by
  have hent := h1.ent
  have hrp := h.lt
  have hnum := num_any (show RdrI rp W ((m.length : Int) :: (m.flatMap Sh.e ++ r)) from h)
  have hlen : m.length ≤ (m.flatMap Sh.e ++ r).length := by have := many_le one_le_Sh m; rw [List.length_append]; omega
  have hl2 : (m.flatMap Sh.e ++ r).length ≤ 50000000 := by unfold encL at hl; rw [List.cons_append, List.length_cons] at hl; omega
  obtain ⟨iT, hiT, tz0, tz1, tz2⟩ := info_parts info_Sh
  have hLL : (m.flatMap Sh.e).length + r.length ≤ 50000000 := by rw [← List.length_append]; exact hl2
  have HLL := Lib.hid hLL; clear hLL
  have HN := Lib.hid hnum; have HC := Lib.hid h1.call; have HL := Lib.hid hl2; clear hnum h h1 hl hl2
  go_enter Try.func28, Try.ntmps28
  go_wp2_with fail
  refine HN.out.mono ?_
  rintro _ W1 ⟨rfl, hr1, hg1⟩
  have hI0 : Si_Sh rp W W1 m r 0 [] none 0 := ⟨rfl, by simp, by simpa using hr1, World.ownsRow_nil _ _ _ _, fun _ _ y hy => (by cases hy), hg1⟩
  obtain ⟨p, c, hB, hR, hp⟩ := hr1
  have cB := hB.cell 0
  change W1.cell? ⟨rp, 0, none⟩ = some (.slice p _ c) at cB
  have HI0 := Lib.hid hI0
  have hm5 : m.length ≤ 50000000 := by have := HL.out; omega
  clear HN hB hR hp hg1 hI0
  generalize (m.flatMap Sh.e ++ r).length = n at *
  have q1 : decide ((n : Int) < (m.length : Int)) = false := decide_eq_false (by omega)
  have q2 : decide (n < m.length) = false := decide_eq_false (by omega)
  have q3 : ¬ n < m.length := by omega
  go_wp2_with fail
  go_loopw [6, 7] (fun s6 s7 wr => ∃ (k : Nat) (ys : List Sh) (p : Option Addr) (cp : Nat), k ≤ m.length ∧ s7 = .int .i64 k ∧ s6 = .slice p k cp ∧ Si_Sh rp W wr m r k ys p cp) (fun _ s7 _ => m.length - (intOf s7).toNat)
  case atStart => exact ⟨0, [], none, 0, Nat.zero_le _, rfl, rfl, HI0.out⟩
  case round =>
    clear HI0 cB
    obtain ⟨k, ys, p, cp, hk, rfl, rfl, hI⟩ := hrel
    obtain ⟨p0, c0, hB, -, -⟩ := hI.rd
    have cB := hB.cell 1
    change wr.cell? ⟨rp, 1, none⟩ = some (.bool false) at cB
    clear hB
    by_cases hlt : k < m.length
    · obtain ⟨x, hx⟩ : ∃ x, m[k]? = some x := ⟨m[k], List.getElem?_eq_getElem hlt⟩
      have hd : m.drop k = x :: m.drop (k + 1) := by
        rw [List.drop_eq_getElem_cons hlt]
        congr 1
        rw [List.getElem?_eq_getElem hlt] at hx
        exact Option.some.inj hx
      have ht : m.take (k + 1) = m.take k ++ [x] := by rw [List.take_add_one, hx]; rfl
      have hrd := hI.rd
      rw [hd, List.flatMap_cons, List.append_assoc] at hrd
      have hbd : (Sh.e x ++ ((m.drop (k + 1)).flatMap Sh.e ++ r)).length ≤ 50000000 := by
        have h1 := fm_drop Sh.e m k
        rw [hd, List.flatMap_cons] at h1
        have := HLL.out
        simp only [List.length_append] at h1 ⊢
        omega
      have hcall := HC.out wr x _ hrd hbd
      have HCL := Lib.hid hcall; have HT := Lib.hid ht; have HRD := Lib.hid hrd; clear hcall hd ht hrd hbd hx
      go_wp2_with fail
      refine HCL.out.mono ?_
      rintro _ W2 ⟨y, rfl, hcy, hr2, hok2, hg2⟩
      have hown2 := hg2.own hI.own hrp
      have hs2 : W.heap.size ≤ W2.heap.size := Nat.le_trans hI.g.size hg2.size
      have hal := (Below.refl W2.heap.size W2).alloc (Nat.le_refl _) (.cells #[.int .i64 y.u, .int .i64 y.n] 56)
      have hown3 := own_below hown2 hal
      have hnews : ∀ (j : Nat) (u : Value), ([Value.int .i64 y.u, Value.int .i64 y.n] : List Value)[j]? = some u → (W2.alloc (.cells #[.int .i64 y.u, .int .i64 y.n] 56)).cell? ((⟨W2.heap.size, 0, none⟩ : Addr).add j) = some u := fun j u hj => by
        rw [add_lit']; exact (new_row W2 #[.int .i64 y.u, .int .i64 y.n] 56 (0, 0)).at_ hj
      have hbs : W.heap.size ≤ (W2.alloc (.cells #[.int .i64 y.u, .int .i64 y.n] 56)).heap.size := Nat.le_trans hs2 hal.size
      have hcl : ∀ u ∈ ([Value.int .i64 y.u, Value.int .i64 y.n] : List Value), u.oneCell' = true := by simp [Value.oneCell']
      have hstep : ∀ p5 c5 w5, w5.ownsRow W.heap.size 56 2 (.slice p5 (k + 1) c5) (k + 1) (ys.flatMap Sh.cells ++ [Value.int .i64 y.u, Value.int .i64 y.n]) → (W2.alloc (.cells #[.int .i64 y.u, .int .i64 y.n] 56)).grownBy w5 (Value.slice p k cp).ownBlock → Si_Sh rp W w5 m r (k + 1) (ys ++ [y]) p5 c5 := fun p5 c5 w5 ho hg => by
        have hbel : Below W.heap.size W2 w5 := (hal.mono hs2).grown hg hbs (fun q hq => (hown3.lt q hq).1)
        have hkt : KT [56] W2 w5 := (KT.of_below hal).trans (KT.of_append hown3 hg)
        refine ⟨by simp [hI.len], by rw [List.map_append, hI.is, HT.out, List.map_singleton, hcy], hr2.keep hbel hrp, ?_, fun W3 h3 z hz => ?_, ?_⟩
        · rw [List.flatMap_append, List.flatMap_singleton]; exact ho
        · rcases List.mem_append.1 hz with hz | hz
          · exact hI.ok W3 (((HRD.out.kt hg2).mono (by decide)).trans ((hkt.mono (by decide)).trans h3)) z hz
          · rw [List.mem_singleton.1 hz]
            exact hok2 W3 ((hkt.mono (by decide)).trans h3)
        · have h0 := G.trans hI.g hg2
          exact ⟨hbel.os.trans h0.os, hbel.tape.trans h0.tape, hbel.output.trans h0.output, Nat.le_trans h0.size hbel.size, fun q hq hne => (hbel.block q hq).trans (h0.block q hq hne)⟩
      have HS := Lib.hid hstep; clear hstep hok2 hr2 hg2 HCL HRD hI hown2 hal cB hcy HT
      go_wp2_with (at_builtin; refine wpList_append_own _ rfl _ _ 23 rfl W.heap.size 56 iT (.agg #[.int .i64 0, .int .i64 0]) 2 16 Try.underlying23 hiT tz0 tz1 tz2 rfl (by decide) _ k _ rfl hown3 ⟨W2.heap.size, 0, none⟩ 1 1 [Value.int .i64 y.u, Value.int .i64 y.n] rfl rfl hnews hcl (by unfold maxLen; omega) (by omega) hbs ?_; intro v5 w5 hrow5 hg5 hv5; obtain ⟨p5, c5, rfl, hle5, hbig5⟩ := own_slice hrow5)
      go_roundw
      case rel => exact ⟨k + 1, ys ++ [y], p5, c5, by omega, by go_num, rfl, HS.out p5 c5 w5 hrow5 hg5⟩
      case measure => simp [intOf]; omega
    · obtain rfl : k = m.length := by omega
      have his := hI.is
      rw [List.take_length] at his
      have hrd := hI.rd
      rw [List.drop_length] at hrd
      have hyl := hI.len
      have hfin : ∀ W3, KT S0 wr W3 → RdSh W3 ⟨p, cp, ys⟩ := fun W3 h3 => by
        refine ⟨?_, fun _ _ => trivial⟩
        have := Sl.of_own (h3.own hI.own (by decide))
        show Sl W3 2 p ys.length cp _
        rw [hyl]; exact this
      have hg := hI.g
      have HF := Lib.hid hfin; have HIs := Lib.hid his; have HY := Lib.hid hyl; have HRD := Lib.hid hrd; clear hfin his hyl hrd hI
      go_wp2_with fail
      go_ret
      exact ⟨⟨p, cp, ys⟩, by show _ = Ending.returned (Value.slice p ys.length cp); rw [HY.out]; rfl, HIs.out, by simpa using HRD.out, HF.out, hg⟩

theorem info_En : (Try.prog.info? 69).map (fun i => (i.zero, i.size, i.bytes)) = some (some (.agg #[.int .i64 0, .int .i64 0, .int .i64 0]), 3, 24) := by kernel_rfl
theorem one_le_En (x : En) : 1 ≤ (En.e x).length := by show 1 ≤ 3; omega
/-- What the round keeps. -/
structure Si_En (rp : Nat) (W wr : World) (m : List (En)) (r : List Int) (k : Nat) (ys : List En) (p : Option Addr) (cp : Nat) : Prop where
  len : ys.length = k
  is : ys.map id = m.take k
  rd : RdrI rp wr ((m.drop k).flatMap En.e ++ r)
  own : wr.ownsRow W.heap.size 69 3 (.slice p k cp) k (ys.flatMap En.cells)
  ok : ∀ W3, KT [69, 75] wr W3 → ∀ y ∈ ys, okT W3 y
  g : G rp W wr
set_option maxRecDepth 100000 in
set_option maxHeartbeats 2000000 in
theorem some_En {rp : Nat} {W : World} {m : List (En)} {r : List Int} {f : FuncId} (h : RdrI rp W (encL En.e m ++ r)) (h1 : OneR rp f En.val okT id En.e [69, 75]) (hl : (encL En.e m ++ r).length ≤ 50000000) :
    Calls Try.prog 34 #[.pointer (some ⟨rp, 0, none⟩), .func (.func f) #[.pointer (some ⟨rp, 0, none⟩)] #[]] W fun res W' => ∃ s : Sv En, res = .returned s.val ∧ s.l.map id = m ∧ RdrI rp W' r ∧ (∀ W3, KT S0 W' W3 → RdEn W3 s) ∧ G rp W W' := by
  have hent := h1.ent
  have hrp := h.lt
  have hnum := num_any (show RdrI rp W ((m.length : Int) :: (m.flatMap En.e ++ r)) from h)
  have hlen : m.length ≤ (m.flatMap En.e ++ r).length := by have := many_le one_le_En m; rw [List.length_append]; omega
  have hl2 : (m.flatMap En.e ++ r).length ≤ 50000000 := by unfold encL at hl; rw [List.cons_append, List.length_cons] at hl; omega
  obtain ⟨iT, hiT, tz0, tz1, tz2⟩ := info_parts info_En
  have hLL : (m.flatMap En.e).length + r.length ≤ 50000000 := by rw [← List.length_append]; exact hl2
  have HLL := Lib.hid hLL; clear hLL
  have HN := Lib.hid hnum; have HC := Lib.hid h1.call; have HL := Lib.hid hl2; clear hnum h h1 hl hl2
  go_enter Try.func34, Try.ntmps34
  go_wp2_with fail
  refine HN.out.mono ?_
  rintro _ W1 ⟨rfl, hr1, hg1⟩
  have hI0 : Si_En rp W W1 m r 0 [] none 0 := ⟨rfl, by simp, by simpa using hr1, World.ownsRow_nil _ _ _ _, fun _ _ y hy => (by cases hy), hg1⟩
  obtain ⟨p, c, hB, hR, hp⟩ := hr1
  have cB := hB.cell 0
  change W1.cell? ⟨rp, 0, none⟩ = some (.slice p _ c) at cB
  have HI0 := Lib.hid hI0
  have hm5 : m.length ≤ 50000000 := by have := HL.out; omega
  clear HN hB hR hp hg1 hI0
  generalize (m.flatMap En.e ++ r).length = n at *
  have q1 : decide ((n : Int) < (m.length : Int)) = false := decide_eq_false (by omega)
  have q2 : decide (n < m.length) = false := decide_eq_false (by omega)
  have q3 : ¬ n < m.length := by omega
  go_wp2_with fail
  go_loopw [6, 7] (fun s6 s7 wr => ∃ (k : Nat) (ys : List En) (p : Option Addr) (cp : Nat), k ≤ m.length ∧ s7 = .int .i64 k ∧ s6 = .slice p k cp ∧ Si_En rp W wr m r k ys p cp) (fun _ s7 _ => m.length - (intOf s7).toNat)
  case atStart => exact ⟨0, [], none, 0, Nat.zero_le _, rfl, rfl, HI0.out⟩
  case round =>
    clear HI0 cB
    obtain ⟨k, ys, p, cp, hk, rfl, rfl, hI⟩ := hrel
    obtain ⟨p0, c0, hB, -, -⟩ := hI.rd
    have cB := hB.cell 1
    change wr.cell? ⟨rp, 1, none⟩ = some (.bool false) at cB
    clear hB
    by_cases hlt : k < m.length
    · obtain ⟨x, hx⟩ : ∃ x, m[k]? = some x := ⟨m[k], List.getElem?_eq_getElem hlt⟩
      have hd : m.drop k = x :: m.drop (k + 1) := by
        rw [List.drop_eq_getElem_cons hlt]
        congr 1
        rw [List.getElem?_eq_getElem hlt] at hx
        exact Option.some.inj hx
      have ht : m.take (k + 1) = m.take k ++ [x] := by rw [List.take_add_one, hx]; rfl
      have hrd := hI.rd
      rw [hd, List.flatMap_cons, List.append_assoc] at hrd
      have hbd : (En.e x ++ ((m.drop (k + 1)).flatMap En.e ++ r)).length ≤ 50000000 := by
        have h1 := fm_drop En.e m k
        rw [hd, List.flatMap_cons] at h1
        have := HLL.out
        simp only [List.length_append] at h1 ⊢
        omega
      have hcall := HC.out wr x _ hrd hbd
      have HCL := Lib.hid hcall; have HT := Lib.hid ht; have HRD := Lib.hid hrd; clear hcall hd ht hrd hbd hx
      go_wp2_with fail
      refine HCL.out.mono ?_
      rintro _ W2 ⟨y, rfl, hcy, hr2, hok2, hg2⟩
      have hown2 := hg2.own hI.own hrp
      have hs2 : W.heap.size ≤ W2.heap.size := Nat.le_trans hI.g.size hg2.size
      have hal := (Below.refl W2.heap.size W2).alloc (Nat.le_refl _) (.cells #[.int .i64 y.c, .int .i64 y.k, .int .i64 y.n] 69)
      have hown3 := own_below hown2 hal
      have hnews : ∀ (j : Nat) (u : Value), ([Value.int .i64 y.c, Value.int .i64 y.k, Value.int .i64 y.n] : List Value)[j]? = some u → (W2.alloc (.cells #[.int .i64 y.c, .int .i64 y.k, .int .i64 y.n] 69)).cell? ((⟨W2.heap.size, 0, none⟩ : Addr).add j) = some u := fun j u hj => by
        rw [add_lit']; exact (new_row W2 #[.int .i64 y.c, .int .i64 y.k, .int .i64 y.n] 69 (0, 0)).at_ hj
      have hbs : W.heap.size ≤ (W2.alloc (.cells #[.int .i64 y.c, .int .i64 y.k, .int .i64 y.n] 69)).heap.size := Nat.le_trans hs2 hal.size
      have hcl : ∀ u ∈ ([Value.int .i64 y.c, Value.int .i64 y.k, Value.int .i64 y.n] : List Value), u.oneCell' = true := by simp [Value.oneCell']
      have hstep : ∀ p5 c5 w5, w5.ownsRow W.heap.size 69 3 (.slice p5 (k + 1) c5) (k + 1) (ys.flatMap En.cells ++ [Value.int .i64 y.c, Value.int .i64 y.k, Value.int .i64 y.n]) → (W2.alloc (.cells #[.int .i64 y.c, .int .i64 y.k, .int .i64 y.n] 69)).grownBy w5 (Value.slice p k cp).ownBlock → Si_En rp W w5 m r (k + 1) (ys ++ [y]) p5 c5 := fun p5 c5 w5 ho hg => by
        have hbel : Below W.heap.size W2 w5 := (hal.mono hs2).grown hg hbs (fun q hq => (hown3.lt q hq).1)
        have hkt : KT [69] W2 w5 := (KT.of_below hal).trans (KT.of_append hown3 hg)
        refine ⟨by simp [hI.len], by rw [List.map_append, hI.is, HT.out, List.map_singleton, hcy], hr2.keep hbel hrp, ?_, fun W3 h3 z hz => ?_, ?_⟩
        · rw [List.flatMap_append, List.flatMap_singleton]; exact ho
        · rcases List.mem_append.1 hz with hz | hz
          · exact hI.ok W3 (((HRD.out.kt hg2).mono (by decide)).trans ((hkt.mono (by decide)).trans h3)) z hz
          · rw [List.mem_singleton.1 hz]
            exact hok2 W3 ((hkt.mono (by decide)).trans h3)
        · have h0 := G.trans hI.g hg2
          exact ⟨hbel.os.trans h0.os, hbel.tape.trans h0.tape, hbel.output.trans h0.output, Nat.le_trans h0.size hbel.size, fun q hq hne => (hbel.block q hq).trans (h0.block q hq hne)⟩
      have HS := Lib.hid hstep; clear hstep hok2 hr2 hg2 HCL HRD hI hown2 hal cB hcy HT
      go_wp2_with (at_builtin; refine wpList_append_own _ rfl _ _ 26 rfl W.heap.size 69 iT (.agg #[.int .i64 0, .int .i64 0, .int .i64 0]) 3 24 Try.underlying26 hiT tz0 tz1 tz2 rfl (by decide) _ k _ rfl hown3 ⟨W2.heap.size, 0, none⟩ 1 1 [Value.int .i64 y.c, Value.int .i64 y.k, Value.int .i64 y.n] rfl rfl hnews hcl (by unfold maxLen; omega) (by omega) hbs ?_; intro v5 w5 hrow5 hg5 hv5; obtain ⟨p5, c5, rfl, hle5, hbig5⟩ := own_slice hrow5)
      go_roundw
      case rel => exact ⟨k + 1, ys ++ [y], p5, c5, by omega, by go_num, rfl, HS.out p5 c5 w5 hrow5 hg5⟩
      case measure => simp [intOf]; omega
    · obtain rfl : k = m.length := by omega
      have his := hI.is
      rw [List.take_length] at his
      have hrd := hI.rd
      rw [List.drop_length] at hrd
      have hyl := hI.len
      have hfin : ∀ W3, KT S0 wr W3 → RdEn W3 ⟨p, cp, ys⟩ := fun W3 h3 => by
        refine ⟨?_, fun _ _ => trivial⟩
        have := Sl.of_own (h3.own hI.own (by decide))
        show Sl W3 3 p ys.length cp _
        rw [hyl]; exact this
      have hg := hI.g
      have HF := Lib.hid hfin; have HIs := Lib.hid his; have HY := Lib.hid hyl; have HRD := Lib.hid hrd; clear hfin his hyl hrd hI
      go_wp2_with fail
      go_ret
      exact ⟨⟨p, cp, ys⟩, by show _ = Ending.returned (Value.slice p ys.length cp); rw [HY.out]; rfl, HIs.out, by simpa using HRD.out, HF.out, hg⟩

theorem info_By : (Try.prog.info? 5).map (fun i => (i.zero, i.size, i.bytes)) = some (some (.int .u8 0), 1, 1) := by kernel_rfl
theorem one_le_By (x : UInt8) : 1 ≤ (byE x).length := by show 1 ≤ 1; omega
/-- What the round keeps. -/
structure Si_By (rp : Nat) (W wr : World) (m : List (UInt8)) (r : List Int) (k : Nat) (ys : List UInt8) (p : Option Addr) (cp : Nat) : Prop where
  len : ys.length = k
  is : ys.map id = m.take k
  rd : RdrI rp wr ((m.drop k).flatMap byE ++ r)
  own : wr.ownsRow W.heap.size 5 1 (.slice p k cp) k (ys.flatMap byCells)
  ok : ∀ W3, KT [5, 75] wr W3 → ∀ y ∈ ys, okT W3 y
  g : G rp W wr
set_option maxRecDepth 100000 in
set_option maxHeartbeats 2000000 in
theorem some_By {rp : Nat} {W : World} {m : List (UInt8)} {r : List Int} {f : FuncId} (h : RdrI rp W (encL byE m ++ r)) (h1 : OneR rp f (fun x : UInt8 => Value.int .u8 (x.toNat : Int)) okT id byE [5, 75]) (hl : (encL byE m ++ r).length ≤ 50000000) :
    Calls Try.prog 47 #[.pointer (some ⟨rp, 0, none⟩), .func (.func f) #[.pointer (some ⟨rp, 0, none⟩)] #[]] W fun res W' => ∃ s : Sv UInt8, res = .returned s.val ∧ s.l.map id = m ∧ RdrI rp W' r ∧ (∀ W3, KT S0 W' W3 → RdBy W3 s) ∧ G rp W W' := by
  have hent := h1.ent
  have hrp := h.lt
  have hnum := num_any (show RdrI rp W ((m.length : Int) :: (m.flatMap byE ++ r)) from h)
  have hlen : m.length ≤ (m.flatMap byE ++ r).length := by have := many_le one_le_By m; rw [List.length_append]; omega
  have hl2 : (m.flatMap byE ++ r).length ≤ 50000000 := by unfold encL at hl; rw [List.cons_append, List.length_cons] at hl; omega
  obtain ⟨iT, hiT, tz0, tz1, tz2⟩ := info_parts info_By
  have hLL : (m.flatMap byE).length + r.length ≤ 50000000 := by rw [← List.length_append]; exact hl2
  have HLL := Lib.hid hLL; clear hLL
  have HN := Lib.hid hnum; have HC := Lib.hid h1.call; have HL := Lib.hid hl2; clear hnum h h1 hl hl2
  go_enter Try.func47, Try.ntmps47
  go_wp2_with fail
  refine HN.out.mono ?_
  rintro _ W1 ⟨rfl, hr1, hg1⟩
  have hI0 : Si_By rp W W1 m r 0 [] none 0 := ⟨rfl, by simp, by simpa using hr1, World.ownsRow_nil _ _ _ _, fun _ _ y hy => (by cases hy), hg1⟩
  obtain ⟨p, c, hB, hR, hp⟩ := hr1
  have cB := hB.cell 0
  change W1.cell? ⟨rp, 0, none⟩ = some (.slice p _ c) at cB
  have HI0 := Lib.hid hI0
  have hm5 : m.length ≤ 50000000 := by have := HL.out; omega
  clear HN hB hR hp hg1 hI0
  generalize (m.flatMap byE ++ r).length = n at *
  have q1 : decide ((n : Int) < (m.length : Int)) = false := decide_eq_false (by omega)
  have q2 : decide (n < m.length) = false := decide_eq_false (by omega)
  have q3 : ¬ n < m.length := by omega
  go_wp2_with fail
  go_loopw [6, 7] (fun s6 s7 wr => ∃ (k : Nat) (ys : List UInt8) (p : Option Addr) (cp : Nat), k ≤ m.length ∧ s7 = .int .i64 k ∧ s6 = .slice p k cp ∧ Si_By rp W wr m r k ys p cp) (fun _ s7 _ => m.length - (intOf s7).toNat)
  case atStart => exact ⟨0, [], none, 0, Nat.zero_le _, rfl, rfl, HI0.out⟩
  case round =>
    clear HI0 cB
    obtain ⟨k, ys, p, cp, hk, rfl, rfl, hI⟩ := hrel
    obtain ⟨p0, c0, hB, -, -⟩ := hI.rd
    have cB := hB.cell 1
    change wr.cell? ⟨rp, 1, none⟩ = some (.bool false) at cB
    clear hB
    by_cases hlt : k < m.length
    · obtain ⟨x, hx⟩ : ∃ x, m[k]? = some x := ⟨m[k], List.getElem?_eq_getElem hlt⟩
      have hd : m.drop k = x :: m.drop (k + 1) := by
        rw [List.drop_eq_getElem_cons hlt]
        congr 1
        rw [List.getElem?_eq_getElem hlt] at hx
        exact Option.some.inj hx
      have ht : m.take (k + 1) = m.take k ++ [x] := by rw [List.take_add_one, hx]; rfl
      have hrd := hI.rd
      rw [hd, List.flatMap_cons, List.append_assoc] at hrd
      have hbd : (byE x ++ ((m.drop (k + 1)).flatMap byE ++ r)).length ≤ 50000000 := by
        have h1 := fm_drop byE m k
        rw [hd, List.flatMap_cons] at h1
        have := HLL.out
        simp only [List.length_append] at h1 ⊢
        omega
      have hcall := HC.out wr x _ hrd hbd
      have HCL := Lib.hid hcall; have HT := Lib.hid ht; have HRD := Lib.hid hrd; clear hcall hd ht hrd hbd hx
      go_wp2_with fail
      refine HCL.out.mono ?_
      rintro _ W2 ⟨y, rfl, hcy, hr2, hok2, hg2⟩
      have hown2 := hg2.own hI.own hrp
      have hs2 : W.heap.size ≤ W2.heap.size := Nat.le_trans hI.g.size hg2.size
      have hal := (Below.refl W2.heap.size W2).alloc (Nat.le_refl _) (.cells #[.int .u8 (y.toNat : Int)] 5)
      have hown3 := own_below hown2 hal
      have hnews : ∀ (j : Nat) (u : Value), ([Value.int .u8 (y.toNat : Int)] : List Value)[j]? = some u → (W2.alloc (.cells #[.int .u8 (y.toNat : Int)] 5)).cell? ((⟨W2.heap.size, 0, none⟩ : Addr).add j) = some u := fun j u hj => by
        rw [add_lit']; exact (new_row W2 #[.int .u8 (y.toNat : Int)] 5 (0, 0)).at_ hj
      have hbs : W.heap.size ≤ (W2.alloc (.cells #[.int .u8 (y.toNat : Int)] 5)).heap.size := Nat.le_trans hs2 hal.size
      have hcl : ∀ u ∈ ([Value.int .u8 (y.toNat : Int)] : List Value), u.oneCell' = true := by simp [Value.oneCell']
      have hstep : ∀ p5 c5 w5, w5.ownsRow W.heap.size 5 1 (.slice p5 (k + 1) c5) (k + 1) (ys.flatMap byCells ++ [Value.int .u8 (y.toNat : Int)]) → (W2.alloc (.cells #[.int .u8 (y.toNat : Int)] 5)).grownBy w5 (Value.slice p k cp).ownBlock → Si_By rp W w5 m r (k + 1) (ys ++ [y]) p5 c5 := fun p5 c5 w5 ho hg => by
        have hbel : Below W.heap.size W2 w5 := (hal.mono hs2).grown hg hbs (fun q hq => (hown3.lt q hq).1)
        have hkt : KT [5] W2 w5 := (KT.of_below hal).trans (KT.of_append hown3 hg)
        refine ⟨by simp [hI.len], by rw [List.map_append, hI.is, HT.out, List.map_singleton, hcy], hr2.keep hbel hrp, ?_, fun W3 h3 z hz => ?_, ?_⟩
        · rw [List.flatMap_append, List.flatMap_singleton]; exact ho
        · rcases List.mem_append.1 hz with hz | hz
          · exact hI.ok W3 (((HRD.out.kt hg2).mono (by decide)).trans ((hkt.mono (by decide)).trans h3)) z hz
          · rw [List.mem_singleton.1 hz]
            exact hok2 W3 ((hkt.mono (by decide)).trans h3)
        · have h0 := G.trans hI.g hg2
          exact ⟨hbel.os.trans h0.os, hbel.tape.trans h0.tape, hbel.output.trans h0.output, Nat.le_trans h0.size hbel.size, fun q hq hne => (hbel.block q hq).trans (h0.block q hq hne)⟩
      have HS := Lib.hid hstep; clear hstep hok2 hr2 hg2 HCL HRD hI hown2 hal cB hcy HT
      go_wp2_with (at_builtin; refine wpList_append_own _ rfl _ _ 97 rfl W.heap.size 5 iT (.int .u8 0) 1 1 Try.underlying97 hiT tz0 tz1 tz2 rfl (by decide) _ k _ rfl hown3 ⟨W2.heap.size, 0, none⟩ 1 1 [Value.int .u8 (y.toNat : Int)] rfl rfl hnews hcl (by unfold maxLen; omega) (by omega) hbs ?_; intro v5 w5 hrow5 hg5 hv5; obtain ⟨p5, c5, rfl, hle5, hbig5⟩ := own_slice hrow5)
      go_roundw
      case rel => exact ⟨k + 1, ys ++ [y], p5, c5, by omega, by go_num, rfl, HS.out p5 c5 w5 hrow5 hg5⟩
      case measure => simp [intOf]; omega
    · obtain rfl : k = m.length := by omega
      have his := hI.is
      rw [List.take_length] at his
      have hrd := hI.rd
      rw [List.drop_length] at hrd
      have hyl := hI.len
      have hfin : ∀ W3, KT S0 wr W3 → RdBy W3 ⟨p, cp, ys⟩ := fun W3 h3 => by
        refine ⟨?_, fun _ _ => trivial⟩
        have := Sl.of_own (h3.own hI.own (by decide))
        show Sl W3 1 p ys.length cp _
        rw [hyl]; exact this
      have hg := hI.g
      have HF := Lib.hid hfin; have HIs := Lib.hid his; have HY := Lib.hid hyl; have HRD := Lib.hid hrd; clear hfin his hyl hrd hI
      go_wp2_with fail
      go_ret
      exact ⟨⟨p, cp, ys⟩, by show _ = Ending.returned (Value.slice p ys.length cp); rw [HY.out]; rfl, HIs.out, by simpa using HRD.out, HF.out, hg⟩

theorem info_Tx : (Try.prog.info? 9).map (fun i => (i.zero, i.size, i.bytes)) = some (some (.string ⟨#[]⟩), 1, 16) := by kernel_rfl
theorem one_le_Tx (x : List UInt8) : 1 ≤ (txE x).length := by unfold txE encL; simp
/-- What the round keeps. -/
structure Si_Tx (rp : Nat) (W wr : World) (m : List (List UInt8)) (r : List Int) (k : Nat) (ys : List ByteArray) (p : Option Addr) (cp : Nat) : Prop where
  len : ys.length = k
  is : ys.map txC = m.take k
  rd : RdrI rp wr ((m.drop k).flatMap txE ++ r)
  own : wr.ownsRow W.heap.size 9 1 (.slice p k cp) k (ys.flatMap txCells)
  ok : ∀ W3, KT [9, 75] wr W3 → ∀ y ∈ ys, okT W3 y
  g : G rp W wr
set_option maxRecDepth 100000 in
set_option maxHeartbeats 2000000 in
theorem some_Tx {rp : Nat} {W : World} {m : List (List UInt8)} {r : List Int} {f : FuncId} (h : RdrI rp W (encL txE m ++ r)) (h1 : OneR rp f Value.string okT txC txE [9, 75]) (hl : (encL txE m ++ r).length ≤ 50000000) :
    Calls Try.prog 30 #[.pointer (some ⟨rp, 0, none⟩), .func (.func f) #[.pointer (some ⟨rp, 0, none⟩)] #[]] W fun res W' => ∃ s : Sv ByteArray, res = .returned s.val ∧ s.l.map txC = m ∧ RdrI rp W' r ∧ (∀ W3, KT S0 W' W3 → RdTx W3 s) ∧ G rp W W' := by
  have hent := h1.ent
  have hrp := h.lt
  have hnum := num_any (show RdrI rp W ((m.length : Int) :: (m.flatMap txE ++ r)) from h)
  have hlen : m.length ≤ (m.flatMap txE ++ r).length := by have := many_le one_le_Tx m; rw [List.length_append]; omega
  have hl2 : (m.flatMap txE ++ r).length ≤ 50000000 := by unfold encL at hl; rw [List.cons_append, List.length_cons] at hl; omega
  obtain ⟨iT, hiT, tz0, tz1, tz2⟩ := info_parts info_Tx
  have hLL : (m.flatMap txE).length + r.length ≤ 50000000 := by rw [← List.length_append]; exact hl2
  have HLL := Lib.hid hLL; clear hLL
  have HN := Lib.hid hnum; have HC := Lib.hid h1.call; have HL := Lib.hid hl2; clear hnum h h1 hl hl2
  go_enter Try.func30, Try.ntmps30
  go_wp2_with fail
  refine HN.out.mono ?_
  rintro _ W1 ⟨rfl, hr1, hg1⟩
  have hI0 : Si_Tx rp W W1 m r 0 [] none 0 := ⟨rfl, by simp, by simpa using hr1, World.ownsRow_nil _ _ _ _, fun _ _ y hy => (by cases hy), hg1⟩
  obtain ⟨p, c, hB, hR, hp⟩ := hr1
  have cB := hB.cell 0
  change W1.cell? ⟨rp, 0, none⟩ = some (.slice p _ c) at cB
  have HI0 := Lib.hid hI0
  have hm5 : m.length ≤ 50000000 := by have := HL.out; omega
  clear HN hB hR hp hg1 hI0
  generalize (m.flatMap txE ++ r).length = n at *
  have q1 : decide ((n : Int) < (m.length : Int)) = false := decide_eq_false (by omega)
  have q2 : decide (n < m.length) = false := decide_eq_false (by omega)
  have q3 : ¬ n < m.length := by omega
  go_wp2_with fail
  go_loopw [6, 7] (fun s6 s7 wr => ∃ (k : Nat) (ys : List ByteArray) (p : Option Addr) (cp : Nat), k ≤ m.length ∧ s7 = .int .i64 k ∧ s6 = .slice p k cp ∧ Si_Tx rp W wr m r k ys p cp) (fun _ s7 _ => m.length - (intOf s7).toNat)
  case atStart => exact ⟨0, [], none, 0, Nat.zero_le _, rfl, rfl, HI0.out⟩
  case round =>
    clear HI0 cB
    obtain ⟨k, ys, p, cp, hk, rfl, rfl, hI⟩ := hrel
    obtain ⟨p0, c0, hB, -, -⟩ := hI.rd
    have cB := hB.cell 1
    change wr.cell? ⟨rp, 1, none⟩ = some (.bool false) at cB
    clear hB
    by_cases hlt : k < m.length
    · obtain ⟨x, hx⟩ : ∃ x, m[k]? = some x := ⟨m[k], List.getElem?_eq_getElem hlt⟩
      have hd : m.drop k = x :: m.drop (k + 1) := by
        rw [List.drop_eq_getElem_cons hlt]
        congr 1
        rw [List.getElem?_eq_getElem hlt] at hx
        exact Option.some.inj hx
      have ht : m.take (k + 1) = m.take k ++ [x] := by rw [List.take_add_one, hx]; rfl
      have hrd := hI.rd
      rw [hd, List.flatMap_cons, List.append_assoc] at hrd
      have hbd : (txE x ++ ((m.drop (k + 1)).flatMap txE ++ r)).length ≤ 50000000 := by
        have h1 := fm_drop txE m k
        rw [hd, List.flatMap_cons] at h1
        have := HLL.out
        simp only [List.length_append] at h1 ⊢
        omega
      have hcall := HC.out wr x _ hrd hbd
      have HCL := Lib.hid hcall; have HT := Lib.hid ht; have HRD := Lib.hid hrd; clear hcall hd ht hrd hbd hx
      go_wp2_with fail
      refine HCL.out.mono ?_
      rintro _ W2 ⟨y, rfl, hcy, hr2, hok2, hg2⟩
      have hown2 := hg2.own hI.own hrp
      have hs2 : W.heap.size ≤ W2.heap.size := Nat.le_trans hI.g.size hg2.size
      have hal := (Below.refl W2.heap.size W2).alloc (Nat.le_refl _) (.cells #[.string y] 9)
      have hown3 := own_below hown2 hal
      have hnews : ∀ (j : Nat) (u : Value), ([Value.string y] : List Value)[j]? = some u → (W2.alloc (.cells #[.string y] 9)).cell? ((⟨W2.heap.size, 0, none⟩ : Addr).add j) = some u := fun j u hj => by
        rw [add_lit']; exact (new_row W2 #[.string y] 9 (0, 0)).at_ hj
      have hbs : W.heap.size ≤ (W2.alloc (.cells #[.string y] 9)).heap.size := Nat.le_trans hs2 hal.size
      have hcl : ∀ u ∈ ([Value.string y] : List Value), u.oneCell' = true := by simp [Value.oneCell']
      have hstep : ∀ p5 c5 w5, w5.ownsRow W.heap.size 9 1 (.slice p5 (k + 1) c5) (k + 1) (ys.flatMap txCells ++ [Value.string y]) → (W2.alloc (.cells #[.string y] 9)).grownBy w5 (Value.slice p k cp).ownBlock → Si_Tx rp W w5 m r (k + 1) (ys ++ [y]) p5 c5 := fun p5 c5 w5 ho hg => by
        have hbel : Below W.heap.size W2 w5 := (hal.mono hs2).grown hg hbs (fun q hq => (hown3.lt q hq).1)
        have hkt : KT [9] W2 w5 := (KT.of_below hal).trans (KT.of_append hown3 hg)
        refine ⟨by simp [hI.len], by rw [List.map_append, hI.is, HT.out, List.map_singleton, hcy], hr2.keep hbel hrp, ?_, fun W3 h3 z hz => ?_, ?_⟩
        · rw [List.flatMap_append, List.flatMap_singleton]; exact ho
        · rcases List.mem_append.1 hz with hz | hz
          · exact hI.ok W3 (((HRD.out.kt hg2).mono (by decide)).trans ((hkt.mono (by decide)).trans h3)) z hz
          · rw [List.mem_singleton.1 hz]
            exact hok2 W3 ((hkt.mono (by decide)).trans h3)
        · have h0 := G.trans hI.g hg2
          exact ⟨hbel.os.trans h0.os, hbel.tape.trans h0.tape, hbel.output.trans h0.output, Nat.le_trans h0.size hbel.size, fun q hq hne => (hbel.block q hq).trans (h0.block q hq hne)⟩
      have HS := Lib.hid hstep; clear hstep hok2 hr2 hg2 HCL HRD hI hown2 hal cB hcy HT
      go_wp2_with (at_builtin; refine wpList_append_own _ rfl _ _ 24 rfl W.heap.size 9 iT (.string ⟨#[]⟩) 1 16 Try.underlying24 hiT tz0 tz1 tz2 rfl (by decide) _ k _ rfl hown3 ⟨W2.heap.size, 0, none⟩ 1 1 [Value.string y] rfl rfl hnews hcl (by unfold maxLen; omega) (by omega) hbs ?_; intro v5 w5 hrow5 hg5 hv5; obtain ⟨p5, c5, rfl, hle5, hbig5⟩ := own_slice hrow5)
      go_roundw
      case rel => exact ⟨k + 1, ys ++ [y], p5, c5, by omega, by go_num, rfl, HS.out p5 c5 w5 hrow5 hg5⟩
      case measure => simp [intOf]; omega
    · obtain rfl : k = m.length := by omega
      have his := hI.is
      rw [List.take_length] at his
      have hrd := hI.rd
      rw [List.drop_length] at hrd
      have hyl := hI.len
      have hfin : ∀ W3, KT S0 wr W3 → RdTx W3 ⟨p, cp, ys⟩ := fun W3 h3 => by
        refine ⟨?_, fun _ _ => trivial⟩
        have := Sl.of_own (h3.own hI.own (by decide))
        show Sl W3 1 p ys.length cp _
        rw [hyl]; exact this
      have hg := hI.g
      have HF := Lib.hid hfin; have HIs := Lib.hid his; have HY := Lib.hid hyl; have HRD := Lib.hid hrd; clear hfin his hyl hrd hI
      go_wp2_with fail
      go_ret
      exact ⟨⟨p, cp, ys⟩, by show _ = Ending.returned (Value.slice p ys.length cp); rw [HY.out]; rfl, HIs.out, by simpa using HRD.out, HF.out, hg⟩

theorem info_Fr : (Try.prog.info? 94).map (fun i => (i.zero, i.size, i.bytes)) = some (some (.agg #[.int .i64 0, .int .i64 0, .int .i64 0, .int .i64 0, .int .i64 0, .int .i64 0, .slice none 0 0, .slice none 0 0]), 8, 96) := by kernel_rfl
theorem one_le_Fr (x : FrC) : 1 ≤ (FrC.e x).length := by simp [FrC.e]
/-- What the round keeps. -/
structure Si_Fr (rp : Nat) (W wr : World) (m : List (FrC)) (r : List Int) (k : Nat) (ys : List Fr) (p : Option Addr) (cp : Nat) : Prop where
  len : ys.length = k
  is : ys.map Fr.c = m.take k
  rd : RdrI rp wr ((m.drop k).flatMap FrC.e ++ r)
  own : wr.ownsRow W.heap.size 94 8 (.slice p k cp) k (ys.flatMap Fr.cells)
  ok : ∀ W3, KT S0 wr W3 → ∀ y ∈ ys, Fr.ok W3 y
  g : G rp W wr
set_option maxRecDepth 100000 in
set_option maxHeartbeats 2000000 in
theorem some_Fr {rp : Nat} {W : World} {m : List (FrC)} {r : List Int} {f : FuncId} (h : RdrI rp W (encL FrC.e m ++ r)) (h1 : OneR rp f Fr.val Fr.ok Fr.c FrC.e S0) (hl : (encL FrC.e m ++ r).length ≤ 50000000) :
    Calls Try.prog 45 #[.pointer (some ⟨rp, 0, none⟩), .func (.func f) #[.pointer (some ⟨rp, 0, none⟩)] #[]] W fun res W' => ∃ s : Sv Fr, res = .returned s.val ∧ s.l.map Fr.c = m ∧ RdrI rp W' r ∧ (∀ W3, KT S1 W' W3 → RdFr W3 s) ∧ G rp W W' := by
  have hent := h1.ent
  have hrp := h.lt
  have hnum := num_any (show RdrI rp W ((m.length : Int) :: (m.flatMap FrC.e ++ r)) from h)
  have hlen : m.length ≤ (m.flatMap FrC.e ++ r).length := by have := many_le one_le_Fr m; rw [List.length_append]; omega
  have hl2 : (m.flatMap FrC.e ++ r).length ≤ 50000000 := by unfold encL at hl; rw [List.cons_append, List.length_cons] at hl; omega
  obtain ⟨iT, hiT, tz0, tz1, tz2⟩ := info_parts info_Fr
  have hLL : (m.flatMap FrC.e).length + r.length ≤ 50000000 := by rw [← List.length_append]; exact hl2
  have HLL := Lib.hid hLL; clear hLL
  have HN := Lib.hid hnum; have HC := Lib.hid h1.call; have HL := Lib.hid hl2; clear hnum h h1 hl hl2
  go_enter Try.func45, Try.ntmps45
  go_wp2_with fail
  refine HN.out.mono ?_
  rintro _ W1 ⟨rfl, hr1, hg1⟩
  have hI0 : Si_Fr rp W W1 m r 0 [] none 0 := ⟨rfl, by simp, by simpa using hr1, World.ownsRow_nil _ _ _ _, fun _ _ y hy => (by cases hy), hg1⟩
  obtain ⟨p, c, hB, hR, hp⟩ := hr1
  have cB := hB.cell 0
  change W1.cell? ⟨rp, 0, none⟩ = some (.slice p _ c) at cB
  have HI0 := Lib.hid hI0
  have hm5 : m.length ≤ 50000000 := by have := HL.out; omega
  clear HN hB hR hp hg1 hI0
  generalize (m.flatMap FrC.e ++ r).length = n at *
  have q1 : decide ((n : Int) < (m.length : Int)) = false := decide_eq_false (by omega)
  have q2 : decide (n < m.length) = false := decide_eq_false (by omega)
  have q3 : ¬ n < m.length := by omega
  go_wp2_with fail
  go_loopw [6, 7] (fun s6 s7 wr => ∃ (k : Nat) (ys : List Fr) (p : Option Addr) (cp : Nat), k ≤ m.length ∧ s7 = .int .i64 k ∧ s6 = .slice p k cp ∧ Si_Fr rp W wr m r k ys p cp) (fun _ s7 _ => m.length - (intOf s7).toNat)
  case atStart => exact ⟨0, [], none, 0, Nat.zero_le _, rfl, rfl, HI0.out⟩
  case round =>
    clear HI0 cB
    obtain ⟨k, ys, p, cp, hk, rfl, rfl, hI⟩ := hrel
    obtain ⟨p0, c0, hB, -, -⟩ := hI.rd
    have cB := hB.cell 1
    change wr.cell? ⟨rp, 1, none⟩ = some (.bool false) at cB
    clear hB
    by_cases hlt : k < m.length
    · obtain ⟨x, hx⟩ : ∃ x, m[k]? = some x := ⟨m[k], List.getElem?_eq_getElem hlt⟩
      have hd : m.drop k = x :: m.drop (k + 1) := by
        rw [List.drop_eq_getElem_cons hlt]
        congr 1
        rw [List.getElem?_eq_getElem hlt] at hx
        exact Option.some.inj hx
      have ht : m.take (k + 1) = m.take k ++ [x] := by rw [List.take_add_one, hx]; rfl
      have hrd := hI.rd
      rw [hd, List.flatMap_cons, List.append_assoc] at hrd
      have hbd : (FrC.e x ++ ((m.drop (k + 1)).flatMap FrC.e ++ r)).length ≤ 50000000 := by
        have h1 := fm_drop FrC.e m k
        rw [hd, List.flatMap_cons] at h1
        have := HLL.out
        simp only [List.length_append] at h1 ⊢
        omega
      have hcall := HC.out wr x _ hrd hbd
      have HCL := Lib.hid hcall; have HT := Lib.hid ht; have HRD := Lib.hid hrd; clear hcall hd ht hrd hbd hx
      go_wp2_with fail
      refine HCL.out.mono ?_
      rintro _ W2 ⟨y, rfl, hcy, hr2, hok2, hg2⟩
      have hown2 := hg2.own hI.own hrp
      have hs2 : W.heap.size ≤ W2.heap.size := Nat.le_trans hI.g.size hg2.size
      have hal := (Below.refl W2.heap.size W2).alloc (Nat.le_refl _) (.cells #[.int .i64 y.f1, .int .i64 y.f2, .int .i64 y.f3, .int .i64 y.f4, .int .i64 y.sk, .int .i64 y.sn, y.regs.val, y.tries.val] 94)
      have hown3 := own_below hown2 hal
      have hnews : ∀ (j : Nat) (u : Value), ([Value.int .i64 y.f1, Value.int .i64 y.f2, Value.int .i64 y.f3, Value.int .i64 y.f4, Value.int .i64 y.sk, Value.int .i64 y.sn, y.regs.val, y.tries.val] : List Value)[j]? = some u → (W2.alloc (.cells #[.int .i64 y.f1, .int .i64 y.f2, .int .i64 y.f3, .int .i64 y.f4, .int .i64 y.sk, .int .i64 y.sn, y.regs.val, y.tries.val] 94)).cell? ((⟨W2.heap.size, 0, none⟩ : Addr).add j) = some u := fun j u hj => by
        rw [add_lit']; exact (new_row W2 #[.int .i64 y.f1, .int .i64 y.f2, .int .i64 y.f3, .int .i64 y.f4, .int .i64 y.sk, .int .i64 y.sn, y.regs.val, y.tries.val] 94 (0, 0)).at_ hj
      have hbs : W.heap.size ≤ (W2.alloc (.cells #[.int .i64 y.f1, .int .i64 y.f2, .int .i64 y.f3, .int .i64 y.f4, .int .i64 y.sk, .int .i64 y.sn, y.regs.val, y.tries.val] 94)).heap.size := Nat.le_trans hs2 hal.size
      have hcl : ∀ u ∈ ([Value.int .i64 y.f1, Value.int .i64 y.f2, Value.int .i64 y.f3, Value.int .i64 y.f4, Value.int .i64 y.sk, Value.int .i64 y.sn, y.regs.val, y.tries.val] : List Value), u.oneCell' = true := by simp [Value.oneCell']
      have hstep : ∀ p5 c5 w5, w5.ownsRow W.heap.size 94 8 (.slice p5 (k + 1) c5) (k + 1) (ys.flatMap Fr.cells ++ [Value.int .i64 y.f1, Value.int .i64 y.f2, Value.int .i64 y.f3, Value.int .i64 y.f4, Value.int .i64 y.sk, Value.int .i64 y.sn, y.regs.val, y.tries.val]) → (W2.alloc (.cells #[.int .i64 y.f1, .int .i64 y.f2, .int .i64 y.f3, .int .i64 y.f4, .int .i64 y.sk, .int .i64 y.sn, y.regs.val, y.tries.val] 94)).grownBy w5 (Value.slice p k cp).ownBlock → Si_Fr rp W w5 m r (k + 1) (ys ++ [y]) p5 c5 := fun p5 c5 w5 ho hg => by
        have hbel : Below W.heap.size W2 w5 := (hal.mono hs2).grown hg hbs (fun q hq => (hown3.lt q hq).1)
        have hkt : KT [94] W2 w5 := (KT.of_below hal).trans (KT.of_append hown3 hg)
        refine ⟨by simp [hI.len], by rw [List.map_append, hI.is, HT.out, List.map_singleton, hcy], hr2.keep hbel hrp, ?_, fun W3 h3 z hz => ?_, ?_⟩
        · rw [List.flatMap_append, List.flatMap_singleton]; exact ho
        · rcases List.mem_append.1 hz with hz | hz
          · exact hI.ok W3 (((HRD.out.kt hg2).mono (by decide)).trans ((hkt.mono (by decide)).trans h3)) z hz
          · rw [List.mem_singleton.1 hz]
            exact hok2 W3 ((hkt.mono (by decide)).trans h3)
        · have h0 := G.trans hI.g hg2
          exact ⟨hbel.os.trans h0.os, hbel.tape.trans h0.tape, hbel.output.trans h0.output, Nat.le_trans h0.size hbel.size, fun q hq hne => (hbel.block q hq).trans (h0.block q hq hne)⟩
      have HS := Lib.hid hstep; clear hstep hok2 hr2 hg2 HCL HRD hI hown2 hal cB hcy HT
      go_wp2_with (at_builtin; refine wpList_append_own _ rfl _ _ 50 rfl W.heap.size 94 iT (.agg #[.int .i64 0, .int .i64 0, .int .i64 0, .int .i64 0, .int .i64 0, .int .i64 0, .slice none 0 0, .slice none 0 0]) 8 96 Try.underlying50 hiT tz0 tz1 tz2 rfl (by decide) _ k _ rfl hown3 ⟨W2.heap.size, 0, none⟩ 1 1 [Value.int .i64 y.f1, Value.int .i64 y.f2, Value.int .i64 y.f3, Value.int .i64 y.f4, Value.int .i64 y.sk, Value.int .i64 y.sn, y.regs.val, y.tries.val] rfl rfl hnews hcl (by unfold maxLen; omega) (by omega) hbs ?_; intro v5 w5 hrow5 hg5 hv5; obtain ⟨p5, c5, rfl, hle5, hbig5⟩ := own_slice hrow5)
      go_roundw
      case rel => exact ⟨k + 1, ys ++ [y], p5, c5, by omega, by go_num, rfl, HS.out p5 c5 w5 hrow5 hg5⟩
      case measure => simp [intOf]; omega
    · obtain rfl : k = m.length := by omega
      have his := hI.is
      rw [List.take_length] at his
      have hrd := hI.rd
      rw [List.drop_length] at hrd
      have hyl := hI.len
      have hfin : ∀ W3, KT S1 wr W3 → RdFr W3 ⟨p, cp, ys⟩ := fun W3 h3 => by
        refine ⟨?_, hI.ok W3 (h3.mono (by decide))⟩
        have := Sl.of_own (h3.own hI.own (by decide))
        show Sl W3 8 p ys.length cp _
        rw [hyl]; exact this
      have hg := hI.g
      have HF := Lib.hid hfin; have HIs := Lib.hid his; have HY := Lib.hid hyl; have HRD := Lib.hid hrd; clear hfin his hyl hrd hI
      go_wp2_with fail
      go_ret
      exact ⟨⟨p, cp, ys⟩, by show _ = Ending.returned (Value.slice p ys.length cp); rw [HY.out]; rfl, HIs.out, by simpa using HRD.out, HF.out, hg⟩

theorem info_Ce : (Try.prog.info? 52).map (fun i => (i.zero, i.size, i.bytes)) = some (some (.agg #[.int .i64 0, .int .i64 0, .slice none 0 0, .slice none 0 0]), 4, 64) := by kernel_rfl
theorem one_le_Ce (x : CeC) : 1 ≤ (CeC.e x).length := by simp [CeC.e]
/-- What the round keeps. -/
structure Si_Ce (rp : Nat) (W wr : World) (m : List (CeC)) (r : List Int) (k : Nat) (ys : List Ce) (p : Option Addr) (cp : Nat) : Prop where
  len : ys.length = k
  is : ys.map Ce.c = m.take k
  rd : RdrI rp wr ((m.drop k).flatMap CeC.e ++ r)
  own : wr.ownsRow W.heap.size 52 4 (.slice p k cp) k (ys.flatMap Ce.cells)
  ok : ∀ W3, KT S1 wr W3 → ∀ y ∈ ys, Ce.ok W3 y
  g : G rp W wr
set_option maxRecDepth 100000 in
set_option maxHeartbeats 2000000 in
theorem some_Ce {rp : Nat} {W : World} {m : List (CeC)} {r : List Int} {f : FuncId} (h : RdrI rp W (encL CeC.e m ++ r)) (h1 : OneR rp f Ce.val Ce.ok Ce.c CeC.e S1) (hl : (encL CeC.e m ++ r).length ≤ 50000000) :
    Calls Try.prog 26 #[.pointer (some ⟨rp, 0, none⟩), .func (.func f) #[.pointer (some ⟨rp, 0, none⟩)] #[]] W fun res W' => ∃ s : Sv Ce, res = .returned s.val ∧ s.l.map Ce.c = m ∧ RdrI rp W' r ∧ (∀ W3, KT S2 W' W3 → RdCe W3 s) ∧ G rp W W' := by
  have hent := h1.ent
  have hrp := h.lt
  have hnum := num_any (show RdrI rp W ((m.length : Int) :: (m.flatMap CeC.e ++ r)) from h)
  have hlen : m.length ≤ (m.flatMap CeC.e ++ r).length := by have := many_le one_le_Ce m; rw [List.length_append]; omega
  have hl2 : (m.flatMap CeC.e ++ r).length ≤ 50000000 := by unfold encL at hl; rw [List.cons_append, List.length_cons] at hl; omega
  obtain ⟨iT, hiT, tz0, tz1, tz2⟩ := info_parts info_Ce
  have hLL : (m.flatMap CeC.e).length + r.length ≤ 50000000 := by rw [← List.length_append]; exact hl2
  have HLL := Lib.hid hLL; clear hLL
  have HN := Lib.hid hnum; have HC := Lib.hid h1.call; have HL := Lib.hid hl2; clear hnum h h1 hl hl2
  go_enter Try.func26, Try.ntmps26
  go_wp2_with fail
  refine HN.out.mono ?_
  rintro _ W1 ⟨rfl, hr1, hg1⟩
  have hI0 : Si_Ce rp W W1 m r 0 [] none 0 := ⟨rfl, by simp, by simpa using hr1, World.ownsRow_nil _ _ _ _, fun _ _ y hy => (by cases hy), hg1⟩
  obtain ⟨p, c, hB, hR, hp⟩ := hr1
  have cB := hB.cell 0
  change W1.cell? ⟨rp, 0, none⟩ = some (.slice p _ c) at cB
  have HI0 := Lib.hid hI0
  have hm5 : m.length ≤ 50000000 := by have := HL.out; omega
  clear HN hB hR hp hg1 hI0
  generalize (m.flatMap CeC.e ++ r).length = n at *
  have q1 : decide ((n : Int) < (m.length : Int)) = false := decide_eq_false (by omega)
  have q2 : decide (n < m.length) = false := decide_eq_false (by omega)
  have q3 : ¬ n < m.length := by omega
  go_wp2_with fail
  go_loopw [6, 7] (fun s6 s7 wr => ∃ (k : Nat) (ys : List Ce) (p : Option Addr) (cp : Nat), k ≤ m.length ∧ s7 = .int .i64 k ∧ s6 = .slice p k cp ∧ Si_Ce rp W wr m r k ys p cp) (fun _ s7 _ => m.length - (intOf s7).toNat)
  case atStart => exact ⟨0, [], none, 0, Nat.zero_le _, rfl, rfl, HI0.out⟩
  case round =>
    clear HI0 cB
    obtain ⟨k, ys, p, cp, hk, rfl, rfl, hI⟩ := hrel
    obtain ⟨p0, c0, hB, -, -⟩ := hI.rd
    have cB := hB.cell 1
    change wr.cell? ⟨rp, 1, none⟩ = some (.bool false) at cB
    clear hB
    by_cases hlt : k < m.length
    · obtain ⟨x, hx⟩ : ∃ x, m[k]? = some x := ⟨m[k], List.getElem?_eq_getElem hlt⟩
      have hd : m.drop k = x :: m.drop (k + 1) := by
        rw [List.drop_eq_getElem_cons hlt]
        congr 1
        rw [List.getElem?_eq_getElem hlt] at hx
        exact Option.some.inj hx
      have ht : m.take (k + 1) = m.take k ++ [x] := by rw [List.take_add_one, hx]; rfl
      have hrd := hI.rd
      rw [hd, List.flatMap_cons, List.append_assoc] at hrd
      have hbd : (CeC.e x ++ ((m.drop (k + 1)).flatMap CeC.e ++ r)).length ≤ 50000000 := by
        have h1 := fm_drop CeC.e m k
        rw [hd, List.flatMap_cons] at h1
        have := HLL.out
        simp only [List.length_append] at h1 ⊢
        omega
      have hcall := HC.out wr x _ hrd hbd
      have HCL := Lib.hid hcall; have HT := Lib.hid ht; have HRD := Lib.hid hrd; clear hcall hd ht hrd hbd hx
      go_wp2_with fail
      refine HCL.out.mono ?_
      rintro _ W2 ⟨y, rfl, hcy, hr2, hok2, hg2⟩
      have hown2 := hg2.own hI.own hrp
      have hs2 : W.heap.size ≤ W2.heap.size := Nat.le_trans hI.g.size hg2.size
      have hal := (Below.refl W2.heap.size W2).alloc (Nat.le_refl _) (.cells #[.int .i64 y.kd, .int .i64 y.nm, y.vals.val, y.frames.val] 52)
      have hown3 := own_below hown2 hal
      have hnews : ∀ (j : Nat) (u : Value), ([Value.int .i64 y.kd, Value.int .i64 y.nm, y.vals.val, y.frames.val] : List Value)[j]? = some u → (W2.alloc (.cells #[.int .i64 y.kd, .int .i64 y.nm, y.vals.val, y.frames.val] 52)).cell? ((⟨W2.heap.size, 0, none⟩ : Addr).add j) = some u := fun j u hj => by
        rw [add_lit']; exact (new_row W2 #[.int .i64 y.kd, .int .i64 y.nm, y.vals.val, y.frames.val] 52 (0, 0)).at_ hj
      have hbs : W.heap.size ≤ (W2.alloc (.cells #[.int .i64 y.kd, .int .i64 y.nm, y.vals.val, y.frames.val] 52)).heap.size := Nat.le_trans hs2 hal.size
      have hcl : ∀ u ∈ ([Value.int .i64 y.kd, Value.int .i64 y.nm, y.vals.val, y.frames.val] : List Value), u.oneCell' = true := by simp [Value.oneCell']
      have hstep : ∀ p5 c5 w5, w5.ownsRow W.heap.size 52 4 (.slice p5 (k + 1) c5) (k + 1) (ys.flatMap Ce.cells ++ [Value.int .i64 y.kd, Value.int .i64 y.nm, y.vals.val, y.frames.val]) → (W2.alloc (.cells #[.int .i64 y.kd, .int .i64 y.nm, y.vals.val, y.frames.val] 52)).grownBy w5 (Value.slice p k cp).ownBlock → Si_Ce rp W w5 m r (k + 1) (ys ++ [y]) p5 c5 := fun p5 c5 w5 ho hg => by
        have hbel : Below W.heap.size W2 w5 := (hal.mono hs2).grown hg hbs (fun q hq => (hown3.lt q hq).1)
        have hkt : KT [52] W2 w5 := (KT.of_below hal).trans (KT.of_append hown3 hg)
        refine ⟨by simp [hI.len], by rw [List.map_append, hI.is, HT.out, List.map_singleton, hcy], hr2.keep hbel hrp, ?_, fun W3 h3 z hz => ?_, ?_⟩
        · rw [List.flatMap_append, List.flatMap_singleton]; exact ho
        · rcases List.mem_append.1 hz with hz | hz
          · exact hI.ok W3 (((HRD.out.kt hg2).mono (by decide)).trans ((hkt.mono (by decide)).trans h3)) z hz
          · rw [List.mem_singleton.1 hz]
            exact hok2 W3 ((hkt.mono (by decide)).trans h3)
        · have h0 := G.trans hI.g hg2
          exact ⟨hbel.os.trans h0.os, hbel.tape.trans h0.tape, hbel.output.trans h0.output, Nat.le_trans h0.size hbel.size, fun q hq hne => (hbel.block q hq).trans (h0.block q hq hne)⟩
      have HS := Lib.hid hstep; clear hstep hok2 hr2 hg2 HCL HRD hI hown2 hal cB hcy HT
      go_wp2_with (at_builtin; refine wpList_append_own _ rfl _ _ 22 rfl W.heap.size 52 iT (.agg #[.int .i64 0, .int .i64 0, .slice none 0 0, .slice none 0 0]) 4 64 Try.underlying22 hiT tz0 tz1 tz2 rfl (by decide) _ k _ rfl hown3 ⟨W2.heap.size, 0, none⟩ 1 1 [Value.int .i64 y.kd, Value.int .i64 y.nm, y.vals.val, y.frames.val] rfl rfl hnews hcl (by unfold maxLen; omega) (by omega) hbs ?_; intro v5 w5 hrow5 hg5 hv5; obtain ⟨p5, c5, rfl, hle5, hbig5⟩ := own_slice hrow5)
      go_roundw
      case rel => exact ⟨k + 1, ys ++ [y], p5, c5, by omega, by go_num, rfl, HS.out p5 c5 w5 hrow5 hg5⟩
      case measure => simp [intOf]; omega
    · obtain rfl : k = m.length := by omega
      have his := hI.is
      rw [List.take_length] at his
      have hrd := hI.rd
      rw [List.drop_length] at hrd
      have hyl := hI.len
      have hfin : ∀ W3, KT S2 wr W3 → RdCe W3 ⟨p, cp, ys⟩ := fun W3 h3 => by
        refine ⟨?_, hI.ok W3 (h3.mono (by decide))⟩
        have := Sl.of_own (h3.own hI.own (by decide))
        show Sl W3 4 p ys.length cp _
        rw [hyl]; exact this
      have hg := hI.g
      have HF := Lib.hid hfin; have HIs := Lib.hid his; have HY := Lib.hid hyl; have HRD := Lib.hid hrd; clear hfin his hyl hrd hI
      go_wp2_with fail
      go_ret
      exact ⟨⟨p, cp, ys⟩, by show _ = Ending.returned (Value.slice p ys.length cp); rw [HY.out]; rfl, HIs.out, by simpa using HRD.out, HF.out, hg⟩

theorem info_Th : (Try.prog.info? 65).map (fun i => (i.zero, i.size, i.bytes)) = some (some (.agg #[.slice none 0 0, .int .i64 0, .int .i64 0, .int .i64 0, .int .i64 0]), 5, 56) := by kernel_rfl
theorem one_le_Th (x : ThC) : 1 ≤ (ThC.e x).length := by simp [ThC.e]
/-- What the round keeps. -/
structure Si_Th (rp : Nat) (W wr : World) (m : List (ThC)) (r : List Int) (k : Nat) (ys : List Th) (p : Option Addr) (cp : Nat) : Prop where
  len : ys.length = k
  is : ys.map Th.c = m.take k
  rd : RdrI rp wr ((m.drop k).flatMap ThC.e ++ r)
  own : wr.ownsRow W.heap.size 65 5 (.slice p k cp) k (ys.flatMap Th.cells)
  ok : ∀ W3, KT S1 wr W3 → ∀ y ∈ ys, Th.ok W3 y
  g : G rp W wr
set_option maxRecDepth 100000 in
set_option maxHeartbeats 2000000 in
theorem some_Th {rp : Nat} {W : World} {m : List (ThC)} {r : List Int} {f : FuncId} (h : RdrI rp W (encL ThC.e m ++ r)) (h1 : OneR rp f Th.val Th.ok Th.c ThC.e S1) (hl : (encL ThC.e m ++ r).length ≤ 50000000) :
    Calls Try.prog 32 #[.pointer (some ⟨rp, 0, none⟩), .func (.func f) #[.pointer (some ⟨rp, 0, none⟩)] #[]] W fun res W' => ∃ s : Sv Th, res = .returned s.val ∧ s.l.map Th.c = m ∧ RdrI rp W' r ∧ (∀ W3, KT S2 W' W3 → RdTh W3 s) ∧ G rp W W' := by
  have hent := h1.ent
  have hrp := h.lt
  have hnum := num_any (show RdrI rp W ((m.length : Int) :: (m.flatMap ThC.e ++ r)) from h)
  have hlen : m.length ≤ (m.flatMap ThC.e ++ r).length := by have := many_le one_le_Th m; rw [List.length_append]; omega
  have hl2 : (m.flatMap ThC.e ++ r).length ≤ 50000000 := by unfold encL at hl; rw [List.cons_append, List.length_cons] at hl; omega
  obtain ⟨iT, hiT, tz0, tz1, tz2⟩ := info_parts info_Th
  have hLL : (m.flatMap ThC.e).length + r.length ≤ 50000000 := by rw [← List.length_append]; exact hl2
  have HLL := Lib.hid hLL; clear hLL
  have HN := Lib.hid hnum; have HC := Lib.hid h1.call; have HL := Lib.hid hl2; clear hnum h h1 hl hl2
  go_enter Try.func32, Try.ntmps32
  go_wp2_with fail
  refine HN.out.mono ?_
  rintro _ W1 ⟨rfl, hr1, hg1⟩
  have hI0 : Si_Th rp W W1 m r 0 [] none 0 := ⟨rfl, by simp, by simpa using hr1, World.ownsRow_nil _ _ _ _, fun _ _ y hy => (by cases hy), hg1⟩
  obtain ⟨p, c, hB, hR, hp⟩ := hr1
  have cB := hB.cell 0
  change W1.cell? ⟨rp, 0, none⟩ = some (.slice p _ c) at cB
  have HI0 := Lib.hid hI0
  have hm5 : m.length ≤ 50000000 := by have := HL.out; omega
  clear HN hB hR hp hg1 hI0
  generalize (m.flatMap ThC.e ++ r).length = n at *
  have q1 : decide ((n : Int) < (m.length : Int)) = false := decide_eq_false (by omega)
  have q2 : decide (n < m.length) = false := decide_eq_false (by omega)
  have q3 : ¬ n < m.length := by omega
  go_wp2_with fail
  go_loopw [6, 7] (fun s6 s7 wr => ∃ (k : Nat) (ys : List Th) (p : Option Addr) (cp : Nat), k ≤ m.length ∧ s7 = .int .i64 k ∧ s6 = .slice p k cp ∧ Si_Th rp W wr m r k ys p cp) (fun _ s7 _ => m.length - (intOf s7).toNat)
  case atStart => exact ⟨0, [], none, 0, Nat.zero_le _, rfl, rfl, HI0.out⟩
  case round =>
    clear HI0 cB
    obtain ⟨k, ys, p, cp, hk, rfl, rfl, hI⟩ := hrel
    obtain ⟨p0, c0, hB, -, -⟩ := hI.rd
    have cB := hB.cell 1
    change wr.cell? ⟨rp, 1, none⟩ = some (.bool false) at cB
    clear hB
    by_cases hlt : k < m.length
    · obtain ⟨x, hx⟩ : ∃ x, m[k]? = some x := ⟨m[k], List.getElem?_eq_getElem hlt⟩
      have hd : m.drop k = x :: m.drop (k + 1) := by
        rw [List.drop_eq_getElem_cons hlt]
        congr 1
        rw [List.getElem?_eq_getElem hlt] at hx
        exact Option.some.inj hx
      have ht : m.take (k + 1) = m.take k ++ [x] := by rw [List.take_add_one, hx]; rfl
      have hrd := hI.rd
      rw [hd, List.flatMap_cons, List.append_assoc] at hrd
      have hbd : (ThC.e x ++ ((m.drop (k + 1)).flatMap ThC.e ++ r)).length ≤ 50000000 := by
        have h1 := fm_drop ThC.e m k
        rw [hd, List.flatMap_cons] at h1
        have := HLL.out
        simp only [List.length_append] at h1 ⊢
        omega
      have hcall := HC.out wr x _ hrd hbd
      have HCL := Lib.hid hcall; have HT := Lib.hid ht; have HRD := Lib.hid hrd; clear hcall hd ht hrd hbd hx
      go_wp2_with fail
      refine HCL.out.mono ?_
      rintro _ W2 ⟨y, rfl, hcy, hr2, hok2, hg2⟩
      have hown2 := hg2.own hI.own hrp
      have hs2 : W.heap.size ≤ W2.heap.size := Nat.le_trans hI.g.size hg2.size
      have hal := (Below.refl W2.heap.size W2).alloc (Nat.le_refl _) (.cells #[y.frames.val, .int .i64 y.st, .int .i64 y.on, .int .i64 y.vk, .int .i64 y.vn] 65)
      have hown3 := own_below hown2 hal
      have hnews : ∀ (j : Nat) (u : Value), ([y.frames.val, Value.int .i64 y.st, Value.int .i64 y.on, Value.int .i64 y.vk, Value.int .i64 y.vn] : List Value)[j]? = some u → (W2.alloc (.cells #[y.frames.val, .int .i64 y.st, .int .i64 y.on, .int .i64 y.vk, .int .i64 y.vn] 65)).cell? ((⟨W2.heap.size, 0, none⟩ : Addr).add j) = some u := fun j u hj => by
        rw [add_lit']; exact (new_row W2 #[y.frames.val, .int .i64 y.st, .int .i64 y.on, .int .i64 y.vk, .int .i64 y.vn] 65 (0, 0)).at_ hj
      have hbs : W.heap.size ≤ (W2.alloc (.cells #[y.frames.val, .int .i64 y.st, .int .i64 y.on, .int .i64 y.vk, .int .i64 y.vn] 65)).heap.size := Nat.le_trans hs2 hal.size
      have hcl : ∀ u ∈ ([y.frames.val, Value.int .i64 y.st, Value.int .i64 y.on, Value.int .i64 y.vk, Value.int .i64 y.vn] : List Value), u.oneCell' = true := by simp [Value.oneCell']
      have hstep : ∀ p5 c5 w5, w5.ownsRow W.heap.size 65 5 (.slice p5 (k + 1) c5) (k + 1) (ys.flatMap Th.cells ++ [y.frames.val, Value.int .i64 y.st, Value.int .i64 y.on, Value.int .i64 y.vk, Value.int .i64 y.vn]) → (W2.alloc (.cells #[y.frames.val, .int .i64 y.st, .int .i64 y.on, .int .i64 y.vk, .int .i64 y.vn] 65)).grownBy w5 (Value.slice p k cp).ownBlock → Si_Th rp W w5 m r (k + 1) (ys ++ [y]) p5 c5 := fun p5 c5 w5 ho hg => by
        have hbel : Below W.heap.size W2 w5 := (hal.mono hs2).grown hg hbs (fun q hq => (hown3.lt q hq).1)
        have hkt : KT [65] W2 w5 := (KT.of_below hal).trans (KT.of_append hown3 hg)
        refine ⟨by simp [hI.len], by rw [List.map_append, hI.is, HT.out, List.map_singleton, hcy], hr2.keep hbel hrp, ?_, fun W3 h3 z hz => ?_, ?_⟩
        · rw [List.flatMap_append, List.flatMap_singleton]; exact ho
        · rcases List.mem_append.1 hz with hz | hz
          · exact hI.ok W3 (((HRD.out.kt hg2).mono (by decide)).trans ((hkt.mono (by decide)).trans h3)) z hz
          · rw [List.mem_singleton.1 hz]
            exact hok2 W3 ((hkt.mono (by decide)).trans h3)
        · have h0 := G.trans hI.g hg2
          exact ⟨hbel.os.trans h0.os, hbel.tape.trans h0.tape, hbel.output.trans h0.output, Nat.le_trans h0.size hbel.size, fun q hq hne => (hbel.block q hq).trans (h0.block q hq hne)⟩
      have HS := Lib.hid hstep; clear hstep hok2 hr2 hg2 HCL HRD hI hown2 hal cB hcy HT
      go_wp2_with (at_builtin; refine wpList_append_own _ rfl _ _ 25 rfl W.heap.size 65 iT (.agg #[.slice none 0 0, .int .i64 0, .int .i64 0, .int .i64 0, .int .i64 0]) 5 56 Try.underlying25 hiT tz0 tz1 tz2 rfl (by decide) _ k _ rfl hown3 ⟨W2.heap.size, 0, none⟩ 1 1 [y.frames.val, Value.int .i64 y.st, Value.int .i64 y.on, Value.int .i64 y.vk, Value.int .i64 y.vn] rfl rfl hnews hcl (by unfold maxLen; omega) (by omega) hbs ?_; intro v5 w5 hrow5 hg5 hv5; obtain ⟨p5, c5, rfl, hle5, hbig5⟩ := own_slice hrow5)
      go_roundw
      case rel => exact ⟨k + 1, ys ++ [y], p5, c5, by omega, by go_num, rfl, HS.out p5 c5 w5 hrow5 hg5⟩
      case measure => simp [intOf]; omega
    · obtain rfl : k = m.length := by omega
      have his := hI.is
      rw [List.take_length] at his
      have hrd := hI.rd
      rw [List.drop_length] at hrd
      have hyl := hI.len
      have hfin : ∀ W3, KT S2 wr W3 → RdTh W3 ⟨p, cp, ys⟩ := fun W3 h3 => by
        refine ⟨?_, hI.ok W3 (h3.mono (by decide))⟩
        have := Sl.of_own (h3.own hI.own (by decide))
        show Sl W3 5 p ys.length cp _
        rw [hyl]; exact this
      have hg := hI.g
      have HF := Lib.hid hfin; have HIs := Lib.hid his; have HY := Lib.hid hyl; have HRD := Lib.hid hrd; clear hfin his hyl hrd hI
      go_wp2_with fail
      go_ret
      exact ⟨⟨p, cp, ys⟩, by show _ = Ending.returned (Value.slice p ys.length cp); rw [HY.out]; rfl, HIs.out, by simpa using HRD.out, HF.out, hg⟩

end Go.Proofs.Ythdleldnjoamlaa
