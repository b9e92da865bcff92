/-
  Tt, Top, Vo, Sh, in one.
-/
import Derived.Test.YtngklbnodknadaaGreatDoorMak
import Derived.Test.YtngklbnodknadaaGreatDoorRows
import Derived.ChangeSame
import Derived.ChangeArms
import Derived.Deep.Slices
import Derived.Lib.LaidTab
import Derived.Shelf.Vars
import Derived.Lib.Space
import Derived.Lib.ItoaNum
import Derived.WalkKit
import Derived.ProofKit
import Derived.OpenShut
import Derived.Deep.DeepHandedRow
import Derived.Deep.DeepWitnessRowRef
import Derived.LaidMore
section
namespace Go.Proofs.YtngklbnodknadaaGreatDoor
open Go.ChangeShapes Go.WideShapes Go.ChangeAt Go.RowKit Go.Deep
set_option maxRecDepth 100000

def litF {H : Type} : DataW H → List Value
  | .lit l => [l.value]
  | _ => []
/-- The cells of a plain value, or of a struct of two. -/
def pairF {H : Type} : DataW H → List Value
  | .agg [a, b] => litF a ++ litF b
  | d => litF d
section
variable {H : Type} {enc : TypeId × Value → H} {P : Program} {w : World} {base : Nat} {spare : Nat → Bool} {held : Bool}
/-- Whatever of type E reads as d has d's cells. -/
def Ex (enc : TypeId × Value → H) (P : Program) (w : World) (base : Nat) (spare : Nat → Bool) (held : Bool) (E : TypeId) (F : DataW H → List Value) (d : DataW H) : Prop :=
  ∀ (fuel : Nat) (cs : List Value) (p : List MemPlace), DataW.trod enc P w base spare held fuel E cs = some (d, p) → cs = F d
theorem ex_int {t : TypeId} {k : IntKind} {d : DataW H} (ht : P.underlying t = some (.int k)) : Ex enc P w base spare held t litF d := fun fuel cs p h => by
  obtain ⟨n, rfl, e, -⟩ := DataW.trod_int ht h
  cases e; rfl
theorem ex_str {t : TypeId} {d : DataW H} (ht : P.underlying t = some .string) : Ex enc P w base spare held t litF d := fun fuel cs p h => by
  obtain ⟨s, rfl, e, -⟩ := DataW.trod_string ht h
  cases e
  show [Value.string s] = [Value.string ⟨s.data.toList.toArray⟩]
  rw [Array.toArray_toList]
theorem ex_bool {t : TypeId} {d : DataW H} (ht : P.underlying t = some .bool) : Ex enc P w base spare held t litF d := fun fuel cs p h => by
  obtain ⟨b, rfl, e⟩ := DataW.trod_bool ht h
  cases e; rfl
theorem ex_float {t : TypeId} {k : FloatKind} {d : DataW H} (ht : P.underlying t = some (.float k)) : Ex enc P w base spare held t litF d := fun fuel cs p h => by
  cases fuel with
  | zero => simp [DataW.trod] at h
  | succ n =>
    unfold DataW.trod at h
    rw [ht] at h
    split at h <;> simp_all
    obtain ⟨-, rfl, -⟩ := h
    rfl
theorem ex_two {t : TypeId} {f0 f1 : Field} {d : DataW H} (ht : P.underlying t = some (.struct #[f0, f1])) (hc : P.cellsOf t = 2) (hc0 : P.cellsOf f0.type = 1) (hc1 : P.cellsOf f1.type = 1) (ho0 : f0.offset = 0) (ho1 : f1.offset = 1)
    (h0 : ∀ d, Ex enc P w base spare held f0.type litF d) (h1 : ∀ d, Ex enc P w base spare held f1.type litF d) : Ex enc P w base spare held t pairF d := fun fuel cs p h => by
  obtain ⟨y0, y1, n, e, hl, e0, e1⟩ := trod_struct2 ht h
  rw [ho0, hc0, List.drop_zero] at e0
  rw [ho1, hc1] at e1
  have k0 := h0 _ _ _ _ e0
  have k1 := h1 _ _ _ _ e1
  cases e
  show cs = litF y0.1 ++ litF y1.1
  rw [← k0, ← k1]
  rw [hc] at hl
  match cs, hl with
  | [a, b], _ => rfl
theorem ex_one {t : TypeId} {d : DataW H} (h : Ex enc P w base spare held t litF d) (hd : ∀ a b, d ≠ .agg [a, b]) : Ex enc P w base spare held t pairF d := fun fuel cs p hr => by
  rw [h fuel cs p hr]
  unfold pairF
  split
  · next a b => exact absurd rfl (hd a b)
  · rfl
theorem pieces {α : Type} {F : α → List Value} {k : Nat} : ∀ (ds : List α) (cs : List Value), cs.length = ds.length * k → (∀ i d, ds[i]? = some d → (cs.drop (i * k)).take k = F d) → cs = ds.flatMap F
  | [], cs, h, _ => by
    simp at h
    subst h; rfl
  | d :: ds, cs, h, hp => by
    rw [List.flatMap_cons]
    have h0 := hp 0 d rfl
    rw [Nat.zero_mul, List.drop_zero] at h0
    have h1 := pieces (F := F) (k := k) ds (cs.drop k) (by rw [List.length_drop, h, List.length_cons, Nat.succ_mul]; omega) fun i e he => by
      have := hp (i + 1) e (by simpa using he)
      rw [List.drop_drop]
      rwa [Nat.succ_mul, Nat.add_comm (i * k) k] at this
    rw [← h0, ← h1, List.take_append_drop]
theorem ex_arr {t e : TypeId} {n k : Nat} {F : DataW H → List Value} {ds : List (DataW H)} {fuel : Nat} {cs : List Value} {p : List MemPlace} (ht : P.underlying t = some (.array n e)) (hce : P.cellsOf e = k) (hct : P.cellsOf t = n * k)
    (hE : ∀ d ∈ ds, Ex enc P w base spare held e F d) (h : DataW.trod enc P w base spare held fuel t cs = some (.agg ds, p)) : cs = ds.flatMap F := by
  cases fuel with
  | zero => simp [DataW.trod] at h
  | succ fuel =>
    simp only [DataW.trod, ht, hce, hct] at h
    split at h
    · rename_i hl
      obtain ⟨xs, hm, hx⟩ := Option.map_eq_some_iff.1 h
      have hxs : xs.map (·.1) = ds := by
        have := congrArg Prod.fst hx
        simpa using this
      have hxl : xs.length = n := by simpa using Lib.mapM_length hm
      have hdl : ds.length = n := by rw [← hxs, List.length_map, hxl]
      refine pieces (k := k) ds cs (by rw [hl, hdl]) fun i d hi => ?_
      have hin : i < n := by rw [← hdl]; exact (List.getElem?_eq_some_iff.1 hi).1
      obtain ⟨b, hb, hf⟩ := Lib.mapM_at hm i i (by simp [hin])
      have hbd : b.1 = d := by
        rw [← hxs, List.getElem?_map, hb] at hi
        simpa using hi
      obtain ⟨b1, b2⟩ := b
      subst hbd
      exact hE _ (List.mem_of_getElem? hi) _ _ _ hf
    · cases h
theorem ex_sl {t e : TypeId} {k : Nat} {F : DataW H → List Value} {ds rest : List (DataW H)} {fuel : Nat} {cs : List Value} {p : List MemPlace} (ht : P.underlying t = some (.slice e)) (hce : P.cellsOf e = k) (hk : 0 < k) (hd : 0 < ds.length)
    (hE : ∀ d ∈ ds, Ex enc P w base spare held e F d) (h : DataW.trod enc P w base spare held fuel t cs = some (.slice ds rest, p)) :
    ∃ b off c, cs = [.slice (some ⟨b, off, none⟩) ds.length c] ∧ ds.length ≤ c ∧ c ≤ 9223372036854775807 ∧ b < w.heap.size ∧ ∀ i, i < ds.length * k → w.cell? ⟨b, off + i, none⟩ = (ds.flatMap F)[i]? := by
  rcases open_slice ht h with ⟨-, e0⟩ | ⟨a, len, cap, m, n, D, Pl, rfl, -, hl, hm, hmm, hxx, hall⟩
  · cases e0
  · rw [hce] at hall
    have hlm : len ≤ m := by rw [hmm]; split <;> omega
    have hds : ds = (List.range len).map D := by cases hxx; rfl
    have hlen : ds.length = len := by rw [hds, List.length_map, List.length_range]
    have key : ∀ i, i ≤ len → (((List.range i).map D).flatMap F).length = i * k ∧ ∀ j, j < i * k → w.cell? (a.add j) = (((List.range i).map D).flatMap F)[j]? := by
      intro i
      induction i with
      | zero => intro _; exact ⟨by simp, fun j h => by omega⟩
      | succ i ih =>
        intro hi
        obtain ⟨h2, h5⟩ := ih (by omega)
        obtain ⟨cs', hc, htr⟩ := hall i (by omega)
        obtain ⟨-, hlen', hat⟩ := World.cells?_some hc
        have hF : cs' = F (D i) := hE (D i) (by rw [hds]; exact List.mem_map_of_mem (List.mem_range.2 (by omega))) _ _ _ htr
        have e1 : ((List.range (i + 1)).map D).flatMap F = ((List.range i).map D).flatMap F ++ cs' := by
          rw [List.range_succ, List.map_append, List.flatMap_append, hF]
          simp
        rw [e1]
        refine ⟨by rw [List.length_append, h2, hlen', Nat.succ_mul], fun j hj => ?_⟩
        by_cases hji : j < i * k
        · rw [List.getElem?_append_left (by omega)]; exact h5 j hji
        · rw [Nat.succ_mul] at hj
          have := hat (j - i * k) (by omega)
          rw [Go.Deep.add_add, show i * k + (j - i * k) = j from by omega] at this
          rw [List.getElem?_append_right (by omega), h2]
          exact this
    obtain ⟨h2, h5⟩ := key len (Nat.le_refl _)
    rw [← hds] at h2 h5
    have hx0 : 0 < len * k := Nat.mul_pos (by omega) hk
    obtain ⟨b, off, spot⟩ := a
    have h1 := h5 0 hx0
    rw [List.getElem?_eq_getElem (by omega)] at h1
    have hs : spot = none := by simpa [Addr.add] using World.cell?_spot h1
    subst hs
    refine ⟨b, off, cap, by rw [hlen], by omega, by unfold maxLen at hm; exact hm, ?_, fun i hi => ?_⟩
    · have h6 := h1
      rw [add_lit'] at h6
      by_cases hb : b < w.heap.size
      · exact hb
      · exfalso
        unfold World.cell? at h6
        dsimp only at h6
        rw [Array.getElem?_eq_none (by omega)] at h6
        cases h6
    · have := h5 i (by rw [← hlen]; exact hi)
      rw [add_lit'] at this
      exact this
end
/-! The digits, by fuel. -/
def ddF : Nat → Nat → List UInt8
  | 0, _ => []
  | f + 1, u => if u < 10 then [UInt8.ofNat (48 + u)] else ddF f (u / 10) ++ [UInt8.ofNat (48 + u % 10)]
theorem ddF_eq : ∀ (f u : Nat), u < 10 ^ f → 0 < f → ddF f u = Lib.decDigits u
  | 0, u, h, h0 => by omega
  | f + 1, u, h, _ => by
    rw [Lib.decDigits]
    unfold ddF
    by_cases hu : u < 10
    · rw [if_pos hu, dif_pos hu]
    · rw [if_neg hu, dif_neg hu, ddF_eq f (u / 10) (by rw [Nat.pow_succ] at h; omega) (by
        cases f with
        | zero => simp at h; omega
        | succ f => omega)]
def ndF : Nat → Nat → Nat
  | 0, _ => 0
  | f + 1, u => if u < 10 then 1 else ndF f (u / 10) + 1
theorem ndF_eq : ∀ (f u : Nat), u < 10 ^ f → 0 < f → ndF f u = Lib.nDigits u
  | 0, u, h, h0 => by omega
  | f + 1, u, h, _ => by
    rw [Lib.nDigits]
    unfold ndF
    by_cases hu : u < 10
    · rw [if_pos hu, dif_pos hu]
    · rw [if_neg hu, dif_neg hu, ndF_eq f (u / 10) (by rw [Nat.pow_succ] at h; omega) (by
        cases f with
        | zero => simp at h; omega
        | succ f => omega)]
def leftF : List Value := (List.range 61).flatMap fun k => [.int .i64 ((if k = 0 then 0 else ndF 50 (2 ^ k) : Nat) : Int), .string ⟨(if k = 0 then [] else ddF 50 (5 ^ k)).toArray⟩]
theorem leftF_eq : leftF = leftV := by
  unfold leftF leftV
  have key : ∀ l : List Nat, (∀ k ∈ l, k < 61) → (l.flatMap fun k => [Value.int .i64 ((if k = 0 then 0 else ndF 50 (2 ^ k) : Nat) : Int), .string ⟨(if k = 0 then [] else ddF 50 (5 ^ k)).toArray⟩]) = l.flatMap fun k => [.int .i64 ((if k = 0 then 0 else Lib.nDigits (2 ^ k) : Nat) : Int), .string ⟨(if k = 0 then [] else Lib.decDigits (5 ^ k)).toArray⟩] := by
    intro l
    induction l with
    | nil => intro _; rfl
    | cons k l ih =>
      intro hl
      rw [List.flatMap_cons, List.flatMap_cons, ih fun j hj => hl j (List.mem_cons_of_mem _ hj)]
      have hk := hl k List.mem_cons_self
      have h5 : 5 ^ k < 10 ^ 50 := Nat.lt_of_le_of_lt (Nat.pow_le_pow_right (by decide) (show k ≤ 60 by omega)) (by decide +kernel)
      have h2 : 2 ^ k < 10 ^ 50 := Nat.lt_of_le_of_lt (Nat.pow_le_pow_right (by decide) (show k ≤ 60 by omega)) (by decide +kernel)
      rw [ndF_eq 50 _ h2 (by decide), ddF_eq 50 _ h5 (by decide)]
  exact key _ fun k hk => List.mem_range.1 hk
theorem left_cells : (Go.Pinned.cheatRows.map fun x => (DataW.agg [.lit (.int .i64 x.1), .lit (.string x.2)] : DataW Unit)).flatMap pairF = leftV := by
  rw [← leftF_eq]
  kernel_rfl
theorem pow10_cells : (Go.Pinned.pow10Rows.map fun x => (DataW.agg [.lit (.int .u64 x.1), .lit (.int .u64 x.2)] : DataW Unit)).flatMap pairF = pow10TabV := by kernel_rfl
section
variable {H : Type} {enc : TypeId × Value → H} {w : World} {base : Nat} {spare : Nat → Bool} {held : Bool}
theorem pm_ex (d : DataW H) : Ex enc Tryz.prog w base spare held 214 pairF d := ex_two Tryz.underlying214 (by kernel_rfl) (by kernel_rfl) (by kernel_rfl) rfl rfl (fun _ => ex_int (t := 70) (k := .u64) (by kernel_rfl)) fun _ => ex_int (t := 70) (k := .u64) (by kernel_rfl)
theorem lc_ex (d : DataW H) : Ex enc Tryz.prog w base spare held 225 pairF d := ex_two Tryz.underlying225 (by kernel_rfl) (by kernel_rfl) (by kernel_rfl) rfl rfl (fun _ => ex_int (t := 3) (k := .i64) (by kernel_rfl)) fun _ => ex_str (t := 9) (by kernel_rfl)
theorem info_cells {fuel : Nat} {cs : List Value} {p : List MemPlace} (h : DataW.trod enc Tryz.prog w base spare held fuel 169 cs = some (Rows.laid_internal_strconv_float64info, p)) : cs = infoV := by
  obtain ⟨xs, n, -, e, hl, hlen, hf⟩ := DataW.trod_struct Tryz.underlying169 h
  have hcv : Tryz.prog.cellsOf 169 = 3 := by kernel_rfl
  have hc1 : Tryz.prog.cellsOf 89 = 1 := by kernel_rfl
  have hc3 : Tryz.prog.cellsOf 3 = 1 := by kernel_rfl
  rw [hcv] at hl
  have h0 : DataW.trod enc Tryz.prog w base spare held n 89 ((cs.drop 0).take (Tryz.prog.cellsOf 89)) = xs[0]? := hf 0 _ rfl
  have h1 : DataW.trod enc Tryz.prog w base spare held n 89 ((cs.drop 1).take (Tryz.prog.cellsOf 89)) = xs[1]? := hf 1 _ rfl
  have h2 : DataW.trod enc Tryz.prog w base spare held n 3 ((cs.drop 2).take (Tryz.prog.cellsOf 3)) = xs[2]? := hf 2 _ rfl
  rw [hc1] at h0 h1
  rw [hc3] at h2
  have hu : Tryz.prog.underlying 89 = some (.int .u64) := by kernel_rfl
  have hi : Tryz.prog.underlying 3 = some (.int .i64) := by kernel_rfl
  have hlen : xs.length = 3 := hlen
  match cs, hl, xs, hlen with
  | [a0, a1, a2], _, [x0, x1, x2], _ =>
    have k0 := ex_int hu _ _ _ (show DataW.trod enc Tryz.prog w base spare held n 89 [a0] = some (x0.1, x0.2) from h0)
    have k1 := ex_int hu _ _ _ (show DataW.trod enc Tryz.prog w base spare held n 89 [a1] = some (x1.1, x1.2) from h1)
    have k2 := ex_int hi _ _ _ (show DataW.trod enc Tryz.prog w base spare held n 3 [a2] = some (x2.1, x2.2) from h2)
    have e' : (Rows.laid_internal_strconv_float64info : DataW H) = .agg [x0.1, x1.1, x2.1] := congrArg Prod.fst e
    unfold Rows.laid_internal_strconv_float64info at e'
    injection e' with e'
    injection e' with e0 e'
    injection e' with e1 e'
    injection e' with e2 e'
    rw [← e0] at k0
    rw [← e1] at k1
    rw [← e2] at k2
    injection k0 with k0
    injection k1 with k1
    injection k2 with k2
    rw [k0, k1, k2]
    rfl
end
theorem stab_mk {W : World} {g n k b off c : Nat} {t : TypeId} {fr : Nat × Nat} {cs : Array Value} {ds : List (DataW Unit)} {X l : List Value} (hX : X = l) (hn : ds.length = n) (hl : Nat.ble X.length (n * k) = true) (hh : W.heap[g]? = some (.cells cs t fr)) (e : cs.toList = [.slice (some ⟨b, off, none⟩) ds.length c])
    (h1 : ds.length ≤ c) (h2 : c ≤ 9223372036854775807) (h3 : b < W.heap.size) (h4 : ∀ i, i < ds.length * k → W.cell? ⟨b, off + i, none⟩ = X[i]?) : ∃ b, STab W (g, n, l) b := by
  subst hX hn
  have hc : cs = #[.slice (some ⟨b, off, none⟩) ds.length c] := by
    apply Array.ext'
    rw [e]
  subst hc
  exact ⟨b, off, c, t, fr, hh, h1, h2, h3, fun i hi => h4 i (Nat.lt_of_lt_of_le hi (Nat.le_of_ble_eq_true hl))⟩
theorem own : ownKnob Tryz.prog.godebug = none := by kernel_rfl
theorem laidOut : laidOutB Tryz.prog = true := by kernel_rfl
theorem err_of {H : Type} {enc : TypeId × Value → H} {w : World} {base : Nat} {sp : Nat → Bool} {fuel : Nat} {t : TypeId} {ms : Array (String × TypeId)} {cs : List Value} {n : String} {d : DataW H} {p : List MemPlace} (ht : Tryz.prog.underlying t = some (.interface ms))
    (h : DataW.trod enc Tryz.prog w base sp false fuel t cs = some (.iface n d, p)) : ∃ u v, cs = [.iface u v] := by
  cases fuel with
  | zero => simp [DataW.trod] at h
  | succ fuel =>
    match cs with
    | [] => simp [DataW.trod, ht] at h
    | [x] => cases x <;> first | exact ⟨_, _, rfl⟩ | (simp [DataW.trod, ht] at h)
    | x :: y :: l => simp [DataW.trod, ht] at h
theorem var_block {W : World} {name : String} {g : Nat} {cs : Array Value} (hg : Tryz.prog.globalNamed name = some g) (h : W.var? Tryz.prog name = some cs) : ∃ t fr, W.heap[g]? = some (.cells cs t fr) := by
  unfold World.var? at h
  rw [hg] at h
  simp only [Option.bind_some] at h
  split at h
  · next cs' t fr hh => cases h; exact ⟨t, fr, hh⟩
  · cases h
/-- The variable whose value no row tells: it holds some int. -/
theorem maxLen_in {W : World} (h : W.ShapedOpen Tryz.prog) : ∃ (cs : List Value) (t : TypeId) (fr : Nat × Nat), intV cs ∧ W.heap[1]? = some (.cells cs.toArray t fr) := by
  have h0 : ((begin Tryz.prog (fun _ _ => 0) default).world.heap[1]?).bind Obj.row? = some (#[.int .i64 0], 3) := by kernel_rfl
  have hg : 1 < Tryz.prog.globals.size := by decide +kernel
  obtain ⟨cs, hh, hs, -⟩ := h.1 _ _ _ hg h0
  obtain ⟨m, hm⟩ := cell_of_shapedOpen_int (k := .i64) h hg h0 rfl (by kernel_rfl) (by kernel_rfl) Tryz.underlying3
  have hs1 : cs.size = 1 := hs
  refine ⟨[.int .i64 m], 3, (0, 0), ⟨m, rfl⟩, ?_⟩
  rw [hh]
  have hc : cs = #[.int .i64 m] := by
    obtain ⟨cs⟩ := cs
    match cs, hs1 with
    | [x], _ =>
      simp [World.cell?, hh] at hm
      rw [hm]
  rw [hc]
end Go.Proofs.YtngklbnodknadaaGreatDoor
end

section
namespace Go.Proofs.YtngklbnodknadaaGreatDoor
open Go.ChangeShapes Go.WideShapes Go.ChangeAt Go.RowKit
set_option maxRecDepth 100000

theorem rows_nodup : ∀ l : List (Nat × Nat), (l.map (·.1)).Nodup → (l.flatMap fun x => MemPlace.row ⟨x.1, 0, none⟩ x.2).Nodup
  | [], _ => List.nodup_nil
  | x :: l, h => by
    rw [List.map_cons, List.nodup_cons] at h
    rw [List.flatMap_cons, List.nodup_append]
    refine ⟨?_, rows_nodup l h.2, ?_⟩
    · unfold MemPlace.row
      rw [List.nodup_iff_pairwise_ne, List.pairwise_map]
      exact List.nodup_range.imp fun hab e => hab (by simpa using e)
    · intro a ha b hb e
      subst e
      obtain ⟨y, hy, hb⟩ := List.mem_flatMap.1 hb
      unfold MemPlace.row at ha hb
      obtain ⟨i, -, rfl⟩ := List.mem_map.1 ha
      obtain ⟨j, -, e⟩ := List.mem_map.1 hb
      simp only [MemPlace.cell.injEq] at e
      exact h.1 (e.1 ▸ List.mem_map_of_mem hy)
def places : List MemPlace := [(15, 32), (16, 64), (6, 3), (8, 3), (7, 1), (10, 1), (27, 9), (11, 1), (28, 23), (9, 1), (29, 11), (14, 20), (5, 1), (23, 1), (4, 1), (24, 1), (3, 1), (26, 3), (25, 21), (0, 256), (13, 1), (30, 122), (12, 1392)].flatMap fun x : Nat × Nat => MemPlace.row ⟨x.1, 0, none⟩ x.2
theorem places_nodup : places.Nodup := rows_nodup _ (by decide)
noncomputable def h0 (os : Os) (g : Nat) : Obj := ((World.holding Tryz.prog os ⟨#[], #[], []⟩).heap[g]?).getD (.cells #[] 0 (0, 0))
noncomputable def hm (os : Os) (g : Nat) (cells : Array Value) : Obj := match h0 os g with
  | .cells _ t frozen => .cells cells t frozen
  | o => o
/-- A world in which the tables are laid. -/
noncomputable def laidWorld (os : Os) : World :=
  { World.holding Tryz.prog os ⟨#[], #[], []⟩ with heap := #[hm os 0 #[.int .u8 0, .int .u8 0, .int .u8 0, .int .u8 0, .int .u8 0, .int .u8 0, .int .u8 0, .int .u8 0, .int .u8 0, .int .u8 1, .int .u8 1, .int .u8 1, .int .u8 1, .int .u8 1, .int .u8 0, .int .u8 0, .int .u8 0, .int .u8 0, .int .u8 0, .int .u8 0, .int .u8 0, .int .u8 0, .int .u8 0, .int .u8 0, .int .u8 0, .int .u8 0, .int .u8 0, .int .u8 0, .int .u8 0, .int .u8 0, .int .u8 0, .int .u8 0, .int .u8 1, .int .u8 0, .int .u8 0, .int .u8 0, .int .u8 0, .int .u8 0, .int .u8 0, .int .u8 0, .int .u8 0, .int .u8 0, .int .u8 0, .int .u8 0, .int .u8 0, .int .u8 0, .int .u8 0, .int .u8 0, .int .u8 0, .int .u8 0, .int .u8 0, .int .u8 0, .int .u8 0, .int .u8 0, .int .u8 0, .int .u8 0, .int .u8 0, .int .u8 0, .int .u8 0, .int .u8 0, .int .u8 0, .int .u8 0, .int .u8 0, .int .u8 0, .int .u8 0, .int .u8 0, .int .u8 0, .int .u8 0, .int .u8 0, .int .u8 0, .int .u8 0, .int .u8 0, .int .u8 0, .int .u8 0, .int .u8 0, .int .u8 0, .int .u8 0, .int .u8 0, .int .u8 0, .int .u8 0, .int .u8 0, .int .u8 0, .int .u8 0, .int .u8 0, .int .u8 0, .int .u8 0, .int .u8 0, .int .u8 0, .int .u8 0, .int .u8 0, .int .u8 0, .int .u8 0, .int .u8 0, .int .u8 0, .int .u8 0, .int .u8 0, .int .u8 0, .int .u8 0, .int .u8 0, .int .u8 0, .int .u8 0, .int .u8 0, .int .u8 0, .int .u8 0, .int .u8 0, .int .u8 0, .int .u8 0, .int .u8 0, .int .u8 0, .int .u8 0, .int .u8 0, .int .u8 0, .int .u8 0, .int .u8 0, .int .u8 0, .int .u8 0, .int .u8 0, .int .u8 0, .int .u8 0, .int .u8 0, .int .u8 0, .int .u8 0, .int .u8 0, .int .u8 0, .int .u8 0, .int .u8 0, .int .u8 0, .int .u8 0, .int .u8 0, .int .u8 0, .int .u8 0, .int .u8 0, .int .u8 0, .int .u8 0, .int .u8 0, .int .u8 0, .int .u8 0, .int .u8 0, .int .u8 0, .int .u8 0, .int .u8 0, .int .u8 0, .int .u8 0, .int .u8 0, .int .u8 0, .int .u8 0, .int .u8 0, .int .u8 0, .int .u8 0, .int .u8 0, .int .u8 0, .int .u8 0, .int .u8 0, .int .u8 0, .int .u8 0, .int .u8 0, .int .u8 0, .int .u8 0, .int .u8 0, .int .u8 0, .int .u8 0, .int .u8 0, .int .u8 0, .int .u8 0, .int .u8 0, .int .u8 0, .int .u8 0, .int .u8 0, .int .u8 0, .int .u8 0, .int .u8 0, .int .u8 0, .int .u8 0, .int .u8 0, .int .u8 0, .int .u8 0, .int .u8 0, .int .u8 0, .int .u8 0, .int .u8 0, .int .u8 0, .int .u8 0, .int .u8 0, .int .u8 0, .int .u8 0, .int .u8 0, .int .u8 0, .int .u8 0, .int .u8 0, .int .u8 0, .int .u8 0, .int .u8 0, .int .u8 0, .int .u8 0, .int .u8 0, .int .u8 0, .int .u8 0, .int .u8 0, .int .u8 0, .int .u8 0, .int .u8 0, .int .u8 0, .int .u8 0, .int .u8 0, .int .u8 0, .int .u8 0, .int .u8 0, .int .u8 0, .int .u8 0, .int .u8 0, .int .u8 0, .int .u8 0, .int .u8 0, .int .u8 0, .int .u8 0, .int .u8 0, .int .u8 0, .int .u8 0, .int .u8 0, .int .u8 0, .int .u8 0, .int .u8 0, .int .u8 0, .int .u8 0, .int .u8 0, .int .u8 0, .int .u8 0, .int .u8 0, .int .u8 0, .int .u8 0, .int .u8 0, .int .u8 0, .int .u8 0, .int .u8 0, .int .u8 0, .int .u8 0, .int .u8 0, .int .u8 0, .int .u8 0, .int .u8 0, .int .u8 0, .int .u8 0, .int .u8 0, .int .u8 0, .int .u8 0, .int .u8 0, .int .u8 0, .int .u8 0, .int .u8 0, .int .u8 0, .int .u8 0, .int .u8 0, .int .u8 0, .int .u8 0, .int .u8 0, .int .u8 0],
    h0 os 1,
    h0 os 2,
    hm os 3 #[.pointer (some ⟨26, 0, none⟩)],
    hm os 4 #[.iface 186 (.pointer (some ⟨24, 0, none⟩))],
    hm os 5 #[.iface 186 (.pointer (some ⟨23, 0, none⟩))],
    hm os 6 #[.int .u64 23, .int .u64 8, .int .i64 (-127)],
    hm os 7 #[.bool true],
    hm os 8 #[.int .u64 52, .int .u64 11, .int .i64 (-1023)],
    hm os 9 #[.slice (some ⟨29, 0, none⟩) 11 11],
    hm os 10 #[.slice (some ⟨27, 0, none⟩) 9 9],
    hm os 11 #[.slice (some ⟨28, 0, none⟩) 23 23],
    hm os 12 (Go.Pinned.pow10Rows.flatMap fun x => [Value.int .u64 x.1, Value.int .u64 x.2]).toArray,
    hm os 13 #[.slice (some ⟨30, 0, none⟩) 61 61],
    hm os 14 #[.int .u64 1, .int .u64 10, .int .u64 100, .int .u64 1000, .int .u64 10000, .int .u64 100000, .int .u64 1000000, .int .u64 10000000, .int .u64 100000000, .int .u64 1000000000, .int .u64 10000000000, .int .u64 100000000000, .int .u64 1000000000000, .int .u64 10000000000000, .int .u64 100000000000000, .int .u64 1000000000000000, .int .u64 10000000000000000, .int .u64 100000000000000000, .int .u64 1000000000000000000, .int .u64 10000000000000000000],
    hm os 15 #[.int .u8 0, .int .u8 1, .int .u8 28, .int .u8 2, .int .u8 29, .int .u8 14, .int .u8 24, .int .u8 3, .int .u8 30, .int .u8 22, .int .u8 20, .int .u8 15, .int .u8 25, .int .u8 17, .int .u8 4, .int .u8 8, .int .u8 31, .int .u8 27, .int .u8 13, .int .u8 23, .int .u8 21, .int .u8 19, .int .u8 16, .int .u8 7, .int .u8 26, .int .u8 12, .int .u8 18, .int .u8 6, .int .u8 11, .int .u8 5, .int .u8 10, .int .u8 9],
    hm os 16 #[.int .u8 0, .int .u8 1, .int .u8 56, .int .u8 2, .int .u8 57, .int .u8 49, .int .u8 28, .int .u8 3, .int .u8 61, .int .u8 58, .int .u8 42, .int .u8 50, .int .u8 38, .int .u8 29, .int .u8 17, .int .u8 4, .int .u8 62, .int .u8 47, .int .u8 59, .int .u8 36, .int .u8 45, .int .u8 43, .int .u8 51, .int .u8 22, .int .u8 53, .int .u8 39, .int .u8 33, .int .u8 30, .int .u8 24, .int .u8 18, .int .u8 12, .int .u8 5, .int .u8 63, .int .u8 55, .int .u8 48, .int .u8 27, .int .u8 60, .int .u8 41, .int .u8 37, .int .u8 16, .int .u8 46, .int .u8 35, .int .u8 44, .int .u8 21, .int .u8 52, .int .u8 32, .int .u8 23, .int .u8 11, .int .u8 54, .int .u8 26, .int .u8 40, .int .u8 15, .int .u8 34, .int .u8 20, .int .u8 31, .int .u8 10, .int .u8 25, .int .u8 14, .int .u8 19, .int .u8 9, .int .u8 13, .int .u8 8, .int .u8 7, .int .u8 6],
    hm os 17 #[.pointer (some ⟨26, 0, none⟩)],
    h0 os 18,
    h0 os 19,
    h0 os 20,
    h0 os 21,
    h0 os 22,
    .cells #[.string ⟨#[118, 97, 108, 117, 101, 32, 111, 117, 116, 32, 111, 102, 32, 114, 97, 110, 103, 101]⟩] 188 (0, 0),
    .cells #[.string ⟨#[105, 110, 118, 97, 108, 105, 100, 32, 115, 121, 110, 116, 97, 120]⟩] 188 (0, 0),
    .cells #[.int .u16 9, .int .u16 13, .int .u16 1, .int .u16 32, .int .u16 133, .int .u16 101, .int .u16 160, .int .u16 5760, .int .u16 5600, .int .u16 8192, .int .u16 8202, .int .u16 1, .int .u16 8232, .int .u16 8233, .int .u16 1, .int .u16 8239, .int .u16 8287, .int .u16 48, .int .u16 12288, .int .u16 12288, .int .u16 1] 118 (0, 0),
    .cells #[.slice (some ⟨25, 0, none⟩) 7 7, .slice none 0 0, .int .i64 2] 115 (0, 0),
    .cells #[.int .i64 1, .int .i64 3, .int .i64 6, .int .i64 9, .int .i64 13, .int .i64 16, .int .i64 19, .int .i64 23, .int .i64 26] 3 (0, 0),
    .cells #[.float .f64 4607182418800017408, .float .f64 4621819117588971520, .float .f64 4636737291354636288, .float .f64 4652007308841189376, .float .f64 4666723172467343360, .float .f64 4681608360884174848, .float .f64 4696837146684686336, .float .f64 4711630319722168320, .float .f64 4726483295884279808, .float .f64 4741671816366391296, .float .f64 4756540486875873280, .float .f64 4771362005757984768, .float .f64 4786511204640096256, .float .f64 4801453603149578240, .float .f64 4816244402031689728, .float .f64 4831355200913801216, .float .f64 4846369599423283200, .float .f64 4861130398305394688, .float .f64 4876203697187506176, .float .f64 4891288408196988160, .float .f64 4906019910204099648, .float .f64 4921056587992461136, .float .f64 4936209963552724370] 65 (0, 0),
    .cells #[.float .f32 1065353216, .float .f32 1092616192, .float .f32 1120403456, .float .f32 1148846080, .float .f32 1176256512, .float .f32 1203982336, .float .f32 1232348160, .float .f32 1259902592, .float .f32 1287568416, .float .f32 1315859240, .float .f32 1343554297] 139 (0, 0),
    .cells (Go.Pinned.cheatRows.flatMap fun x => [Value.int .i64 x.1, Value.string ⟨x.2.toArray⟩]).toArray 225 (0, 0)] }
def rowB (P : Program) (w : World) (x : Nat × Nat) : Bool := match w.heap[x.1]? with
  | some (.cells cs _ (0, 0)) => cs.toList.all fun v => match v with
    | .iface u v => Value.okWideB P w u v
    | _ => true
  | _ => false
theorem rows_ok {P : Program} {w : World} {l : List (Nat × Nat)} (h : l.all (rowB P w) = true) : laidRowsB P w (l.flatMap fun x => MemPlace.row ⟨x.1, 0, none⟩ x.2) = true := by
  unfold laidRowsB
  rw [List.all_eq_true] at h ⊢
  intro p hp
  obtain ⟨x, hx, hp⟩ := List.mem_flatMap.1 hp
  have h1 := h x hx
  unfold MemPlace.row at hp
  obtain ⟨i, -, rfl⟩ := List.mem_map.1 hp
  unfold rowB at h1
  split at h1
  · next cs t hh =>
    rw [List.all_eq_true] at h1
    have e1 : w.heap[x.1]? = some (.cells cs t (0, 0)) := hh
    have e2 : w.cell? ⟨x.1, 0 + i, none⟩ = cs[0 + i]? := by simp [World.cell?, e1]
    simp only [e1, e2, Bool.true_and]
    cases e3 : cs[0 + i]? with
    | none => rfl
    | some v =>
      have := h1 v (Array.mem_toList_iff.2 (Array.mem_of_getElem? e3))
      cases v <;> first | rfl | exact this
  · cases h1
noncomputable abbrev wit (os : Os) (args : Array Value) : World := ((laidWorld os).forCall (fun _ _ => 0) ⟨#[], args, []⟩).memory
theorem laid_run (os : Os) (args : Array Value) : DataW.laidRun Tryz.prog (wit os args) 12 (Rows.lexisWholeRow.laid.map (·.1)) = some (Rows.lexisWholeRow.laid, places) := by kernel_rfl
theorem laid_rows (os : Os) (args : Array Value) : laidRowsB Tryz.prog (wit os args) places = true := rows_ok (by kernel_rfl)
theorem laid_met (os : Os) (args : Array Value) : laidMetH Tryz.prog Rows.lexisWholeRow.laid (wit os args) := by
  rw [MakeChecks.laidMetH_plain _ _ _ (by kernel_rfl)]
  exact laidMet_of_run 12 (laid_run os args) (decide_eq_true places_nodup) (laid_rows os args)
def varOK (P : Program) (w : World) (g : Nat) : Bool := match ((begin P (fun _ _ => 0) default).world.heap[g]?).bind Obj.row? with
  | none => true
  | some (zero, t) =>
    match w.heap[g]? with
    | some (.cells cs t' frozen) => decide (t' = t) && decide (frozen = (0, 0)) && cs.size == zero.size && (!P.buildable t || Row.okRefB P w t cs)
    | _ => false
def pmA : Array Value := (Go.Pinned.pow10Rows.flatMap fun x => [Value.int .u64 x.1, Value.int .u64 x.2]).toArray
theorem pm_all : ∀ l : List (Nat × Nat), (l.all fun x => Nat.blt x.1 18446744073709551616 && Nat.blt x.2 18446744073709551616) = true → ∀ v ∈ l.flatMap fun x => [Value.int .u64 (x.1 : Int), Value.int .u64 (x.2 : Int)], ∃ z : Nat, v = .int .u64 (z : Int) ∧ z < 18446744073709551616 := by
  intro l h v hv
  obtain ⟨x, hx, hv⟩ := List.mem_flatMap.1 hv
  have := List.all_eq_true.1 h x hx
  rw [Bool.and_eq_true] at this
  have h1 := Nat.le_of_ble_eq_true this.1
  have h2 := Nat.le_of_ble_eq_true this.2
  simp only [List.mem_cons, List.not_mem_nil, or_false] at hv
  rcases hv with rfl | rfl
  · exact ⟨x.1, rfl, h1⟩
  · exact ⟨x.2, rfl, h2⟩
theorem pm_cell (w : World) (z : Nat) (h : z < 18446744073709551616) : Cell.okRefB Tryz.checked.prog w 70 (.int .u64 (z : Int)) = true := by
  have hu : Tryz.checked.prog.underlying 70 = some (.int .u64) := by kernel_rfl
  unfold Cell.okRefB
  rw [hu]
  simp only [Cell.okB, hu]
  have e1 : IntKind.u64.min = 0 := by decide +kernel
  have e2 : IntKind.u64.max = 18446744073709551615 := by decide +kernel
  simp [e1, e2]
  omega
theorem pm_row (w : World) : Row.okRefB Tryz.checked.prog w 215 pmA = true := by
  have ht : Tryz.checked.prog.cellTypes Tryz.checked.prog.depth 215 = some (List.replicate 1392 70) := by kernel_rfl
  have hs : pmA.size = 1392 := by kernel_rfl
  unfold Row.okRefB
  rw [ht]
  simp only [List.length_replicate, hs, Bool.and_eq_true, List.all_eq_true]
  constructor
  · rfl
  intro i hi
  have hi := List.mem_range.1 hi
  have hm := pm_all Go.Pinned.pow10Rows (by kernel_rfl)
  have e0 : pmA.toList = Go.Pinned.pow10Rows.flatMap fun x => [Value.int .u64 (x.1 : Int), Value.int .u64 (x.2 : Int)] := by unfold pmA; rfl
  rw [← e0] at hm
  rw [Nat.mod_eq_of_lt hi, List.getElem?_replicate, if_pos hi]
  cases e : pmA[i]? with
  | none =>
    rw [Array.getElem?_eq_none_iff] at e
    omega
  | some v =>
    obtain ⟨z, rfl, hlt⟩ := hm v (Array.mem_toList_iff.2 (Array.mem_of_getElem? e))
    exact pm_cell w z hlt
theorem wit_var12 (os : Os) (args : Array Value) : varOK Tryz.checked.prog ((laidWorld os).forCall (fun _ _ => 0) ⟨#[], args, []⟩) 12 = true := by
  have e1 : (((begin Tryz.checked.prog (fun _ _ => 0) default).world.heap[12]?).bind Obj.row?).map (fun x => (x.1.size, x.2)) = some (1392, 215) := by kernel_rfl
  have e2 : ((laidWorld os).forCall (fun _ _ => 0) ⟨#[], args, []⟩).heap[12]? = some (.cells pmA 215 (0, 0)) := by kernel_rfl
  have hs : pmA.size = 1392 := by kernel_rfl
  unfold varOK
  cases e : ((begin Tryz.checked.prog (fun _ _ => 0) default).world.heap[12]?).bind Obj.row? with
  | none => rfl
  | some x =>
    obtain ⟨zero, t⟩ := x
    rw [e] at e1
    simp only [Option.map_some, Option.some.injEq, Prod.mk.injEq] at e1
    obtain ⟨h1, rfl⟩ := e1
    simp only [e2, h1, hs, pm_row, decide_true, Bool.or_true, Bool.and_true, beq_self_eq_true]
theorem wit_var0 (os : Os) (args : Array Value) : varOK Tryz.checked.prog ((laidWorld os).forCall (fun _ _ => 0) ⟨#[], args, []⟩) 0 = true := by kernel_rfl
theorem wit_var1 (os : Os) (args : Array Value) : varOK Tryz.checked.prog ((laidWorld os).forCall (fun _ _ => 0) ⟨#[], args, []⟩) 1 = true := by kernel_rfl
theorem wit_var2 (os : Os) (args : Array Value) : varOK Tryz.checked.prog ((laidWorld os).forCall (fun _ _ => 0) ⟨#[], args, []⟩) 2 = true := by kernel_rfl
theorem wit_var3 (os : Os) (args : Array Value) : varOK Tryz.checked.prog ((laidWorld os).forCall (fun _ _ => 0) ⟨#[], args, []⟩) 3 = true := by kernel_rfl
theorem wit_var4 (os : Os) (args : Array Value) : varOK Tryz.checked.prog ((laidWorld os).forCall (fun _ _ => 0) ⟨#[], args, []⟩) 4 = true := by kernel_rfl
theorem wit_var5 (os : Os) (args : Array Value) : varOK Tryz.checked.prog ((laidWorld os).forCall (fun _ _ => 0) ⟨#[], args, []⟩) 5 = true := by kernel_rfl
theorem wit_var6 (os : Os) (args : Array Value) : varOK Tryz.checked.prog ((laidWorld os).forCall (fun _ _ => 0) ⟨#[], args, []⟩) 6 = true := by kernel_rfl
theorem wit_var7 (os : Os) (args : Array Value) : varOK Tryz.checked.prog ((laidWorld os).forCall (fun _ _ => 0) ⟨#[], args, []⟩) 7 = true := by kernel_rfl
theorem wit_var8 (os : Os) (args : Array Value) : varOK Tryz.checked.prog ((laidWorld os).forCall (fun _ _ => 0) ⟨#[], args, []⟩) 8 = true := by kernel_rfl
theorem wit_var9 (os : Os) (args : Array Value) : varOK Tryz.checked.prog ((laidWorld os).forCall (fun _ _ => 0) ⟨#[], args, []⟩) 9 = true := by kernel_rfl
theorem wit_var10 (os : Os) (args : Array Value) : varOK Tryz.checked.prog ((laidWorld os).forCall (fun _ _ => 0) ⟨#[], args, []⟩) 10 = true := by kernel_rfl
theorem wit_var11 (os : Os) (args : Array Value) : varOK Tryz.checked.prog ((laidWorld os).forCall (fun _ _ => 0) ⟨#[], args, []⟩) 11 = true := by kernel_rfl
theorem wit_var13 (os : Os) (args : Array Value) : varOK Tryz.checked.prog ((laidWorld os).forCall (fun _ _ => 0) ⟨#[], args, []⟩) 13 = true := by kernel_rfl
theorem wit_var14 (os : Os) (args : Array Value) : varOK Tryz.checked.prog ((laidWorld os).forCall (fun _ _ => 0) ⟨#[], args, []⟩) 14 = true := by kernel_rfl
theorem wit_var15 (os : Os) (args : Array Value) : varOK Tryz.checked.prog ((laidWorld os).forCall (fun _ _ => 0) ⟨#[], args, []⟩) 15 = true := by kernel_rfl
theorem wit_var16 (os : Os) (args : Array Value) : varOK Tryz.checked.prog ((laidWorld os).forCall (fun _ _ => 0) ⟨#[], args, []⟩) 16 = true := by kernel_rfl
theorem wit_var17 (os : Os) (args : Array Value) : varOK Tryz.checked.prog ((laidWorld os).forCall (fun _ _ => 0) ⟨#[], args, []⟩) 17 = true := by kernel_rfl
theorem wit_vars (os : Os) (args : Array Value) : ((laidWorld os).forCall (fun _ _ => 0) ⟨#[], args, []⟩).variablesRefB Tryz.checked.prog = true := by
  have hn : Tryz.checked.prog.globals.size = 18 := by kernel_rfl
  show (List.range Tryz.checked.prog.globals.size).all (varOK Tryz.checked.prog ((laidWorld os).forCall (fun _ _ => 0) ⟨#[], args, []⟩)) = true
  rw [hn, List.all_eq_true]
  intro g hg
  have hg := List.mem_range.1 hg
  match g, hg with
  | 0, _ => exact wit_var0 os args
  | 1, _ => exact wit_var1 os args
  | 2, _ => exact wit_var2 os args
  | 3, _ => exact wit_var3 os args
  | 4, _ => exact wit_var4 os args
  | 5, _ => exact wit_var5 os args
  | 6, _ => exact wit_var6 os args
  | 7, _ => exact wit_var7 os args
  | 8, _ => exact wit_var8 os args
  | 9, _ => exact wit_var9 os args
  | 10, _ => exact wit_var10 os args
  | 11, _ => exact wit_var11 os args
  | 12, _ => exact wit_var12 os args
  | 13, _ => exact wit_var13 os args
  | 14, _ => exact wit_var14 os args
  | 15, _ => exact wit_var15 os args
  | 16, _ => exact wit_var16 os args
  | 17, _ => exact wit_var17 os args
  | n + 18, h => exact absurd h (by omega)
theorem wit_rest (os : Os) (args : Array Value) : ((((laidWorld os).forCall (fun _ _ => 0) ⟨#[], args, []⟩).heap.toList.drop Tryz.checked.prog.globals.size).take ((begin Tryz.checked.prog (fun _ _ => 0) default).world.heap.size - Tryz.checked.prog.globals.size)) =
    (begin Tryz.checked.prog (fun _ _ => 0) default).world.heap.toList.drop Tryz.checked.prog.globals.size := by kernel_rfl
theorem tab_one {W : World} {name : String} {g g' : Nat} {t t' : TypeId} {cs : Array Value} (hg0 : Tryz.prog.globalNamed name = some g) (ht0 : (Tryz.prog.globals[g]?).map (·.type) = some t) (hg : Tryz.prog.globalNamed name = some g') (ht : (Tryz.prog.globals[g']?).map (·.type) = some t')
    (hv : W.var? Tryz.prog name = some cs) : t' = t ∧ ∃ ty fr, W.heap[g]? = some (.cells cs ty fr) := by
  obtain rfl := Option.some.inj (hg0.symm.trans hg)
  obtain rfl := Option.some.inj (ht0.symm.trans ht)
  exact ⟨rfl, var_block hg0 hv⟩
theorem tabsIn {W : World} (h : laidMetH Tryz.prog Rows.lexisWholeRow.laid W) (hsh : W.ShapedOpen Tryz.prog) : TabsIn W := by
  rw [MakeChecks.laidMetH_plain _ _ _ (by kernel_rfl)] at h
  obtain ⟨ps, h1, -⟩ := h
  obtain ⟨_, _, _, _, _, _, _, _, _, _, h2, _⟩ := h1
  obtain ⟨_, _, _, _, _, _, _, _, _, _, h3, _⟩ := h2
  obtain ⟨_, _, _, _, _, _, _, _, _, _, h4, _⟩ := h3
  obtain ⟨g4, t4, cs4, u4, p4, q4, hg4, ht4, hv4, hd4, h5, _⟩ := h4
  obtain ⟨g5, t5, cs5, u5, p5, q5, hg5, ht5, hv5, hd5, h6, _⟩ := h5
  obtain ⟨g6, t6, cs6, u6, p6, q6, hg6, ht6, hv6, hd6, h7, _⟩ := h6
  obtain ⟨g7, t7, cs7, u7, p7, q7, hg7, ht7, hv7, hd7, h8, _⟩ := h7
  obtain ⟨_, _, _, _, _, _, _, _, _, _, h9, _⟩ := h8
  obtain ⟨g9, t9, cs9, u9, p9, q9, hg9, ht9, hv9, hd9, h10, _⟩ := h9
  obtain ⟨g10, t10, cs10, u10, p10, q10, hg10, ht10, hv10, hd10, h11, _⟩ := h10
  obtain ⟨g11, t11, cs11, u11, p11, q11, hg11, ht11, hv11, hd11, h12, _⟩ := h11
  obtain ⟨_, _, _, _, _, _, _, _, _, _, h13, _⟩ := h12
  obtain ⟨g13, t13, cs13, u13, p13, q13, hg13, ht13, hv13, hd13, h14, _⟩ := h13
  obtain ⟨g14, t14, cs14, u14, p14, q14, hg14, ht14, hv14, hd14, h15, _⟩ := h14
  obtain ⟨g15, t15, cs15, u15, p15, q15, hg15, ht15, hv15, hd15, _, _⟩ := h15
  have hi64 : Tryz.prog.underlying 3 = some (.int .i64) := by kernel_rfl
  constructor
  · intro x hx
    have hx' : x = (0, (· = asciiV)) ∨ x = (4, errV) ∨ x = (5, errV) ∨ x = (14, (· = pow10V)) ∨ x = (1, intV) ∨ x = (7, (· = [.bool true])) ∨ x = (8, (· = infoV)) ∨ x = (12, (· = pow10TabV)) := by simpa [tabs] using hx
    rcases hx' with rfl | rfl | rfl | rfl | rfl | rfl | rfl | rfl
    · obtain ⟨rfl, t, fr, hh⟩ := tab_one (g := 0) (t := 77) (by kernel_rfl) (by kernel_rfl) hg13 ht13 hv13
      have e := Lib.cells_of_tab (k := .u8) (zs := Lib.asciiSpaceTab) (show Tryz.prog.underlying 77 = some (.array 256 5) by kernel_rfl) (show Tryz.prog.underlying 5 = some (.int .u8) by kernel_rfl) (by kernel_rfl) (by kernel_rfl) hd13
      refine ⟨asciiV, t, fr, rfl, ?_⟩
      have e2 : cs13 = asciiV.toArray := by
        apply Array.ext'
        rw [e]
        kernel_rfl
      rw [← e2]; exact hh
    · obtain ⟨rfl, t, fr, hh⟩ := tab_one (g := 4) (t := 67) (by kernel_rfl) (by kernel_rfl) hg11 ht11 hv11
      obtain ⟨u, v, e⟩ := err_of Tryz.underlying67 hd11
      exact ⟨cs11.toList, t, fr, ⟨u, v, e⟩, by simpa using hh⟩
    · obtain ⟨rfl, t, fr, hh⟩ := tab_one (g := 5) (t := 67) (by kernel_rfl) (by kernel_rfl) hg10 ht10 hv10
      obtain ⟨u, v, e⟩ := err_of Tryz.underlying67 hd10
      exact ⟨cs10.toList, t, fr, ⟨u, v, e⟩, by simpa using hh⟩
    · obtain ⟨rfl, t, fr, hh⟩ := tab_one (g := 14) (t := 229) (by kernel_rfl) (by kernel_rfl) hg9 ht9 hv9
      have e := Lib.cells_of_tab (k := .u64) (zs := Lib.pow10Tab) (show Tryz.prog.underlying 229 = some (.array 20 70) by kernel_rfl) (show Tryz.prog.underlying 70 = some (.int .u64) by kernel_rfl) (by kernel_rfl) (by kernel_rfl) hd9
      refine ⟨pow10V, t, fr, rfl, ?_⟩
      have e2 : cs9 = pow10V.toArray := by
        apply Array.ext'
        rw [e]
        kernel_rfl
      rw [← e2]; exact hh
    · exact maxLen_in hsh
    · obtain ⟨rfl, t, fr, hh⟩ := tab_one (g := 7) (t := 4) (by kernel_rfl) (by kernel_rfl) hg5 ht5 hv5
      have e := ex_bool Tryz.underlying4 _ _ _ hd5
      exact ⟨cs5.toList, t, fr, e, by simpa using hh⟩
    · obtain ⟨rfl, t, fr, hh⟩ := tab_one (g := 8) (t := 169) (by kernel_rfl) (by kernel_rfl) hg4 ht4 hv4
      exact ⟨cs4.toList, t, fr, info_cells hd4, by simpa using hh⟩
    · obtain ⟨rfl, t, fr, hh⟩ := tab_one (g := 12) (t := 215) (by kernel_rfl) (by kernel_rfl) hg15 ht15 hv15
      have e := ex_arr (k := 2) (F := pairF) (ds := Go.Pinned.pow10Rows.map fun x => .agg [.lit (.int .u64 x.1), .lit (.int .u64 x.2)]) (show Tryz.prog.underlying 215 = some (.array 696 214) by kernel_rfl) (by kernel_rfl) (by kernel_rfl) (fun d _ => pm_ex d) hd15
      rw [pow10_cells] at e
      exact ⟨cs15.toList, t, fr, e, by simpa using hh⟩
  · intro x hx
    have hx' : x = (13, 61, leftV) ∨ x = (10, 9, powV) ∨ x = (11, 23, f10V) := by simpa [stabs] using hx
    rcases hx' with rfl | rfl | rfl
    · obtain ⟨rfl, t, fr, hh⟩ := tab_one (g := 13) (t := 226) (by kernel_rfl) (by kernel_rfl) hg14 ht14 hv14
      obtain ⟨b, off, c, e, h1, h2, h3, h4⟩ := ex_sl (k := 2) (F := pairF) (ds := Go.Pinned.cheatRows.map fun x => .agg [.lit (.int .i64 x.1), .lit (.string x.2)]) (show Tryz.prog.underlying 226 = some (.slice 225) by kernel_rfl) (by kernel_rfl) (by decide) (by decide +kernel) (fun d _ => lc_ex d) hd14
      exact stab_mk left_cells (by kernel_rfl) (by kernel_rfl) hh e h1 h2 h3 h4
    · obtain ⟨rfl, t, fr, hh⟩ := tab_one (g := 10) (t := 158) (by kernel_rfl) (by kernel_rfl) hg6 ht6 hv6
      obtain ⟨b, off, c, e, h1, h2, h3, h4⟩ := ex_sl (k := 1) (F := litF) (show Tryz.prog.underlying 158 = some (.slice 3) by kernel_rfl) (by kernel_rfl) (by decide) (by decide +kernel) (fun d _ => ex_int hi64) hd6
      exact stab_mk (by kernel_rfl) (by kernel_rfl) (by kernel_rfl) hh e h1 h2 h3 h4
    · obtain ⟨rfl, t, fr, hh⟩ := tab_one (g := 11) (t := 210) (by kernel_rfl) (by kernel_rfl) hg7 ht7 hv7
      obtain ⟨b, off, c, e, h1, h2, h3, h4⟩ := ex_sl (k := 1) (F := litF) (show Tryz.prog.underlying 210 = some (.slice 65) by kernel_rfl) (by kernel_rfl) (by decide) (by decide +kernel) (fun d _ => ex_float (show Tryz.prog.underlying 65 = some (.float .f64) by kernel_rfl)) hd7
      exact stab_mk (by kernel_rfl) (by kernel_rfl) (by kernel_rfl) hh e h1 h2 h3 h4
end Go.Proofs.YtngklbnodknadaaGreatDoor
end

section
namespace Go.Proofs.YtngklbnodknadaaGreatDoor
open Go.RowKit

section
variable {P : Program} {o : Oper} {σ : Nat → T} {E : En} {L : Ob} {k : KO}
theorem t_callvo {c : Operand} {f : FuncId} {xs : List Operand} {ts : Array TypeId} {caps : List T} {args : List T} {pre : List (Nat × GObj)} {res : T} {post : List (Nat × GObj)} (R : List (Nat × Nat)) (ho : o.op = .call { callee := .value c, args := xs.toArray, argTypes := ts }) (hcl : opT σ c = .fn f caps)
    (hE : ∀ args w, (callFunc f args).run P w = .ok (.enter f args) w) (hF : FnO P f args pre res post) (hx : Lend (opTs σ xs ++ caps) (T.rens (rn R) args) []) (hc : chkO (R.map (·.1)) (rn R) args pre res post = true) :
    Tri P o σ (renP (rn R) pre ++ (newsOf (R.map (·.1)) pre).map fun i => (rn R i, .vac)) (res.ren (rn R)) (renP (rn R) post) := by
  intro Γ g objs a w Q hr hp hw
  generalize hρ : rn R = ρ at *
  generalize hI : R.map (·.1) = I at *
  unfold chkO at hc
  simp only [Bool.and_eq_true, List.all_eq_true] at hc
  obtain ⟨c1, c2, c3, c4, c5, c6, c7, c8⟩ := hc
  have hinj : ∀ i ∈ I, ∀ j ∈ I, ρ i = ρ j → i = j := fun i hi j hj e => by
    have := c6 i hi j hj
    rw [e, Nat.beq_refl] at this
    exact Nat.eq_of_beq_eq_true (by simpa using this)
  have hpre : ∀ i ob, objL pre i = some ob → objs (ρ i) = some (ob.ren ρ) := fun i ob h => hp (ρ i, ob.ren ρ) (List.mem_append_left _ (List.mem_map.2 ⟨(i, ob), objL_mem h, rfl⟩))
  have hnew : ∀ i ∈ I, objL pre i = none → objs (ρ i) = some .vac := fun i hi h => hp (ρ i, .vac) (List.mem_append_right _ (List.mem_map.2 ⟨i, List.mem_filter.2 ⟨hi, by
    have := objL_none h
    cases hb : inB (pre.map (·.1)) i with
    | false => rfl
    | true => exact absurd (inB_mem hb) this⟩, rfl⟩))
  have e1 := rep_op hr (x := c) (by rw [ho]; simp [Op.operands, Call.operands])
  rw [hcl] at e1
  have e2 := reps_ops (g := g) (a := a) (σ := σ) (xs := xs) fun x hx => rep_op hr (by rw [ho]; simp [Op.operands, Call.operands, hx])
  generalize hy : a.eval c = y at e1
  cases e1 with
  | @fn _ _ vs h =>
  have key : ∀ {ts ts' : List T} {vs : List Value} {pre : List (Nat × GObj)}, Lend ts ts' pre → pre = [] → Reps g ts vs → Reps g ts' vs := by
    intro ts ts' vs pre hl
    induction hl generalizing vs with
    | nil => intro _ h; exact h
    | le h _ ih => intro hp h; cases h with | cons h1 h2 => exact .cons (h g _ h1) (ih hp h2)
    | ref _ _ => intro hp; cases hp
  have hreps := key hx rfl (e2.app h)
  have hreps2 := (Reps.ren (agree_ren (ρ := ρ) g fun _ => True) args _ fun _ _ => trivial).2 hreps
  unfold Oper.wp
  have hrun : (execOp a.eval o).run P w = .ok (.enter f (xs.map a.eval ++ vs).toArray) w := by
    unfold execOp; rw [ho]
    simp [resolve, Deferred.ofValue, hy, invoke, hE]
  rw [hrun]
  refine (hF w _ _ hw.fr.tabs (hw.lentX hpre) (WI.into hw.fr.tabs (hw.lentX hpre) hinj (fun p hp => inB_mem (c1 p hp)) hw hpre) hreps2).mono ?_
  rintro e w' ⟨v, gc, rfl, h1, h2⟩
  obtain ⟨g', k1, k2, k3⟩ := WI.out hinj (fun p hp => inB_mem (c1 p hp)) (fun p hp => inB_mem (c2 p hp)) hw hpre hnew (fun i hi => objL_of_mem (inB_mem (c3 i hi))) (fun i ob h3 h4 => by
    have := c5 (i, ob) (objL_mem h4)
    rw [Bool.or_eq_true] at this
    rcases this with h6 | h6
    · exact absurd (inB_mem h6) (objL_none h3)
    · simpa using h6) (fun i ob h3 id h4 => inB_mem (c4 (i, ob) (objL_mem h3) id (has_in h4))) h2
  exact ⟨g', v, rfl, k1, (RepT.ren k3 res v fun id h => inB_mem (c8 id (has_ids h))).1 h1, k2⟩
theorem gen_vo (R : List (Nat × Nat)) {c : Operand} {f : FuncId} {xs : List Operand} {ts : Array TypeId} {caps args : List T} {pre post : Ob} {res : T} (ho : o.op = .call { callee := .value c, args := xs.toArray, argTypes := ts }) (hcl : opT (sl E) c = .fn f caps) (hE : ∀ args w, (callFunc f args).run P w = .ok (.enter f args) w) (hC : FnO P f args pre res post)
    (hx : Lend (opTs (sl E) xs ++ caps) (T.rens (rn R) args) []) (hc : chkO (R.map (·.1)) (rn R) args pre res post = true) (hp : AllO L (renP (rn R) pre ++ (newsOf (R.map (·.1)) pre).map fun i => (rn R i, .vac)))
    (hk : k ((renP (rn R) pre ++ (newsOf (R.map (·.1)) pre).map fun i => (rn R i, GObj.vac)).map Prod.fst) (res.ren (rn R)) (renP (rn R) post)) : gen P o E L k :=
  ⟨_, _, _, t_callvo R ho hcl hE hC hx hc, hp.mem, hk⟩
theorem t_callbo {c : Operand} {f : FuncId} {xs : List Operand} {ts : Array TypeId} {caps : List T} {args : List T} {pre : List (Nat × GObj)} {res : T} {post : List (Nat × GObj)} (R : List (Nat × Nat)) (ho : o.op = .call { callee := .value c, args := xs.toArray, argTypes := ts }) (hcl : opT σ c = .bf f caps)
    (hE : ∀ args w, (callFunc f args).run P w = .ok (.enter f args) w) (hF : FnO P f args pre res post) (hx : Lend (caps ++ opTs σ xs) (T.rens (rn R) args) []) (hc : chkO (R.map (·.1)) (rn R) args pre res post = true) :
    Tri P o σ (renP (rn R) pre ++ (newsOf (R.map (·.1)) pre).map fun i => (rn R i, .vac)) (res.ren (rn R)) (renP (rn R) post) := by
  intro Γ g objs a w Q hr hp hw
  generalize hρ : rn R = ρ at *
  generalize hI : R.map (·.1) = I at *
  unfold chkO at hc
  simp only [Bool.and_eq_true, List.all_eq_true] at hc
  obtain ⟨c1, c2, c3, c4, c5, c6, c7, c8⟩ := hc
  have hinj : ∀ i ∈ I, ∀ j ∈ I, ρ i = ρ j → i = j := fun i hi j hj e => by
    have := c6 i hi j hj
    rw [e, Nat.beq_refl] at this
    exact Nat.eq_of_beq_eq_true (by simpa using this)
  have hpre : ∀ i ob, objL pre i = some ob → objs (ρ i) = some (ob.ren ρ) := fun i ob h => hp (ρ i, ob.ren ρ) (List.mem_append_left _ (List.mem_map.2 ⟨(i, ob), objL_mem h, rfl⟩))
  have hnew : ∀ i ∈ I, objL pre i = none → objs (ρ i) = some .vac := fun i hi h => hp (ρ i, .vac) (List.mem_append_right _ (List.mem_map.2 ⟨i, List.mem_filter.2 ⟨hi, by
    have := objL_none h
    cases hb : inB (pre.map (·.1)) i with
    | false => rfl
    | true => exact absurd (inB_mem hb) this⟩, rfl⟩))
  have e1 := rep_op hr (x := c) (by rw [ho]; simp [Op.operands, Call.operands])
  rw [hcl] at e1
  have e2 := reps_ops (g := g) (a := a) (σ := σ) (xs := xs) fun x hx => rep_op hr (by rw [ho]; simp [Op.operands, Call.operands, hx])
  generalize hy : a.eval c = y at e1
  cases e1 with
  | @bf _ _ vs h =>
  have key : ∀ {ts ts' : List T} {vs : List Value} {pre : List (Nat × GObj)}, Lend ts ts' pre → pre = [] → Reps g ts vs → Reps g ts' vs := by
    intro ts ts' vs pre hl
    induction hl generalizing vs with
    | nil => intro _ h; exact h
    | le h _ ih => intro hp h; cases h with | cons h1 h2 => exact .cons (h g _ h1) (ih hp h2)
    | ref _ _ => intro hp; cases hp
  have hreps := key hx rfl (h.app e2)
  have hreps2 := (Reps.ren (agree_ren (ρ := ρ) g fun _ => True) args _ fun _ _ => trivial).2 hreps
  unfold Oper.wp
  have hrun : (execOp a.eval o).run P w = .ok (.enter f (vs ++ xs.map a.eval).toArray) w := by
    unfold execOp; rw [ho]
    simp [resolve, Deferred.ofValue, hy, invoke, hE]
  rw [hrun]
  refine (hF w _ _ hw.fr.tabs (hw.lentX hpre) (WI.into hw.fr.tabs (hw.lentX hpre) hinj (fun p hp => inB_mem (c1 p hp)) hw hpre) hreps2).mono ?_
  rintro e w' ⟨v, gc, rfl, h1, h2⟩
  obtain ⟨g', k1, k2, k3⟩ := WI.out hinj (fun p hp => inB_mem (c1 p hp)) (fun p hp => inB_mem (c2 p hp)) hw hpre hnew (fun i hi => objL_of_mem (inB_mem (c3 i hi))) (fun i ob h3 h4 => by
    have := c5 (i, ob) (objL_mem h4)
    rw [Bool.or_eq_true] at this
    rcases this with h6 | h6
    · exact absurd (inB_mem h6) (objL_none h3)
    · simpa using h6) (fun i ob h3 id h4 => inB_mem (c4 (i, ob) (objL_mem h3) id (has_in h4))) h2
  exact ⟨g', v, rfl, k1, (RepT.ren k3 res v fun id h => inB_mem (c8 id (has_ids h))).1 h1, k2⟩
theorem gen_bo (R : List (Nat × Nat)) {c : Operand} {f : FuncId} {xs : List Operand} {ts : Array TypeId} {caps args : List T} {pre post : Ob} {res : T} (ho : o.op = .call { callee := .value c, args := xs.toArray, argTypes := ts }) (hcl : opT (sl E) c = .bf f caps) (hE : ∀ args w, (callFunc f args).run P w = .ok (.enter f args) w) (hC : FnO P f args pre res post)
    (hx : Lend (caps ++ opTs (sl E) xs) (T.rens (rn R) args) []) (hc : chkO (R.map (·.1)) (rn R) args pre res post = true) (hp : AllO L (renP (rn R) pre ++ (newsOf (R.map (·.1)) pre).map fun i => (rn R i, .vac)))
    (hk : k ((renP (rn R) pre ++ (newsOf (R.map (·.1)) pre).map fun i => (rn R i, GObj.vac)).map Prod.fst) (res.ren (rn R)) (renP (rn R) post)) : gen P o E L k :=
  ⟨_, _, _, t_callbo R ho hcl hE hC hx hc, hp.mem, hk⟩
end
end Go.Proofs.YtngklbnodknadaaGreatDoor
end

section
namespace Go.Proofs.YtngklbnodknadaaGreatDoor
open Go.RowKit

theorem tT {c : Bool} {A B : Prop} (a : A) (h : c = true := by first | with_reducible rfl | assumption | rfl | decide | exact decide_eq_true (by omega) | exact beq_iff_eq.2 (by omega) | exact bne_iff_ne.2 (by omega)) : (c = true → A) ∧ (c = false → B) := spT h a
theorem tF {c : Bool} {A B : Prop} (b : B) (h : c = false := by first | with_reducible rfl | assumption | rfl | decide | exact decide_eq_false (by omega) | exact beq_eq_false_iff_ne.2 (by omega) | exact bne_eq_false_iff_eq.2 (by omega)) : (c = true → A) ∧ (c = false → B) := spF h b
theorem uT {c want : Bool} {A B : Prop} (a : A) (h : c = want := by first | with_reducible rfl | assumption | rfl | decide | exact decide_eq_true (by omega) | exact beq_iff_eq.2 (by omega) | exact bne_iff_ne.2 (by omega) | exact decide_eq_false (by omega) | exact beq_eq_false_iff_ne.2 (by omega) | exact bne_eq_false_iff_eq.2 (by omega)) : (c = want → A) ∧ (c = (!want) → B) := guT h a
theorem uF {c want : Bool} {A B : Prop} (b : B) (h : c = !want := by first | with_reducible rfl | assumption | rfl | decide | exact decide_eq_true (by omega) | exact beq_iff_eq.2 (by omega) | exact bne_iff_ne.2 (by omega) | exact decide_eq_false (by omega) | exact beq_eq_false_iff_ne.2 (by omega) | exact bne_eq_false_iff_eq.2 (by omega)) : (c = want → A) ∧ (c = (!want) → B) := guF h b
theorem oB {a b} {K : Prop} (k : K) (h : orderB a b = true := by kernel_rfl) : orderB a b = true ∧ K := ⟨h, k⟩
theorem lQ {a b : Nat} {K : Prop} (k : K) (h : a ≤ b := by first | omega | (simp; first | done | fail) | (simp; omega)) : a ≤ b ∧ K := ⟨h, k⟩
theorem zQ {b : Int} {K : Prop} (k : K) (h : 0 ≤ b := by omega) : 0 ≤ b ∧ K := ⟨h, k⟩
theorem lT {a b : Nat} {K : Prop} (k : K) (h : a < b := by first | omega | (simp; first | done | omega)) : a < b ∧ K := ⟨h, k⟩
theorem lL {α : Type} {l : List α} {n : Nat} {K : Prop} (k : K) (h : l.length = n := by first | assumption | (simp; first | done | omega)) : l.length = n ∧ K := ⟨h, k⟩
theorem nA {z : Int} {m : Nat} {K : Nat → Prop} (a : Nat) (e : z = (a : Int)) (k : K a) (h : a ≤ m := by first | omega | (simp; first | done | fail) | (simp; omega)) : ∃ a : Nat, z = (a : Int) ∧ a ≤ m ∧ K a := ⟨a, e, h, k⟩
theorem mK {a b : Int} {m : Nat} {K : Nat → Prop} (n : Nat) (e1 : a = (n : Int)) (e2 : b = (n : Int)) (k : K n) (h : n ≤ m := by first | omega | (simp; first | done | fail) | (simp; omega)) : ∃ n : Nat, a = (n : Int) ∧ b = (n : Int) ∧ n ≤ m ∧ K n := ⟨n, e1, e2, h, k⟩
theorem fiE {a b : En} (h : FitE a b := by (repeat (first | exact FitE.nil | refine FitE.cons (TLe.of_eq rfl) ?_ | refine FitE.cons TLe.own ?_ | refine FitE.cons TLe.nil ?_)); (first | done | fail)) : FitE a b := h
theorem fiO {a b : Ob} (h : FitO a b := by (repeat (first | exact FitO.nil | refine FitO.cons rfl ?_)); (first | done | fail)) : FitO a b := h
theorem rS {F : Fax} {E : En} {L : Ob} {rs : List ResultVar} {ts : List T} (h : RsE F E L rs ts := by (repeat (first | exact RsE.nil | refine RsE.tmp (TLe.of_eq rfl) ?_ | refine RsE.tmp TLe.own ?_ | refine RsE.tmp TLe.nil ?_ | refine RsE.one rfl rfl rfl rfl (TLe.of_eq rfl) ?_ | refine RsE.agg rfl rfl rfl rfl rfl (TLe.of_eq rfl) ?_)); (first | done | fail)) : RsE F E L rs ts := h
theorem eN {e : Exit} (h : e = .ret ∨ e = .normal := by first | exact .inl rfl | exact .inr rfl) : e = .ret ∨ e = .normal := h
section
variable {P : Program} {F : Fax} {V : List Nat} {Γ : Cx} {n : Nat} {o : Oper} {E : En} {L : Ob} {k : KO}
theorem gd {f : FuncId} {xs : List Operand} {ts : Array TypeId} {args : List T} {res : T} (hE : ∀ args w, (callFunc f args).run P w = .ok (.enter f args) w) (hC : FnD P f args res) (hk : k [] res []) (ho : o.op = .call { callee := .value (.func f), args := xs.toArray, argTypes := ts } := by rfl)
    (hx : TLes (sl E) xs args := by (repeat (first | exact TLes.nil | refine TLes.cons (TLe.of_eq rfl) ?_ | refine TLes.cons TLe.own ?_ | refine TLes.cons TLe.nil ?_)); (first | done | fail)) : gen P o E L k := gen_d ho hE hC hx hk
theorem gO (R : List (Nat × Nat)) {f : FuncId} {xs : List Operand} {ts : Array TypeId} {args : List T} {pre post : Ob} {res : T} (hE : ∀ args w, (callFunc f args).run P w = .ok (.enter f args) w) (hC : FnO P f args pre res post)
    (hk : k ((renP (rn R) pre ++ (newsOf (R.map (·.1)) pre).map fun i => (rn R i, GObj.vac)).map Prod.fst) (res.ren (rn R)) (renP (rn R) post)) (ho : o.op = .call { callee := .value (.func f), args := xs.toArray, argTypes := ts } := by rfl)
    (hx : TLes (sl E) xs (T.rens (rn R) args) := by (repeat (first | exact TLes.nil | refine TLes.cons (TLe.of_eq rfl) ?_ | refine TLes.cons TLe.own ?_ | refine TLes.cons TLe.nil ?_)); (first | done | fail)) (hc : chkO (R.map (·.1)) (rn R) args pre res post = true := by rfl)
    (hp : AllO L (renP (rn R) pre ++ (newsOf (R.map (·.1)) pre).map fun i => (rn R i, .vac)) := by (repeat (first | exact trivial | refine And.intro rfl ?_)); (first | done | fail)) : gen P o E L k := gen_o R ho hE hC hx hc hp hk
theorem gv {c : Operand} {f : FuncId} {xs : List Operand} {ts : Array TypeId} {caps args : List T} {res : T} (hE : ∀ args w, (callFunc f args).run P w = .ok (.enter f args) w) (hC : FnD P f args res) (hk : k [] res []) (ho : o.op = .call { callee := .value c, args := xs.toArray, argTypes := ts } := by rfl) (hc : opT (sl E) c = .fn f caps := by rfl)
    (hx : Lend (opTs (sl E) xs ++ caps) args [] := by (repeat (first | exact Lend.nil | refine Lend.le (TLe.of_eq rfl) ?_ | refine Lend.le TLe.own ?_ | refine Lend.le TLe.nil ?_)); (first | done | fail)) : gen P o E L k := gen_v ho hc hE hC hx hk
end
end Go.Proofs.YtngklbnodknadaaGreatDoor
end
