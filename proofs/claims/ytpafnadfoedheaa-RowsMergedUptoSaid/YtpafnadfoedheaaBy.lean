/-
  cmp.Compare of ints, byStep, slices.IsSortedFunc at events.
-/
import Derived.Test.YtpafnadfoedheaaProg
import Derived.Test.YtpafnadfoedheaaEv
import Derived.Test.YtpafnadfoedheaaStab
import Derived.Test.YtpafnadfoedheaaSf
import Derived.Shelf.SlSortCmp.KitK
import Derived.Deep.LoopGhost
import Derived.Deep.QuietTactic
import Derived.BigQuiet
import Derived.Lib.Hide
import Derived.StillTailTactics
import Derived.RegionTactic
import Derived.BigRegion
namespace Go.Proofs.Ytpafnadfoedheaa
open Go.RowKit Go.Sort

instance : Inhabited Ev := ⟨.z⟩
def cmpI (a b : Int) : Int := if a < b then -1 else if b < a then 1 else 0
def cfE (x y : Ev) : Int := cmpI x.s y.s
theorem cfE_lt (x y : Ev) : cfE x y < 0 ↔ x.s < y.s := by
  unfold cfE cmpI
  split
  · next h => simp [h]
  · next h =>
    split
    · simp [h]
    · simp [h]

theorem nan_any (a : Int) (w : World) : Calls Try.prog 25 #[.int .i64 a] w fun e w' => e = .returned (.bool false) ∧ w' = w := by
  go_enter Try.func25, Try.ntmps25
  go_wp2
  go_ret
  exact ⟨ret_bool (by simp), rfl⟩

theorem compare_any (a b : Int) (w : World) : Calls Try.prog 22 #[.int .i64 a, .int .i64 b] w fun e w' => e = .returned (.int .i64 (cmpI a b)) ∧ w' = w := by
  unfold cmpI
  go_enter Try.func22, Try.ntmps22
  by_cases h : a < b
  · rw [if_pos h]
    go_wp2_with (go_at_call 25; refine (nan_any _ _).mono ?_; rintro e w1 ⟨rfl, rfl⟩)
    go_ret
    exact ⟨rfl, rfl⟩
  · rw [if_neg h]
    by_cases h2 : b < a
    · rw [if_pos h2]
      go_wp2_with (go_at_call 25; refine (nan_any _ _).mono ?_; rintro e w1 ⟨rfl, rfl⟩)
      go_ret
      exact ⟨rfl, rfl⟩
    · rw [if_neg h2]
      go_wp2_with (go_at_call 25; refine (nan_any _ _).mono ?_; rintro e w1 ⟨rfl, rfl⟩)
      go_ret
      exact ⟨rfl, rfl⟩

set_option maxHeartbeats 1000000 in
theorem byStep_any (x y : Ev) (W : World) : Calls Try.prog 16 #[x.val, y.val] W fun e w' => e = .returned (.int .i64 (cfE x y)) ∧ ∃ q os', w' = grow (W.drewN q) os' := by
  obtain ⟨k, s, t, f, a, l, A, B, v1, v2, o1, o2⟩ := x
  obtain ⟨k', s', t', f', a', l', A', B', v1', v2', o1', o2'⟩ := y
  unfold cfE
  have hcon := fun W' => compare_any s s' W'
  generalize cmpI s s' = r at hcon ⊢
  dsimp only [Ev.val]
  go_enter Try.func16, Try.ntmps16
  go_wp2_with (go_at_call 22; refine (hcon _).mono ?_; rintro e w' ⟨rfl, rfl⟩)
  go_ret
  exact ⟨rfl, 0, _, by rw [alloc_eq_grow, alloc_eq_grow, grow_grow]; rfl⟩
theorem cmpLays (blk off size : Nat) (w : World) : CmpLays Try.prog 16 #[] Ev.cells 12 cfE blk off size w := fun _ _ _ _ x y => byStep_any x y _
theorem below_grow {B : Nat} {W : World} (q : Nat) (os : Array Obj) (h : B ≤ W.heap.size) : Below B W (grow (W.drewN q) os) := by
  refine ⟨rfl, rfl, rfl, ?_, fun k hk => ?_⟩
  · rw [size_grow]; show W.heap.size ≤ W.heap.size + _; omega
  · show (W.heap ++ os)[k]? = _
    rw [Array.getElem?_append_left (by omega)]
theorem byStep_below (x y : Ev) (W : World) : Calls Try.prog 16 #[x.val, y.val] W fun e w' => e = .returned (.int .i64 (cfE x y)) ∧ Below W.heap.size W w' := by
  refine (byStep_any x y W).mono ?_
  rintro e w' ⟨rfl, q, os, rfl⟩
  exact ⟨rfl, below_grow q os (Nat.le_refl _)⟩

instance (l : List Ev) : Decidable (Srt Ev.s l) := by unfold Srt; infer_instance
def srtB (l : List Ev) : Bool := decide (Srt Ev.s l)
theorem srtB_nil : srtB [] = true := by simp [srtB, Srt]
theorem srt_adj {l : List Ev} (h : ∀ c, 0 < c → c < l.length → (l.getD (c - 1) .z).s ≤ (l.getD c .z).s) : Srt Ev.s l := by
  refine List.pairwise_iff_getElem.2 fun i j hi hj hij => ?_
  have key : ∀ n, i + n < l.length → (l.getD i .z).s ≤ (l.getD (i + n) .z).s := fun n => by
    induction n with
    | zero => intro _; exact Int.le_refl _
    | succ n ih =>
      intro hn
      have := h (i + (n + 1)) (by omega) hn
      rw [show i + (n + 1) - 1 = i + n from by omega] at this
      exact Int.le_trans (ih (by omega)) this
  have := key (j - i) (by omega)
  rw [show i + (j - i) = j from by omega, List.getD_eq_getElem?_getD, List.getD_eq_getElem?_getD, List.getElem?_eq_getElem hi, List.getElem?_eq_getElem hj] at this
  exact this
theorem srt_not {l : List Ev} {c : Nat} (h0 : 0 < c) (hc : c < l.length) (h : (l.getD c .z).s < (l.getD (c - 1) .z).s) : srtB l = false := by
  refine decide_eq_false fun hs => ?_
  have := List.pairwise_iff_getElem.1 hs (c - 1) c (by omega) hc (by omega)
  rw [List.getD_eq_getElem?_getD, List.getD_eq_getElem?_getD, List.getElem?_eq_getElem hc, List.getElem?_eq_getElem (by omega)] at h
  simp only [Option.getD_some] at h
  omega

section
variable {P : Program} {α : Type} [Inhabited α] {enc : α → List Value} {k : Nat}
/-- IsSortedFunc over whatever rows and comparisons. -/
theorem isSorted_at (F : SF P k) (FI : P.funcs[(15 : Nat)]? = some Try.f15) {key : α → Int} {cf : α → α → Int} (hcf : ∀ x y, cf x y < 0 ↔ key x < key y) {g : Nat} {cb : Array Value} (eg : ∀ args w, (callFunc g args).run P w = .ok (.enter g args) w)
    (hcmp : ∀ x y W, Calls P g (#[.agg (enc x).toArray, .agg (enc y).toArray] ++ cb) W fun e w' => e = .returned (.int .i64 (cf x y)) ∧ ∃ q os', w' = grow (W.drewN q) os') {w : World} {blk off cap m : Nat} {d : Array α} (hd : d.size = m + 1) (hm : m < 4611686018427387904)
    (hL : ∀ W, Below w.heap.size w W → ∀ i, i < d.size → Sem.run P (loadCellsFrom ⟨blk, off + i * k, none⟩ 0 k #[]) W = .ok (enc d[i]!).toArray W) :
    Calls P 15 #[.slice (some ⟨blk, off, none⟩) (m + 1) cap, .func (.func g) #[] cb] w fun e w' => ∃ b : Bool, e = .returned (.bool b) ∧ Below w.heap.size w w' ∧ (b = true → ∀ c, 0 < c → c < d.size → key d[c - 1]! ≤ key d[c]!) ∧ (b = false → ∃ c, 0 < c ∧ c < d.size ∧ key d[c]! < key d[c - 1]!) := by
  have mixed := F.mixed; have t0 := F.t0; have a0 := F.a0; have z0 := F.z0; have v0 := F.v0; have t3 := F.t3; have a3 := F.a3; have z3 := F.z3; have v3 := F.v3; have t4 := F.t4; have a4 := F.a4; have z4 := F.z4; have v4 := F.v4; have t22 := F.tES; have a22 := F.aES; have z22 := F.zES; have v22 := F.vES; have t25 := F.tFN; have a25 := F.aFN; have z25 := F.zFN; have v25 := F.vFN; have t57 := F.tUI; have a57 := F.aUI; have z57 := F.zUI; have v57 := F.vUI; have aE := F.aE; have zE := F.zE
  have HC := Lib.hid hcmp
  have HCF := Lib.hid hcf
  have HL := Lib.hid hL
  have HD := Lib.hid hd
  clear F hcmp hcf hL hd
  go_enter FI, Try.ntmps15
  go_wp2_with fail
  go_loopg [5] m (fun kx s wr => ∃ i : Nat, s = .int .i64 i ∧ i ≤ kx ∧ i ≤ m ∧ Below w.heap.size w wr ∧ Hid (∀ c, i < c → c < d.size → key d[c - 1]! ≤ key d[c]!))
  case atStart => exact ⟨m, by go_num, Nat.le_refl _, Nat.le_refl _, Below.refl _ _, fun c h1 h2 => by have := HD.out; omega⟩
  case round =>
    obtain ⟨i, rfl, hkx, him, hbl, HI⟩ := hrel
    by_cases hi : 0 < i
    · obtain ⟨j, rfl⟩ : ∃ j, i = j + 1 := ⟨i - 1, by omega⟩
      have hgr : ∀ n os, Below w.heap.size w (grow (wr.drewN n) os) := fun n os => hbl.trans (below_grow n os hbl.size)
      have la := fun n os => HL.out _ (hgr n os) (j + 1) (by have := HD.out; omega)
      have lb := fun n os => HL.out _ (hgr n os) j (by have := HD.out; omega)
      have hc := fun n os => HC.out d[j + 1]! d[j]! (grow (wr.drewN n) os)
      have hcf1 := HCF.out d[j + 1]! d[j]!
      have HG := Lib.hid hgr
      have eq : ((j : Int) + 1).toNat = j + 1 := by omega
      have pq : (0 : Int) ≤ (j : Int) + 1 := by omega
      have bq : (j : Int) + 1 < ((m : Int) + 1) := by omega
      have rq : IntKind.i64.wrap ((j : Int) + 1) = (j : Int) + 1 := by rw [IntKind.wrap_i64]; omega
      have ea : ((j : Int)).toNat = j := by omega
      have pa : (0 : Int) ≤ (j : Int) := by omega
      have ba : (j : Int) < ((m : Int) + 1) := by omega
      have ra : IntKind.i64.wrap ((j : Int)) = (j : Int) := by rw [IntKind.wrap_i64]; omega
      clear hgr
      by_cases hlv : cf d[j + 1]! d[j]! < 0
      · have HK := Lib.hid (hcf1.1 hlv)
        have hd1 : decide (cf d[j + 1]! d[j]! < 0) = true := decide_eq_true hlv
        clear hcf1 HI
        obtain ⟨X, hX⟩ : ∃ X, X = d[j + 1]! := ⟨_, rfl⟩
        obtain ⟨Y, hY⟩ : ∃ Y, Y = d[j]! := ⟨_, rfl⟩
        rw [← hX] at la hc hlv hd1
        rw [← hY] at lb hc hlv hd1
        clear hX hY
        go_wp2_with fail
        go_quiet_grown (first | (go_at_fn g; refine Calls.grown_of (hc _ _)))
        replace hbl := HG.out nq osq
        clear la lb hc HG
        generalize grow (wr.drewN nq) osq = w2 at hbl ⊢
        go_wp2
        go_ret
        exact ⟨_, rfl, hbl, fun h => by simp at h, fun _ => ⟨j + 1, by omega, by have := HD.out; omega, HK.out⟩⟩
      · have HK : Hid (key d[j]! ≤ key d[j + 1]!) := by have := mt hcf1.2 hlv; show _ ≤ _; omega
        have hd1 : decide (cf d[j + 1]! d[j]! < 0) = false := decide_eq_false hlv
        clear hcf1
        obtain ⟨X, hX⟩ : ∃ X, X = d[j + 1]! := ⟨_, rfl⟩
        obtain ⟨Y, hY⟩ : ∃ Y, Y = d[j]! := ⟨_, rfl⟩
        rw [← hX] at la hc hlv hd1
        rw [← hY] at lb hc hlv hd1
        clear hX hY
        go_wp2_with fail
        go_quiet_grown (first | (go_at_fn g; refine Calls.grown_of (hc _ _)))
        replace hbl := HG.out nq osq
        clear la lb hc HG
        generalize grow (wr.drewN nq) osq = w2 at hbl ⊢
        go_wp2
        go_roundg j
        case measure => omega
        case rel =>
          refine ⟨j, by go_num, Nat.le_refl _, by omega, hbl, fun c h1 h2 => ?_⟩
          by_cases hc : c = j + 1
          · subst hc
            rw [Nat.add_sub_cancel]; exact HK.out
          · exact HI.out c (by omega) h2
    · obtain rfl : i = 0 := by omega
      go_wp2
      go_ret
      exact ⟨_, rfl, hbl, fun _ => HI.out, fun h => by simp at h⟩
end

theorem bang_toArray (l : List Ev) (i : Nat) : l.toArray[i]! = l.getD i .z := by
  rw [List.getD_eq_getElem?_getD]
  by_cases h : i < l.length
  · rw [getElem!_pos _ i (by simpa using h), List.getElem?_eq_getElem h]; rfl
  · rw [getElem!_neg _ i (by simpa using h), List.getElem?_eq_none (by omega)]; rfl
theorem EvAt.load {W : World} {b off : Nat} {e : Ev} (h : EvAt W b off e) (P : Program) : Sem.run P (loadCellsFrom ⟨b, off, none⟩ 0 12 #[]) W = .ok e.cells.toArray W :=
  run_loadCellsFrom_list P _ _ _ 12 rfl fun j v hv => by
    have hj : j < 12 := (List.getElem?_eq_some_iff.1 hv).1
    rw [add_lit']
    match j, hj with
    | 0, _ => rw [show off + 0 = off from rfl, h.h0]; exact hv
    | 1, _ => rw [h.h1]; exact hv
    | 2, _ => rw [h.h2]; exact hv
    | 3, _ => rw [h.h3]; exact hv
    | 4, _ => rw [h.h4]; exact hv
    | 5, _ => rw [h.h5]; exact hv
    | 6, _ => rw [h.h6]; exact hv
    | 7, _ => rw [h.h7]; exact hv
    | 8, _ => rw [h.h8]; exact hv
    | 9, _ => rw [h.h9]; exact hv
    | 10, _ => rw [h.h10]; exact hv
    | 11, _ => rw [h.h11]; exact hv
theorem eg16 : ∀ args w, (callFunc 16 args).run Try.prog w = .ok (.enter 16 args) w := enters_of Try.func16 rfl rfl
theorem isSorted_any (p : Option Addr) (cap : Nat) (l : List Ev) (w : World) (hS : Sl w 12 p l.length cap (evs l)) (hl : l.length < 4611686018427387904) :
    Calls Try.prog 15 #[.slice p l.length cap, .func (.func 16) #[] #[]] w fun e w' => e = .returned (.bool (srtB l)) ∧ Below w.heap.size w w' := by
  by_cases h0 : l.length = 0
  · obtain rfl : l = [] := List.length_eq_zero_iff.1 h0
    rw [srtB_nil]
    clear hS h0
    go_enter Try.func15, Try.ntmps15
    go_wp2_with fail
    go_loopg [5] 0 (fun kx s wr => s = .int .i64 (-1) ∧ wr = w)
    case atStart => exact ⟨rfl, rfl⟩
    case round =>
      obtain ⟨rfl, rfl⟩ := hrel
      go_wp2
      go_ret
      exact ⟨rfl, Below.refl _ _⟩
  · obtain ⟨b, off, rfl⟩ := hS.ptr (by omega) (by decide)
    have hb : b < w.heap.size := hS.row.lt (by simp; omega)
    obtain ⟨m, hm⟩ : ∃ m, l.length = m + 1 := ⟨l.length - 1, by omega⟩
    have := isSorted_at (P := Try.prog) (α := Ev) (enc := Ev.cells) (k := 12) sf_try Try.func15 (key := Ev.s) (cf := cfE) cfE_lt (g := 16) (cb := #[]) eg16 byStep_any (w := w) (blk := b) (off := off) (cap := cap) (m := m) (d := l.toArray) (by simpa using hm) (by omega) (fun W hW i hi => by
      rw [bang_toArray]
      exact ((hS.ev_at (by simpa using hi)).below hW hb).load _)
    rw [← hm] at this
    refine this.mono ?_
    rintro e w' ⟨c, rfl, hbl, h1, h2⟩
    refine ⟨ret_bool ?_, hbl⟩
    cases c with
    | true =>
      refine (decide_eq_true (srt_adj fun c c1 c2 => ?_)).symm
      have := h1 rfl c c1 (by simpa using c2)
      rwa [bang_toArray, bang_toArray] at this
    | false =>
      obtain ⟨c, c1, c2, c3⟩ := h2 rfl
      rw [bang_toArray, bang_toArray] at c3
      exact (srt_not c1 (by simpa using c2) c3).symm
end Go.Proofs.Ytpafnadfoedheaa
