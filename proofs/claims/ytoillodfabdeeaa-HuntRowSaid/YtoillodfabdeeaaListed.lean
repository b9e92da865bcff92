/-
  slices.ContainsFunc of rows of truth values; the walk of listed.
-/
import Derived.Test.YtoillodfabdeeaaFnI
import Derived.Test.YtoillodfabdeeaaBools
namespace Go.Proofs.Ytoillodfabdeeaa
open Go.RowKit

/-- A row of truth values: its block, its values. -/
structure BR where
  g : Nat
  l : List Bool
abbrev BR.val (x : BR) : Value := .slice (some ⟨x.g, 0, none⟩) x.l.length x.l.length
abbrev BR.none : BR := ⟨0, []⟩
def BrOk (w : World) (x : BR) : Prop := Sl w 1 (some ⟨x.g, 0, none⟩) x.l.length x.l.length (bools x.l)
def brs (rs : List BR) : List Value := rs.map BR.val
@[simp] theorem brs_length (rs : List BR) : (brs rs).length = rs.length := by simp [brs]
theorem brs_get {rs : List BR} {i : Nat} (h : i < rs.length) : (brs rs)[i]? = some (rs.getD i .none).val := by simp [brs, h]
theorem BrOk.cell {w : World} {x : BR} (h : BrOk w x) {i : Nat} (hi : i < x.l.length) : w.cell? ⟨x.g, i, none⟩ = some (.bool (x.l.getD i false)) := by
  have := h.row.at_ (bools_get hi)
  rwa [Nat.zero_add] at this

set_option maxHeartbeats 1000000 in
theorem indexB_any {w : World} {f : FuncId} {capt : Array Value} {D : World → BR → Prop} {p : BR → Bool} (hH : PredV w f capt BR.val D p) {q : Option Addr} {cap : Nat} {l : List BR} (hR : Sl w 1 q l.length cap (brs l)) (hD : ∀ w', Below w.heap.size w w' → ∀ x ∈ l, D w' x) :
    Calls Try.prog 35 #[.slice q l.length cap, .func (.func f) #[] capt] w fun e w' => ∃ r : Int, e = .returned (.int .i64 r) ∧ decide (0 ≤ r) = l.any p ∧ Below w.heap.size w w' := by
  have hent := hH.ent
  have hm : l.length ≤ 9223372036854775807 := Nat.le_trans hR.le hR.big
  go_enter Try.func35, Try.ntmps35
  go_wp2_with fail
  go_loopw [8] (fun s wr => ∃ k : Nat, k ≤ l.length ∧ s = .int .i64 k ∧ Below w.heap.size w wr ∧ Hid (∀ j, j < k → p (l.getD j .none) = false)) (fun s _ => l.length - (intOf s).toNat)
  case atStart => exact ⟨0, Nat.zero_le _, rfl, Below.refl _ _, fun j h => by omega⟩
  case round =>
    obtain ⟨k, hk, rfl, hbl, hno⟩ := hrel
    by_cases hlt : k < l.length
    · obtain ⟨b, off, rfl, hb, hcs⟩ := hR.row.cons (by simp; omega)
      have hc := (hcs k (by simpa using hlt)).trans (brs_get hlt)
      have hc' := (hbl.cell (p := ⟨b, off + k, none⟩) hb).trans hc
      have hcall := hH.call wr hbl (l.getD k .none) (hD wr hbl _ (by simp [hlt]))
      have hany := fun h => any_of_one (p := p) (z := .none) hlt h
      have hno' : p (l.getD k .none) = false → Hid (∀ j, j < k + 1 → p (l.getD j .none) = false) := fun h j hj => by
        rcases Nat.lt_or_ge j k with h3 | h3
        · exact hno.out j h3
        · rw [show j = k from by omega]; exact h
      have HC := Lib.hid hcall; have HA := Lib.hid hany; have HN := Lib.hid hno'; clear hcall hany hno' hc hno hcs
      generalize l.getD k .none = x at *
      obtain ⟨xg, xl⟩ := x
      dsimp only [BR.val] at *
      go_wp2_with fail
      refine HC.out.mono ?_
      rintro _ w1 ⟨rfl, hb1⟩
      cases hp : p ⟨xg, xl⟩ with
      | true =>
        have ha := HA.out hp
        have Ha := Lib.hid ha; clear ha hp
        go_wp2_with fail
        go_ret
        exact ⟨_, rfl, by rw [Ha.out]; exact decide_eq_true (by omega), hbl.trans (hb1.mono hbl.size)⟩
      | false =>
        have hn := HN.out hp
        clear hp
        go_wp2_with fail
        go_roundw
        case rel => exact ⟨k + 1, by omega, by go_num, hbl.trans (hb1.mono hbl.size), hn⟩
        case measure => simp [intOf]; omega
    · obtain rfl : k = l.length := by omega
      have ha := any_of_all (p := p) (z := .none) hno.out
      have Ha := Lib.hid ha; clear ha
      go_wp2_with fail
      go_ret
      exact ⟨_, rfl, by rw [Ha.out]; rfl, hbl⟩

set_option maxHeartbeats 400000 in
theorem containsB_any {w : World} {f : FuncId} {capt : Array Value} {D : World → BR → Prop} {p : BR → Bool} (hH : PredV w f capt BR.val D p) {q : Option Addr} {cap : Nat} {l : List BR} (hR : Sl w 1 q l.length cap (brs l)) (hD : ∀ w', Below w.heap.size w w' → ∀ x ∈ l, D w' x) :
    Calls Try.prog 28 #[.slice q l.length cap, .func (.func f) #[] capt] w fun e w' => e = .returned (.bool (l.any p)) ∧ Below w.heap.size w w' := by
  go_enter Try.func28, Try.ntmps28
  go_wp2_with fail
  refine (indexB_any hH hR hD).mono ?_
  rintro _ w1 ⟨r, rfl, hr, hb1⟩
  have Hr := Lib.hid hr; clear hr
  go_wp2_with fail
  go_ret
  exact ⟨ret_bool (by rw [← Hr.out]), hb1⟩

/-- '!in[i]' -/
theorem listed1_pred {W : World} {B i : Nat} (hB : Blk W B #[.int .i64 (i : Int)] 3) :
    PredV W 29 #[.pointer (some ⟨B, 0, none⟩)] BR.val (fun w x => BrOk w x ∧ i < x.l.length) (fun x => !x.l.getD i false) := by
  refine ⟨enters_own Try.func29 (by kernel_rfl) rfl, fun w' hb x hx => ?_⟩
  have hc := (hB.next hb).cell 0
  change w'.cell? ⟨B, 0, none⟩ = some (.int .i64 (i : Int)) at hc
  have hcc := hx.1.cell hx.2
  have hil := hx.2
  obtain ⟨g, l⟩ := x
  dsimp only [BR.val] at *
  have hil' : (i : Int) < (l.length : Int) := by omega
  generalize l.getD i false = old at *
  go_enter Try.func29, Try.ntmps29
  go_wp2
  go_ret
  exact ⟨rfl, Below.refl _ _⟩

def listedM (n : Nat) (rs : List BR) : List Int := ((List.range n).filter fun i => rs.all fun r => r.l.getD i false).map fun i : Nat => (i : Int)
theorem listedM_succ (n : Nat) (rs : List BR) : listedM (n + 1) rs = if rs.all (fun r => r.l.getD n false) then listedM n rs ++ [(n : Int)] else listedM n rs := by
  unfold listedM
  rw [List.range_succ, List.filter_append, List.map_append]
  rw [List.filter_cons, List.filter_nil]
  cases h : rs.all (fun r => r.l.getD n false)
  · rw [if_neg (by simp), if_neg (by simp)]; simp
  · rw [if_pos rfl, if_pos rfl]; simp
theorem listedM_len (n : Nat) (rs : List BR) : (listedM n rs).length ≤ n := by
  unfold listedM
  rw [List.length_map]
  exact Nat.le_trans (List.length_filter_le _ _) (by simp)

set_option maxRecDepth 100000 in
set_option maxHeartbeats 2000000 in
theorem listed_any {w : World} {q : Option Addr} {cap : Nat} {rs : List BR} (n : Nat) (hn : n ≤ 1000) (hR : Sl w 1 q rs.length cap (brs rs)) (hrs : ∀ x ∈ rs, BrOk w x ∧ n = x.l.length) :
    Calls Try.prog 19 #[.int .i64 n, .slice q rs.length cap] w fun e w' => ∃ p' c', e = .returned (.slice p' (listedM n rs).length c') ∧ OwnI w' w.heap.size p' c' (listedM n rs) ∧ Below w.heap.size w w' := by
  obtain ⟨i0, hi, hz0, hz1, hz2⟩ := info_parts infoI
  go_enter Try.func19, Try.ntmps19
  go_wp2_with fail
  go_loopw [4, 7] (fun v s wr => ∃ k p c, k ≤ n ∧ s = .int .i64 (k : Nat) ∧ v = .slice p (listedM k rs).length c ∧ OwnI wr w.heap.size p c (listedM k rs) ∧ Below w.heap.size w wr) (fun _ s _ => n - (intOf s).toNat)
  case atStart => exact ⟨0, none, 0, Nat.zero_le _, rfl, rfl, World.ownsRow_nil _ _ _ _, Below.refl _ _⟩
  case round =>
    obtain ⟨k, p, c, hk, rfl, rfl, hown, hbl⟩ := hrel
    by_cases hlt : k < n
    · have hlen := listedM_len k rs
      have hs := listedM_succ k rs
      have hz := hbl.size
      have bI := Blk.mk_ wr #[.int .i64 (k : Int)] 3 rfl
      have hal := (Below.refl wr.heap.size wr).alloc (Nat.le_refl _) (.cells #[.int .i64 (k : Int)] 3)
      have hRr := (hR.below hbl).below hal
      have hcall := containsB_any (listed1_pred bI) hRr (fun w' hw' x hx => ⟨Sl.below (Sl.below (Sl.below (hrs x hx).1 hbl) hal) hw', by rw [← (hrs x hx).2]; exact hlt⟩)
      have hany : (rs.any fun x => !x.l.getD k false) = !(rs.all fun r => r.l.getD k false) := by
        rw [List.all_eq_not_any_not, Bool.not_not]
      rw [hany] at hcall
      have HC := Lib.hid hcall; have HS := Lib.hid hs; clear hcall hs hany
      go_wp2_with fail
      refine HC.out.mono ?_
      rintro _ w1 ⟨rfl, hb1⟩
      have bI1 := (bI.next hb1).cell 0
      change w1.cell? ⟨wr.heap.size, 0, none⟩ = some (.int .i64 (k : Int)) at bI1
      have hbd := hal.trans (hb1.mono hal.size)
      have hown1 := own_below hown hbd
      have hbl1 := hbl.trans (hbd.mono hz)
      have hz1' := hbl1.size
      clear HC hal hb1 hbd hown hbl bI hRr
      cases hall : (rs.all fun r => r.l.getD k false) with
      | true =>
        have hs := HS.out
        rw [hall, if_pos rfl] at hs
        have HS2 := Lib.hid hs; clear hs HS hall
        go_wp2_with (at_builtin; refine wpList_append_sl _ rfl _ _ 23 rfl w.heap.size 3 i0 (.int .i64 0) 1 8 Try.underlying23 hi hz0 hz1 hz2 rfl (by decide) _ _ _ rfl (own_below hown1 ((Below.refl _ _).alloc (Nat.le_refl _) (.cells #[.int .i64 (k : Int)] 3))) _ 1 1 (ints .i64 [(k : Int)]) rfl (lit_sl w1 [(k : Int)] (by simp) #[.int .i64 (k : Int)] rfl _ rfl 1 rfl) ints_one (by omega) (by omega) (by simp; omega) ?_; intro p' c' w2 hown2 hbel2)
        rw [← ints_append, ← HS2.out] at hown2
        have hl2 : (listedM k rs).length + 1 = (listedM (k + 1) rs).length := by rw [HS2.out]; simp
        have Hl2 := Lib.hid hl2; clear hl2
        go_roundw
        case rel => exact ⟨k + 1, p', c', by omega, by go_num, by rw [Hl2.out], by unfold OwnI; rw [← Hl2.out]; exact hown2, (hbl1.alloc hz1' _).trans hbel2⟩
        case measure => simp [intOf]; omega
      | false =>
        have hs := HS.out
        rw [hall, if_neg (by simp)] at hs
        have HS2 := Lib.hid hs; clear hs HS hall
        go_wp2_with fail
        go_roundw
        case rel => exact ⟨k + 1, p, c, by omega, by go_num, by rw [HS2.out], by unfold OwnI; rw [HS2.out]; exact hown1, hbl1⟩
        case measure => simp [intOf]; omega
    · obtain rfl : k = n := by omega
      go_wp2_with fail
      go_ret
      exact ⟨_, _, rfl, hown, hbl⟩
end Go.Proofs.Ytoillodfabdeeaa
