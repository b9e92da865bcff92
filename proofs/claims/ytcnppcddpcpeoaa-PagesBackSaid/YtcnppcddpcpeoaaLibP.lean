/-
  slices.Clone of pages; slices.IndexFunc of rows: the first that is empty.
-/
import Derived.Test.YtcnppcddpcpeoaaSt
import Derived.Test.YtcnppcddpcpeoaaIdx
namespace Go.Proofs.Ytcnppcddpcpeoaa
open Go.RowKit

theorem infoP : (Try.prog.info? 38).map (fun i => (i.zero, i.size, i.bytes)) = some (some (.agg #[.int .i64 0, .int .i64 0, .int .i64 0, .int .i64 0]), 4, 32) := by kernel_rfl
def pgCells (l : List Pg) : List Value := l.flatMap Pg.cells
theorem pgCells_length (l : List Pg) : (pgCells l).length = l.length * 4 := fm_len (cells := Pg.cells) (fun _ => rfl) l
theorem pg_one {l : List Pg} : ∀ u ∈ pgCells l, u.oneCell' = true := by
  intro u hu
  obtain ⟨p, -, hp⟩ := List.mem_flatMap.1 hu
  simp only [Pg.cells, List.mem_cons, List.not_mem_nil, or_false] at hp
  rcases hp with rfl | rfl | rfl | rfl <;> rfl
abbrev OwnP (w : World) (base : Nat) (p : Option Addr) (cap : Nat) (l : List Pg) : Prop := w.ownsRow base 38 4 (.slice p l.length cap) l.length (pgCells l)

set_option maxHeartbeats 400000 in
theorem cloneP_any {w : World} {p : Option Addr} {cap : Nat} {l : List Pg} (hR : RdPg w ⟨p, cap, l⟩) (hs : l.length ≤ 100000) :
    Calls Try.prog 24 #[.slice p l.length cap] w fun e w' => ∃ p' cap', e = .returned (.slice p' l.length cap') ∧ OwnP w' w.heap.size p' cap' l ∧ Below w.heap.size w w' := by
  obtain ⟨i0, hi, hz0, hz1, hz2⟩ := info_parts infoP
  have hR : Sl w 4 p l.length cap (pgCells l) := hR.row
  cases p with
  | none =>
    have hc := hR.isNil rfl
    have hl : l = [] := List.eq_nil_of_length_eq_zero (by have := hR.le; omega)
    subst hl hc
    have hn := fun w => Go.run_eql_slice_nil (P := Try.prog) w 22 38 none 0 0 Try.underlying22
    go_enter Try.func24, Try.ntmps24
    go_wp2
    go_ret
    exact ⟨none, 0, rfl, World.ownsRow_nil _ _ _ _, Below.refl _ _⟩
  | some a =>
    have hl := hR.le
    have hb := hR.big
    have hn := fun w => Go.run_eql_slice_nil (P := Try.prog) w 22 38 (some a) l.length cap Try.underlying22
    go_enter Try.func24, Try.ntmps24
    go_wp2_with (at_builtin; refine wpList_append_sl _ rfl _ _ 22 rfl w.heap.size 38 i0 (.agg #[.int .i64 0, .int .i64 0, .int .i64 0, .int .i64 0]) 4 32 Try.underlying22 hi hz0 hz1 hz2 rfl (by decide) _ 0 [] rfl (World.ownsRow_lit (n := 0) w #[] (Nat.le_refl _) (Nat.zero_le _) rfl) _ l.length cap _ rfl (hR.below ((Below.refl _ _).alloc (Nat.le_refl _) _)) pg_one (by omega) (by omega) (by simp) ?_; intro p' c' w1 hown hbel)
    go_ret
    simp only [Nat.zero_add, List.nil_append] at hown ⊢
    exact ⟨_, _, rfl, hown, ((Below.refl _ _).alloc (Nat.le_refl _) _).trans hbel⟩

/-- Is a row empty? -/
theorem isEmpty_any {w : World} (s : Sv Int) (hs : s.l.length ≤ 9223372036854775807) {b : Bool} (hb : decide (s.l.length = 0) = b) :
    Calls Try.prog 27 #[s.val] w fun e w' => e = .returned (.bool b) ∧ w = w' := by
  obtain ⟨p, c, l⟩ := s
  dsimp only [Sv.val] at *
  have k : ((l.length : Int) == 0) = b := by rw [← hb, Bool.eq_iff_iff]; simp
  have HB := Lib.hid hb; clear hb
  go_enter Try.func27, Try.ntmps27
  go_wp2_with fail
  go_ret
  exact ⟨rfl, rfl⟩

set_option maxHeartbeats 400000 in
theorem freeRoot_any {w : World} {s : Sv (Sv Int)} (hR : RdR w s) :
    Calls Try.prog 26 #[s.val, .func (.func 27) #[] #[]] w fun e w' => IdxIs s.l.length (s.l.findIdx fun r => decide (r.l.length = 0)) w e w' := by
  obtain ⟨p, c, l⟩ := s
  have hm := hR.le
  dsimp only [Sv.val] at *
  have hent := enters_own Try.func27 rfl rfl
  go_enter Try.func26, Try.ntmps26
  go_wp2_with fail
  go_loop [8] (fun s => ∃ k : Nat, k ≤ l.length ∧ s = .int .i64 k ∧ Hid (∀ j (y : Sv Int), j < k → l[j]? = some y → (decide (y.l.length = 0)) = false)) (fun s => l.length - (intOf s).toNat)
  case atStart => exact ⟨0, Nat.zero_le _, rfl, fun j y h => by omega⟩
  case round =>
    obtain ⟨k, hk, rfl, hno⟩ := hrel
    by_cases hlt : k < l.length
    · obtain ⟨b, off, hp, hb, hc, hrd⟩ := hR.at_ hlt
      dsimp only at hp hc hrd
      have hx : l[k]? = some (l.getD k default) := by simp [hlt]
      generalize l.getD k default = x at *
      subst hp
      have hxl := hrd.lt63
      have hcall := fun b hb => isEmpty_any (w := w) x hxl (b := b) hb
      have HX := Lib.hid hx; have HC := Lib.hid hcall; clear hx hcall
      cases hv : decide (x.l.length = 0) with
      | true =>
        have hcv := HC.out _ hv
        have HV := Lib.hid hcv
        have hf := findIdx_at (p := fun r : Sv Int => decide (r.l.length = 0)) HX.out hv hno.out
        have HF := Lib.hid hf; clear hf hcv hv
        go_wp2_with fail
        refine HV.out.mono ?_
        rintro _ w1 ⟨rfl, rfl⟩
        go_wp2_with fail
        go_ret
        exact .inl ⟨by rw [HF.out]; exact hlt, by rw [HF.out]; rfl, rfl⟩
      | false =>
        have hcv := HC.out _ hv
        have HV := Lib.hid hcv
        have HV2 := Lib.hid hv; clear hcv hv
        go_wp2_with fail
        refine HV.out.mono ?_
        rintro _ w1 ⟨rfl, rfl⟩
        go_wp2_with fail
        go_round
        case rel => exact ⟨k + 1, by omega, by go_num, fun j y hj hy => by
          rcases Nat.lt_or_ge j k with h3 | h3
          · exact hno.out j y h3 hy
          · obtain rfl : j = k := by omega
            rw [HX.out] at hy
            cases hy
            exact HV2.out⟩
        case measure => simp [intOf]; omega
    · obtain rfl : k = l.length := by omega
      have hf := findIdx_no (l := l) (p := fun r : Sv Int => decide (r.l.length = 0)) (fun j y hy => hno.out j y (List.getElem?_eq_some_iff.1 hy).1 hy)
      have HF := Lib.hid hf; clear hf
      go_wp2_with fail
      go_ret
      exact .inr ⟨by simpa using HF.out, rfl, rfl⟩
end Go.Proofs.Ytcnppcddpcpeoaa
