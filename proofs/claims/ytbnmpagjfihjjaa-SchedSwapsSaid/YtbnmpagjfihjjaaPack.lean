/-
  Pack: runs of a list.
-/
import Derived.Test.YtbnmpagjfihjjaaDr
import Derived.Test.YtbnmpagjfihjjaaFnI
import Derived.Test.YtbnmpagjfihjjaaInts
import Derived.Test.YtbnmpagjfihjjaaMem
import Derived.Shelf.Abstract
namespace Go.Proofs.Ytbnmpagjfihjjaa
open Go.RowKit

def thrB (n : Int) : Bool := decide (0 ≤ n) && decide (n < 8)
theorem thread_any (n : Int) (w : World) : Calls Try.prog 28 #[.int .i64 n] w fun e w' => e = .returned (.bool (thrB n)) ∧ w' = w := by
  unfold thrB
  by_cases h1 : 0 ≤ n
  · by_cases h2 : n < 8
    · rw [decide_eq_true h1, decide_eq_true h2]
      go_enter Try.func28, Try.ntmps28
      go_wp2
      go_ret
      exact ⟨rfl, rfl⟩
    · rw [decide_eq_true h1, decide_eq_false h2]
      go_enter Try.func28, Try.ntmps28
      go_wp2
      go_ret
      exact ⟨rfl, rfl⟩
  · rw [decide_eq_false h1]
    go_enter Try.func28, Try.ntmps28
    go_wp2
    go_ret
    exact ⟨rfl, rfl⟩
theorem pack1_pred (W : World) : PredV W 27 #[] (Value.int .i64) (fun _ _ => True) (fun n => !thrB n) where
  ent := enters_of Try.func27 rfl rfl
  call := fun w' _ x _ => by
    have hc := fun w => thread_any x w
    generalize thrB x = b at *
    have HC := Lib.hid hc
    clear hc
    go_enter Try.func27, Try.ntmps27
    go_wp2_with fail
    refine (HC.out _).mono ?_
    rintro _ w1 ⟨rfl, hw⟩
    go_wp2_with fail
    go_ret
    exact ⟨rfl, by first | exact Below.refl _ _ | (rw [hw]; exact Below.refl _ _)⟩

/-- The runs of the first k. -/
def pkK (l : List Int) : Nat → List Dr
  | 0 => []
  | k + 1 => if 0 < (pkK l k).length ∧ ((pkK l k).getD ((pkK l k).length - 1) .z).t = l.getD k 0 then (pkK l k).set ((pkK l k).length - 1) ⟨((pkK l k).getD ((pkK l k).length - 1) .z).t, ((pkK l k).getD ((pkK l k).length - 1) .z).m + 1⟩ else pkK l k ++ [⟨l.getD k 0, 1⟩]
theorem pkK_succ (l : List Int) (k : Nat) : pkK l (k + 1) = if 0 < (pkK l k).length ∧ ((pkK l k).getD ((pkK l k).length - 1) .z).t = l.getD k 0 then (pkK l k).set ((pkK l k).length - 1) ⟨((pkK l k).getD ((pkK l k).length - 1) .z).t, ((pkK l k).getD ((pkK l k).length - 1) .z).m + 1⟩ else pkK l k ++ [⟨l.getD k 0, 1⟩] := rfl
theorem pkK_len (l : List Int) : ∀ k, (pkK l k).length ≤ k
  | 0 => Nat.le_refl _
  | k + 1 => by
    have := pkK_len l k
    rw [pkK]
    split
    · rw [List.length_set]; omega
    · rw [List.length_append]; simp; omega
theorem pkK_m (l : List Int) : ∀ k, ∀ x ∈ pkK l k, 1 ≤ x.m ∧ x.m ≤ k
  | 0, x, h => by simp [pkK] at h
  | k + 1, x, h => by
    have ih := pkK_m l k
    rw [pkK] at h
    split at h
    · next hc =>
      rcases List.mem_or_eq_of_mem_set h with h | h
      · have := ih x h; omega
      · have hm : (pkK l k).getD ((pkK l k).length - 1) .z ∈ pkK l k := by
          rw [List.getD_eq_getElem?_getD, List.getElem?_eq_getElem (by omega)]; exact List.getElem_mem _
        have := ih _ hm
        subst h
        show 1 ≤ _ + 1 ∧ _ + 1 ≤ _
        omega
    · rcases List.mem_append.1 h with h | h
      · have := ih x h; omega
      · obtain rfl := List.mem_singleton.1 h
        show (1 : Int) ≤ 1 ∧ (1 : Int) ≤ _
        omega
def packM (l : List Int) : List Dr × Int := if 200 < l.length then ([], 2) else if l.any (fun n => !thrB n) then ([], 1) else (pkK l l.length, 0)

theorem drs_set_m {o : List Dr} {i : Nat} (hi : i < o.length) (v : Int) : (drs o).set (i * 2 + 1) (.int .i64 v) = drs (o.set i ⟨(o.getD i .z).t, v⟩) := by
  induction o generalizing i with
  | nil => simp at hi
  | cons x o ih =>
    rw [drs_cons]
    cases i with
    | zero => simp [drs_cons, Dr.cells]
    | succ i =>
      rw [show (i + 1) * 2 + 1 = (i * 2 + 1) + 1 + 1 from by omega]
      have := ih (i := i) (by simpa using hi)
      simp only [List.set_cons_succ, List.getD_cons_succ, drs_cons, Dr.cells, List.cons_append, List.nil_append] at this ⊢
      rw [this]
theorem infoDr : (Try.prog.info? 45).map (fun i => (i.zero, i.size, i.bytes)) = some (some (.agg #[.int .i64 0, .int .i64 0]), 2, 16) := by kernel_rfl

set_option maxRecDepth 100000 in
set_option maxHeartbeats 4000000 in
theorem pack_any {w : World} {p : Option Addr} {cap : Nat} {l : List Int} (hS : SlI w p cap l) :
    Calls Try.prog 13 #[.slice p l.length cap] w fun e w' => ∃ q c, e = .returned (.tuple #[.slice q (packM l).1.length c, .int .i64 (packM l).2]) ∧ Sl w' 2 q (packM l).1.length c (drs (packM l).1) ∧ Below w.heap.size w w' := by
  obtain ⟨i0, hi, hz0, hz1, hz2⟩ := info_parts infoDr
  have l1 := Sl.le hS
  have l2 := Sl.big hS
  unfold packM
  by_cases hb : 200 < l.length
  · rw [if_pos hb]
    have hbz : (200 : Int) < (l.length : Int) := by omega
    go_enter Try.func13, Try.ntmps13
    go_wp2
    go_ret2
    exact ⟨none, 0, rfl, Sl.zero _ _, Below.refl _ _⟩
  · rw [if_neg hb]
    have hbz : ¬ (200 : Int) < (l.length : Int) := by omega
    have hcon := containsI_any (pack1_pred w) hS (fun _ _ _ _ => trivial)
    by_cases hany : (l.any fun n => !thrB n) = true
    · rw [if_pos hany]
      rw [hany] at hcon
      have HC := Lib.hid hcon
      clear hcon hany hS
      go_enter Try.func13, Try.ntmps13
      go_wp2_with fail
      refine HC.out.mono ?_
      rintro _ w1 ⟨rfl, hb1⟩
      go_wp2_with fail
      go_ret2
      exact ⟨none, 0, rfl, Sl.zero _ _, hb1⟩
    · rw [if_neg hany]
      rw [Bool.not_eq_true] at hany
      rw [hany] at hcon
      have HC := Lib.hid hcon
      have HS := Lib.hid hS
      clear hcon hany hS
      dsimp only
      go_enter Try.func13, Try.ntmps13
      go_wp2_with fail
      refine HC.out.mono ?_
      rintro _ w1 ⟨rfl, hb1⟩
      go_wp2_with fail
      go_loopw [4, 17] (fun v s wr => ∃ (k : Nat) (q : Option Addr) (c : Nat) (o : List Dr), k ≤ l.length ∧ s = .int .i64 k ∧ v = .slice q o.length c ∧ wr.ownsRow w.heap.size 45 2 (.slice q o.length c) o.length (drs o) ∧ o.length ≤ k ∧ Below w.heap.size w wr ∧ Hid (o = pkK l k)) (fun _ s _ => l.length - (intOf s).toNat)
      case atStart => exact ⟨0, none, 0, [], Nat.zero_le _, rfl, rfl, World.ownsRow_nil _ _ _ _, Nat.le_refl _, hb1, rfl⟩
      case round =>
        clear hb1 HC
        obtain ⟨k, q, c, o, hk, rfl, rfl, hown, hol, hbl, ho⟩ := hrel
        by_cases hlt : k < l.length
        · obtain ⟨b, off, hp, hb, hc⟩ := Sl.int_at HS.out hlt
          subst hp
          have hc' := (hbl.cell (p := ⟨b, off + k, none⟩) hb).trans hc
          have ho' : o = pkK l k := ho.out
          have hst := pkK_succ l k
          have hmm : 0 < o.length → 1 ≤ (o.getD (o.length - 1) .z).m ∧ (o.getD (o.length - 1) .z).m ≤ 200 := fun h => by
            have hm : o.getD (o.length - 1) .z ∈ pkK l k := by
              rw [← ho', List.getD_eq_getElem?_getD, List.getElem?_eq_getElem (by omega)]; exact List.getElem_mem _
            have := pkK_m l k _ hm
            omega
          rw [← ho'] at hst
          have HST := Lib.hid hst
          have hz := hbl.size
          have hsl := Sl.of_own hown
          clear hc hst ho ho'
          generalize l.getD k 0 = y at *
          by_cases h0 : o.length = 0
          · obtain rfl : o = [] := List.length_eq_zero_iff.1 h0
            have hs := HST.out
            rw [if_neg (by simp), List.nil_append] at hs
            have HS2 := Lib.hid hs
            clear hs HST hmm h0
            have hal := (Below.refl wr.heap.size wr).alloc (Nat.le_refl _) (.cells #[.int .i64 y, .int .i64 1] 45)
            have hlit := new_row wr #[.int .i64 y, .int .i64 1] 45 (0, 0)
            have hz2' := (hbl.trans (hal.mono hz)).size
            go_wp2_with (at_builtin; refine wpList_append_own _ rfl _ _ 40 rfl w.heap.size 45 i0 (.agg #[.int .i64 0, .int .i64 0]) 2 16 Try.underlying40 hi hz0 hz1 hz2 rfl (by decide) (.slice q 0 c) 0 [] rfl (own_below hown hal) ⟨wr.heap.size, 0, none⟩ 1 1 [.int .i64 y, .int .i64 1] rfl rfl (fun j u hj => by rw [add_lit']; exact hlit.at_ hj) (by intro u hu; simp at hu; rcases hu with rfl | rfl <;> rfl) (by unfold maxLen; omega) (by omega) hz2' ?_; intro v2 w2 hown2 hg2 _)
            obtain ⟨p', c', rfl, -, -⟩ := own_slice hown2
            have hbl2 := (hbl.trans (hal.mono hz)).grown hg2 hz2' fun k hk => ((own_below hown hal).lt k hk).1
            go_roundw
            case rel => exact ⟨k + 1, p', c', [⟨y, 1⟩], by omega, by go_num, rfl, hown2, by simp, hbl2, HS2.out.symm⟩
            case measure => simp [intOf]; omega
          · obtain ⟨g, rfl, hgb⟩ : ∃ g, q = some ⟨g, 0, none⟩ ∧ w.heap.size ≤ g := by
              rcases hown.2 with ⟨hv, e⟩ | ⟨g, cap', cur, hv, hbg, hg, -⟩
              · omega
              · simp only [Value.slice.injEq, true_and] at hv
                exact ⟨g, hv.1, hbg⟩
            obtain ⟨j, hj⟩ : ∃ j, o.length = j + 1 := ⟨o.length - 1, by omega⟩
            have hD := hsl.drs_at (i := j) (by omega)
            have hmm2 := hmm (by omega)
            have hs := HST.out
            rw [show o.length - 1 = j from by omega] at hs hmm2
            have hset := (World.ownsRow.stored hown (j * 2 + 1) (.int .i64 ((o.getD j .z).m + 1))).1
            rw [drs_set_m (by omega)] at hset
            have hfz := World.ownsRow.frozenAt hown (j * 2 + 1)
            have hbs := hbl.setCell (p := ⟨g, j * 2 + 1, none⟩) hgb (.int .i64 ((o.getD j .z).m + 1))
            have hsl2 : (o.set j ⟨(o.getD j .z).t, (o.getD j .z).m + 1⟩).length = o.length := List.length_set
            have HSL := Lib.hid hsl2; have HSET := Lib.hid hset; have HS1 := Lib.hid hs
            have hjz : (o.length : Int) - 1 = (j : Int) := by omega
            have hjlt : j < o.length := by omega
            have hjltz : (j : Int) < (o.length : Int) := by omega
            have hjz0 : (0 : Int) ≤ (j : Int) := by omega
            obtain ⟨d0, d1⟩ := hD
            have HJ := Lib.hid hj
            clear hmm hs HST h0 hsl hset hsl2 hj
            generalize o.getD j .z = x at *
            obtain ⟨xt, xm⟩ := x
            dsimp only at *
            have d1' : wr.cell? ⟨g, 0 + j * 2 + 1, none⟩ = some (.int .i64 xm) := d1
            have d0' : wr.cell? ⟨g, j * 2, none⟩ = some (.int .i64 xt) := by rw [← Nat.zero_add (j * 2)]; exact d0
            have d1'' : wr.cell? ⟨g, j * 2 + 1, none⟩ = some (.int .i64 xm) := by rw [← Nat.zero_add (j * 2)]; exact d1
            by_cases hty : xt = y
            · subst hty
              have hs := HS1.out
              rw [if_pos ⟨by omega, rfl⟩] at hs
              have HS2 := Lib.hid hs
              clear hs HS1
              go_wp2_with fail
              go_roundw
              case rel => exact ⟨k + 1, some ⟨g, 0, none⟩, c, o.set j ⟨xt, xm + 1⟩, by omega, by go_num, by rw [HSL.out], by rw [HSL.out]; exact HSET.out, by rw [HSL.out]; omega, hbs, HS2.out.symm⟩
              case measure => simp [intOf]; omega
            · have hs := HS1.out
              rw [if_neg (fun h => hty h.2)] at hs
              have HS2 := Lib.hid hs
              have hne : (xt == y) = false := by simpa using hty
              clear hs HS1 hty HSET hbs hfz
              have hal := (Below.refl wr.heap.size wr).alloc (Nat.le_refl _) (.cells #[.int .i64 y, .int .i64 1] 45)
              have hlit := new_row wr #[.int .i64 y, .int .i64 1] 45 (0, 0)
              have hz2' := (hbl.trans (hal.mono hz)).size
              go_wp2_with (at_builtin; refine wpList_append_own _ rfl _ _ 40 rfl w.heap.size 45 i0 (.agg #[.int .i64 0, .int .i64 0]) 2 16 Try.underlying40 hi hz0 hz1 hz2 rfl (by decide) (.slice (some ⟨g, 0, none⟩) o.length c) o.length (drs o) rfl (own_below hown hal) ⟨wr.heap.size, 0, none⟩ 1 1 [.int .i64 y, .int .i64 1] rfl rfl (fun j u hj => by rw [add_lit']; exact hlit.at_ hj) (by intro u hu; simp at hu; rcases hu with rfl | rfl <;> rfl) (by unfold maxLen; omega) (by omega) hz2' ?_; intro v2 w2 hown2 hg2 _)
              obtain ⟨p', c', rfl, -, -⟩ := own_slice hown2
              have hbl2 := (hbl.trans (hal.mono hz)).grown hg2 hz2' fun k hk => ((own_below hown hal).lt k hk).1
              have he : drs o ++ [.int .i64 y, .int .i64 1] = drs (o ++ [⟨y, 1⟩]) := by rw [drs_append, drs_single]; rfl
              have hel : o.length + 1 = (o ++ [(⟨y, 1⟩ : Dr)]).length := by simp
              rw [he] at hown2
              have HEL := Lib.hid hel
              clear he hel
              go_roundw
              case rel => exact ⟨k + 1, p', c', o ++ [(⟨y, 1⟩ : Dr)], by omega, by go_num, by rw [HEL.out], by rw [← HEL.out]; exact hown2, by rw [← HEL.out]; omega, hbl2, HS2.out.symm⟩
              case measure => simp [intOf]; omega
        · obtain rfl : k = l.length := by omega
          have ho' : o = pkK l l.length := ho.out
          subst ho'
          go_wp2_with fail
          go_ret2
          exact ⟨q, c, rfl, Sl.of_own hown, hbl⟩
end Go.Proofs.Ytbnmpagjfihjjaa
