/-
  LockupEither.
-/
import Derived.Test.YtfcimbhjoioinaaBegun
import Derived.Deep.CutRange
namespace Go.Proofs.Ytfcimbhjoioinaa
open Go.RowKit

theorem pairs_snoc {l : List Dw} {k : Nat} (hk : k < l.length) : pairs (l.take (k + 1)) = pairs (l.take k) ++ [⟨(l.getD k .z).f, (l.getD k .z).t⟩] := by
  rw [List.take_succ_eq_append_getElem hk, List.getD_eq_getElem?_getD, List.getElem?_eq_getElem hk]
  unfold pairs
  rw [List.map_append]; rfl
theorem pairs_len (l : List Dw) : (pairs l).length = l.length := List.length_map _
def waitsK (l : List Dw) (x y : Int) (k : Nat) : Bool := (l.take k).any fun w => w.t == x && w.f == y
theorem waits_succ {l : List Dw} {x y : Int} {k : Nat} (hk : k < l.length) : waitsK l x y (k + 1) = (waitsK l x y k || ((l.getD k .z).t == x && (l.getD k .z).f == y)) := by
  unfold waitsK
  rw [List.take_succ_eq_append_getElem hk, List.getD_eq_getElem?_getD, List.getElem?_eq_getElem hk, List.any_append]
  simp

theorem int_cell {w : World} {b off cap i : Nat} {l : List Int} (h : SlI w (some ⟨b, off, none⟩) cap l) (hi : i < l.length) : w.cell? ⟨b, off + i, none⟩ = some (.int .i64 (l.getD i 0)) :=
  h.row.at_ (by simp [ints, hi])
set_option maxHeartbeats 8000000 in
set_option maxRecDepth 100000 in
theorem either_any {w : World} {p : Option Addr} {cap : Nat} {l : List Dw} (hS : Sl w 3 p l.length cap (dws l)) :
    Calls Try.prog 3 #[.slice p l.length cap] w fun e w' => e = .returned (.bool true) ∧ Below w.heap.size w w' := by
  have l1 := hS.le
  have l2 := hS.big
  have HS := Lib.hid hS
  have HB := Lib.hid begun_any
  clear hS
  go_enter Try.func3, Try.ntmps3
  go_wp2_with fail
  refine (HB.out _).mono ?_
  rintro _ w1 ⟨rfl, hb1⟩
  go_wp2_with fail
  have C := ring_any (HS.out.below hb1)
  refine C.mono ?_
  clear C
  rintro _ w2 ⟨q2, c2, rfl, hA, hb2⟩
  have hW2 := hb1.trans (hb2.mono hb1.size)
  clear hb1 hb2
  by_cases he : ringE l = 0
  · have hM : ringM l = (((ringAt (nx l) 8).getD [], (ringAt (nx l) 8).isSome), 0) := by unfold ringM; rw [if_pos he]
    obtain ⟨hrk, hei⟩ := either he
    have hl8 : l.length ≤ 8 := by
      unfold ringE at he
      split at he
      · omega
      · omega
    have hok : ∀ i, i < l.length → thrB (l.getD i .z).t = true ∧ thrB (l.getD i .z).f = true := fun i hi => by
      unfold ringE at he
      rw [if_neg (by omega)] at he
      have := rE_ok l.length (Nat.le_refl _) he i hi
      exact ⟨this.1, this.2.1⟩
    rw [hM] at hA ⊢
    dsimp only at hA ⊢
    have HRK := Lib.hid hrk
    have HEI := Lib.hid hei
    have HOK := Lib.hid hok
    clear he hM hrk hei hok
    generalize ringAt (nx l) 8 = ra at *
    obtain ⟨i0, hi, hz0, hz1, hz2⟩ := info_parts infoP
    have HA := Lib.hid hA
    clear hA
    generalize haz : ra.getD [] = a at *
    have HAZ := Lib.hid haz
    have hS2 := HS.out.below hW2
    have HS2 := Lib.hid hS2
    have HW2 := Lib.hid hW2
    have hown0 : OwnP w2 w2.heap.size none 0 [] := ⟨rfl, .inl ⟨rfl, rfl⟩⟩
    clear haz hS2 HS hW2
    go_wp2_with fail
    go_loopw [6, 7] (fun v6 s wr => ∃ (k : Nat) (q : Option Addr) (c : Nat), k ≤ l.length ∧ v6 = .slice q k c ∧ s = .int .i64 k ∧ Hid (wr.ownsRow w2.heap.size 32 2 (.slice q k c) k (dps (pairs (l.take k)))) ∧ Below w2.heap.size w2 wr) (fun _ s _ => l.length - (intOf s).toNat)
    case atStart => exact ⟨0, none, 0, Nat.zero_le _, rfl, rfl, hown0, Below.refl _ _⟩
    case round =>
      clear hown0
      obtain ⟨k, q, c, hk, rfl, rfl, HO, hbl⟩ := hrel
      by_cases hlt : k < l.length
      · obtain ⟨b, off, hp, hb, hD⟩ := HS2.out.dws_ptr hlt
        subst hp
        have hpn := pairs_snoc hlt
        have HPN := Lib.hid hpn
        have hltz : (k : Int) < (l.length : Int) := by omega
        clear hpn
        have hce : ∀ W, Below w2.heap.size w2 W → W.cell? ⟨b, off + k * 3, none⟩ = some (.int .i64 (l.getD k .z).t) ∧ W.cell? ⟨b, off + k * 3 + 1, none⟩ = some (.int .i64 (l.getD k .z).f) := fun W h => ⟨(hD.below h hb).h0, (hD.below h hb).h1⟩
        clear hD
        generalize (l.getD k .z).f = xf at *
        generalize (l.getD k .z).t = xt at *
        have HCE := Lib.hid hce
        clear hce
        have hC : (fun w' : World => w'.cell? ⟨b, off + k * 3, none⟩ = some (.int .i64 xt) ∧ w'.cell? ⟨b, off + k * 3 + 1, none⟩ = some (.int .i64 xf)) wr.drew := HCE.out _ hbl.drew
        have y0 := fun p : Cls (fun w' : World => w'.cell? ⟨b, off + k * 3, none⟩ = some (.int .i64 xt) ∧ w'.cell? ⟨b, off + k * 3 + 1, none⟩ = some (.int .i64 xf)) => p.h.1
        have y1 := fun p : Cls (fun w' : World => w'.cell? ⟨b, off + k * 3, none⟩ = some (.int .i64 xt) ∧ w'.cell? ⟨b, off + k * 3 + 1, none⟩ = some (.int .i64 xf)) => p.h.2
        haveI := cls_ne (C := fun w' : World => w'.cell? ⟨b, off + k * 3, none⟩ = some (.int .i64 xt) ∧ w'.cell? ⟨b, off + k * 3 + 1, none⟩ = some (.int .i64 xf)) hC
        have hk10 : k + 1 ≤ 10000000 := by omega
        go_wp2_with fail
        refine wp_region_plan (fun w' => ∃ p : Cls (fun w' : World => w'.cell? ⟨b, off + k * 3, none⟩ = some (.int .i64 xt) ∧ w'.cell? ⟨b, off + k * 3 + 1, none⟩ = some (.int .i64 xf)), w' = p.w) (.one [0, 1, 2, 3, 4, 5, 6, 7, 8, 9, 10, 11] 12 (.one [] 13 (.last [14]))) rfl (by kernel_rfl) (by kernel_rfl) (by kernel_rfl) (cls_mk hC) ?_
        change wpPlan _ _ _ _ _ _ wr.drew
        refine wpPlan_one fun K hK => ?_
        have HK := Lib.hid hK; clear hK
        simp only [pick, List.getD_cons_succ, List.getD_cons_zero]
        iterate 12 (go_big_quiet_step (fail))
        refine wpQuiet_nil ?_
        clear y0 y1 this hC
        have hox : wr.drew.ownsRow w2.heap.size 32 2 (.slice q k c) k (dps (pairs (l.take k))) := HO.out
        have hblx : Below w2.heap.size w2 wr.drew := hbl.drew
        clear HO hbl
        generalize wr.drew = wx at *
        have hal := (Below.refl wx.heap.size wx).alloc (Nat.le_refl _) (.cells #[.int .i64 xf, .int .i64 xt] 32)
        have hL := Blk.mk2 wx #[.int .i64 xf, .int .i64 xt] 32
        have hoy := own_below hox hal
        have hbly := hblx.trans (hal.mono hblx.size)
        have hbsy : w2.heap.size ≤ (wx.alloc (.cells #[.int .i64 xf, .int .i64 xt] 32)).heap.size := hbly.size
        clear hal hox hblx
        go_wp2_with fail
        refine ⟨cls_mk (C := fun w' : World => w'.cell? ⟨b, off + k * 3, none⟩ = some (.int .i64 xt) ∧ w'.cell? ⟨b, off + k * 3 + 1, none⟩ = some (.int .i64 xf)) (HCE.out _ hbly), HK.out _ _ ?_⟩
        clear HK K
        refine wpPlan_one fun K hK => ?_
        have HK := Lib.hid hK; clear hK
        simp only [pick, List.getD_cons_succ, List.getD_cons_zero]
        refine wpQuiet_nil ?_
        go_wp2_with (refine wpList_append_sep (wx.alloc (.cells #[.int .i64 xf, .int .i64 xt] 32)) rfl _ _ 28 rfl w2.heap.size 32 i0 (.agg #[.int .i64 0, .int .i64 0]) 2 16 Try.underlying28 hi hz0 hz1 hz2 rfl (by decide) (.slice q k c) k (dps (pairs (l.take k))) rfl hoy ⟨wx.heap.size, 0, none⟩ 1 1 [.int .i64 xf, .int .i64 xt] rfl rfl (fun j u hj => by rw [add_lit', Nat.zero_add, hL.cell]; simpa using hj) (by intro u hu; simp only [List.mem_cons, List.not_mem_nil, or_false] at hu; rcases hu with rfl | rfl <;> rfl) hk10 (by decide) hbsy ?_; intro q6 c6 w6 hown6 hg6 hsep)
        try go_frame
        have hbl6 : Below w2.heap.size w2 w6 := hbly.grown hg6 hbsy (fun g' e => (hoy.lt g' e).1)
        have hown7 : w6.ownsRow w2.heap.size 32 2 (.slice q6 (k + 1) c6) (k + 1) (dps (pairs (l.take (k + 1)))) := by rw [HPN.out, dps_append, dps_single]; exact hown6
        have HO7 := Lib.hid hown7
        clear hown7 hown6 hoy hbly hbsy hL hg6 hsep
        refine ⟨cls_mk (C := fun w' : World => w'.cell? ⟨b, off + k * 3, none⟩ = some (.int .i64 xt) ∧ w'.cell? ⟨b, off + k * 3 + 1, none⟩ = some (.int .i64 xf)) (HCE.out _ hbl6), HK.out _ _ ?_⟩
        clear HK K HCE HPN
        refine wpPlan_last ?_
        simp only [pick, List.getD_cons_succ, List.getD_cons_zero]
        go_big_quiet_step (fail)
        refine wpQuiet_nil ?_
        refine NoPanic.normal ?_
        go_wp2_with fail
        go_roundw
        case rel => exact ⟨k + 1, q6, c6, by omega, rfl, by go_num, HO7.out, hbl6⟩
        case measure => simp [intOf]; omega
      · obtain rfl : k = l.length := by omega
        rw [List.take_length] at HO
        have hsl := Sl.of_own HO.out
        have hC := rank_any (l := pairs l) (p := q) (cap := c) (by rw [pairs_len]; exact hsl) (fun x hx => by
          obtain ⟨y, hy, rfl⟩ := List.mem_map.1 hx
          obtain ⟨i, hi, rfl⟩ := List.getElem_of_mem hy
          have := HOK.out i hi
          rw [List.getD_eq_getElem?_getD, List.getElem?_eq_getElem hi] at this
          exact ⟨wf_thr this.2, wf_thr this.1⟩)
        have hrm : rankM (pairs l) = (rankL (pairs l), 0) := by unfold rankM; rw [if_neg (by rw [pairs_len]; omega)]
        rw [pairs_len, hrm, HRK.out] at hC
        have HCR := Lib.hid hC
        clear hC hrm hsl HO HRK
        generalize (rankL (pairs l)).1 = rl at *
        go_wp2_with fail
        refine HCR.out.mono ?_
        rintro _ w3 ⟨q3, c3, rfl, hq3, hb3⟩
        try dsimp only at hq3
        have hW3 := hbl.trans (hb3.mono hbl.size)
        have hA3 := HA.out.below hW3
        have HA3 := Lib.hid hA3
        clear hb3 hbl hq3 hA3 HA HCR
        have hall : ∀ i, i < a.length → a.getD 0 0 ≤ a.getD i 0 ∧ ∃ w ∈ l, w.t = a.getD i 0 ∧ w.f = a.getD ((i + 1) % a.length) 0 := by
          cases ra with
          | none => intro i hi; have := HAZ.out; dsimp only [Option.getD_none] at this; rw [← this] at hi; exact absurd hi (by simp)
          | some a0 => have := HAZ.out; dsimp only [Option.getD_some] at this; subst this; exact HEI.out a0 rfl
        have HALL := Lib.hid hall
        clear hall HEI HAZ
        generalize ra.isSome = isB at *
        have hS3 := HS2.out.below hW3
        have HS3 := Lib.hid hS3
        have hWW := HW2.out.trans (hW3.mono HW2.out.size)
        have HWW := Lib.hid hWW
        clear HS2 HW2 hS3 hWW hW3 HOK
        have hloop : ∀ (b : Bool), b = isB → True := fun _ _ => trivial
        clear hloop
        have hx1 : (!isB == isB) = false := by cases isB <;> rfl
        go_wp2_with fail
        go_loopw [11] (fun s wr => ∃ i : Nat, i ≤ a.length ∧ s = .int .i64 i ∧ Below w3.heap.size w3 wr) (fun s _ => a.length - (intOf s).toNat)
        case atStart => exact ⟨0, Nat.zero_le _, rfl, Below.refl _ _⟩
        case round =>
          obtain ⟨i, hi, rfl, hbl⟩ := hrel
          by_cases hlt : i < a.length
          · obtain ⟨b, off, hq, hb, -⟩ := Sl.int_at HA3.out hlt
            subst hq
            have hmod : (i + 1) % a.length < a.length := Nat.mod_lt _ (by omega)
            have c1 := (hbl.cell (p := ⟨b, off + (i + 1) % a.length, none⟩) hb).trans (int_cell HA3.out hmod)
            have hrem : Int.tmod ((i : Int) + 1) (a.length : Int) = (((i + 1) % a.length : Nat) : Int) := rfl
            have hne : ((a.length : Int) == 0) = false := by rw [beq_eq_false_iff_ne]; omega
            have hmz : (((i + 1) % a.length : Nat) : Int) < (a.length : Int) := Int.ofNat_lt.2 hmod
            have hil : (i : Int) + 1 ≤ 9223372036854775807 := by have := HA3.out.le; have := HA3.out.big; omega
            obtain ⟨hleast, wx, hwx, hwt, hwf⟩ := HALL.out i hlt
            generalize (i + 1) % a.length = im at *
            have hA4 := HA3.out
            have hcA : ∀ W, Below w3.heap.size w3 W → W.cell? ⟨b, off + i, none⟩ = some (.int .i64 (a.getD i 0)) := fun W h => (h.cell (p := ⟨b, off + i, none⟩) hb).trans (int_cell hA4 hlt)
            have hcA0 : ∀ W, Below w3.heap.size w3 W → W.cell? ⟨b, off, none⟩ = some (.int .i64 (a.getD 0 0)) := fun W h => (h.cell (p := ⟨b, off, none⟩) hb).trans (int_cell (i := 0) hA4 (by omega))
            have HCA := Lib.hid hcA
            have HCA0 := Lib.hid hcA0
            have hwa : waitsK l (a.getD i 0) (a.getD im 0) l.length = true := by
              unfold waitsK
              rw [List.take_length, List.any_eq_true]
              exact ⟨wx, hwx, by simp [hwt, hwf]⟩
            have HWA := Lib.hid hwa
            clear hcA hcA0 hA4 hwa hwt hwf hwx
            generalize a.getD i 0 = ai at *
            generalize a.getD im 0 = an at *
            generalize a.getD 0 0 = a0 at *
            go_wp2_with fail
            clear c1 hrem hne hmz
            have hlz2 : decide (ai < a0) = false := by simp; omega
            obtain ⟨wo, hwo⟩ : ∃ wo : World, wo = wr := ⟨_, rfl⟩
            subst hwo
            have hw0 : Hid (false = waitsK l ai an 0) := by show _ = _; simp [waitsK]
            go_loopw [13, 14] (fun v13 s wi => ∃ (k : Nat) (bW : Bool), k ≤ l.length ∧ v13 = .bool bW ∧ s = .int .i64 k ∧ Hid (bW = waitsK l ai an k) ∧ Below w3.heap.size w3 wi) (fun _ s _ => l.length - (intOf s).toNat)
            case atStart => exact ⟨0, false, Nat.zero_le _, rfl, rfl, hw0.out, hbl⟩
            case round =>
              clear hw0 hbl
              obtain ⟨k, bW, hk, rfl, rfl, hW, hbl⟩ := hrel
              by_cases hlk : k < l.length
              · obtain ⟨b2, off2, hp, hb2, hD⟩ := HS3.out.dws_ptr hlk
                subst hp
                have hpn := waits_succ (x := ai) (y := an) hlk
                rw [← hW.out] at hpn
                have HPN := Lib.hid hpn
                have hltz : (k : Int) < (l.length : Int) := by omega
                clear hpn hW
                have hce : wr.cell? ⟨b2, off2 + k * 3, none⟩ = some (.int .i64 (l.getD k .z).t) ∧ wr.cell? ⟨b2, off2 + k * 3 + 1, none⟩ = some (.int .i64 (l.getD k .z).f) := ⟨(hD.below hbl hb2).h0, (hD.below hbl hb2).h1⟩
                have hca := HCA.out _ hbl
                clear hD
                generalize (l.getD k .z).f = xf at *
                generalize (l.getD k .z).t = xt at *
                obtain ⟨hc0, hc1⟩ := hce
                cases bW with
                | true =>
                  go_wp2_with fail
                  go_quiet (fail)
                  go_wp2_with fail
                  go_roundw
                  case rel => exact ⟨k + 1, true, by omega, rfl, by go_num, by show _ = _; rw [HPN.out]; rfl, by (repeat (first | exact hbl | refine below_drewN ?_ _ | refine Below.drew ?_))⟩
                  case measure => simp [intOf]; omega
                | false =>
                  by_cases ht : xt = ai
                  · by_cases hf : xf = an
                    · have htb : (xt == ai) = true := by simpa using ht
                      have hfb : (xf == an) = true := by simpa using hf
                      clear ht hf
                      go_wp2_with fail
                      go_quiet (fail)
                      go_wp2_with fail
                      go_roundw
                      case rel => exact ⟨k + 1, true, by omega, rfl, by go_num, by show _ = _; rw [HPN.out, htb, hfb]; rfl, by (repeat (first | exact hbl | refine below_drewN ?_ _ | refine Below.drew ?_))⟩
                      case measure => simp [intOf]; omega
                    · have htb : (xt == ai) = true := by simpa using ht
                      have hfb : (xf == an) = false := by simpa using hf
                      clear ht hf
                      go_wp2_with fail
                      go_quiet (fail)
                      go_wp2_with fail
                      go_roundw
                      case rel => exact ⟨k + 1, false, by omega, rfl, by go_num, by show _ = _; rw [HPN.out, htb, hfb]; rfl, by (repeat (first | exact hbl | refine below_drewN ?_ _ | refine Below.drew ?_))⟩
                      case measure => simp [intOf]; omega
                  · have htb : (xt == ai) = false := by simpa using ht
                    clear ht
                    go_wp2_with fail
                    go_quiet (fail)
                    go_wp2_with fail
                    go_roundw
                    case rel => exact ⟨k + 1, false, by omega, rfl, by go_num, by show _ = _; rw [HPN.out, htb]; rfl, by (repeat (first | exact hbl | refine below_drewN ?_ _ | refine Below.drew ?_))⟩
                    case measure => simp [intOf]; omega
              · obtain rfl : k = l.length := by omega
                rw [HWA.out] at hW
                obtain rfl := hW.out
                have hca := HCA.out _ hbl
                have hca0 := HCA0.out _ hbl
                go_wp2_with fail
                go_quiet (fail)
                go_wp2_with fail
                go_roundw
                case rel => exact ⟨i + 1, by omega, by go_num, by (repeat (first | exact hbl | refine below_drewN ?_ _ | refine Below.drew ?_))⟩
                case measure => simp [intOf]; omega
          · clear HALL
            go_wp2_with fail
            refine (HB.out _).mono ?_
            rintro _ w4 ⟨rfl, hb4⟩
            go_wp2_with fail
            go_ret
            exact ⟨rfl, HWW.out.trans ((hbl.trans (hb4.mono hbl.size)).mono HWW.out.size)⟩
  · have hM : ringM l = (([], false), ringE l) := by unfold ringM; rw [if_neg he]
    rw [hM] at hA ⊢
    dsimp only at hA ⊢
    have hne : (ringE l == 0) = false := by simpa using he
    have hne2 : (!(ringE l == 0)) = true := by rw [hne]; rfl
    clear hM he
    generalize ringE l = er at *
    go_wp2_with fail
    refine (HB.out _).mono ?_
    rintro _ w4 ⟨rfl, hb4⟩
    go_wp2_with fail
    go_ret
    exact ⟨rfl, hW2.trans (hb4.mono hW2.size)⟩
end Go.Proofs.Ytfcimbhjoioinaa
