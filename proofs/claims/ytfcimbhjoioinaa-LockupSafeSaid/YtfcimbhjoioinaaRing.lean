/-
  Ring.
-/
import Derived.Test.YtfcimbhjoioinaaHasC
import Derived.Test.YtfcimbhjoioinaaKeep
import Derived.Test.YtfcimbhjoioinaaSep
import Derived.Test.YtfcimbhjoioinaaRd
import Derived.Test.YtfcimbhjoioinaaOwnI
import Derived.Test.YtfcimbhjoioinaaFast
import Derived.Test.YtfcimbhjoioinaaBlk
import Derived.OwnWalk
namespace Go.Proofs.Ytfcimbhjoioinaa
open Go.RowKit

theorem rE_succ (l : List Dw) (k : Nat) (h : rE l k = 0) : rE l (k + 1) = if thrB (l.getD k .z).t = false ∨ thrB (l.getD k .z).f = false then 1 else if (l.take k).any (fun w => w.t == (l.getD k .z).t) then 6 else 0 := by rw [rE, if_pos h]
theorem rE_stay {l : List Dw} {k : Nat} {e : Int} (h : rE l k = e) (he : e ≠ 0) : ∀ n, rE l (k + n) = e
  | 0 => h
  | n + 1 => by rw [show k + (n + 1) = (k + n) + 1 from rfl, rE, rE_stay h he n, if_neg he]
theorem ringM_err {l : List Dw} {k : Nat} {e : Int} (hl : ¬ 8 < l.length) (hk : k ≤ l.length) (h : rE l k = e) (he : e ≠ 0) : ringM l = (([], false), e) := by
  have := rE_stay h he (l.length - k)
  rw [show k + (l.length - k) = l.length from by omega] at this
  unfold ringM ringE
  rw [if_neg hl, this, if_neg he]

theorem NmIs.kept {w w' : World} {b n : Nat} {N : Int → Option Int} {v : Value} (h : NmIs w b n N) (hg : w.grownBy w' v.ownBlock) (hne : v.ownBlock ≠ some b) : NmIs w' b n N := by
  obtain ⟨G, h1, h2⟩ := h
  exact ⟨G, h1.of_heap (hg.block b h1.lt (fun e => hne e.symm)), h2⟩
theorem ringAt_on {N : Int → Option Int} {r : List Int} {t : Nat} (h : ringAt N t = some r) : ∀ d, ringAt N (t + d) = some r
  | 0 => h
  | d + 1 => by rw [show t + (d + 1) = (t + d) + 1 from rfl, ringAt, ringAt_on h d]

set_option maxRecDepth 100000 in
set_option maxHeartbeats 8000000 in
theorem ring_any {w : World} {p : Option Addr} {cap : Nat} {l : List Dw} (hS : Sl w 3 p l.length cap (dws l)) :
    Calls Try.prog 7 #[.slice p l.length cap] w fun e w' => ∃ q c, e = .returned (.tuple #[.slice q (ringM l).1.1.length c, .bool (ringM l).1.2, .int .i64 (ringM l).2]) ∧ SlI w' q c (ringM l).1.1 ∧ Below w.heap.size w w' := by
  have l1 := hS.le
  have l2 := hS.big
  obtain ⟨R, hR⟩ : ∃ R, R = ringM l := ⟨_, rfl⟩
  rw [← hR]
  by_cases h8 : 8 < l.length
  · have h8z : (8 : Int) < (l.length : Int) := by omega
    have hr : R = (([], false), 2) := by rw [hR]; unfold ringM ringE; rw [if_pos h8]; rfl
    have HR := Lib.hid hr
    clear hr hR h8
    go_enter Try.func7, Try.ntmps7
    go_wp2
    go_ret3
    rw [HR.out]
    exact ⟨none, 0, rfl, Sl.zero _ _, Below.refl _ _⟩
  · have h8z : ¬ (8 : Int) < (l.length : Int) := by omega
    have HR := Lib.hid hR
    have HS := Lib.hid hS
    clear hR hS
    have hmm := @run_makeMap Try.prog
    go_enter Try.func7, Try.ntmps7
    go_wp2_with fail
    clear hmm
    have hM0 := nmIs_made w
    have hb0 := (Below.refl w.heap.size w).alloc (Nat.le_refl _) (.map #[] 0)
    go_loopw [20] (fun s wr => ∃ k : Nat, k ≤ l.length ∧ s = .int .i64 k ∧ NmIs wr w.heap.size k (nx (l.take k)) ∧ Below w.heap.size w wr ∧ Hid (rE l k = 0)) (fun s _ => l.length - (intOf s).toNat)
    case atStart => exact ⟨0, Nat.zero_le _, rfl, hM0, hb0, rfl⟩
    case round =>
      clear hM0 hb0
      obtain ⟨k, hk, rfl, hM, hbl, hE⟩ := hrel
      by_cases hlt : k < l.length
      · obtain ⟨b, off, hp, hb, hD⟩ := HS.out.dws_ptr hlt
        subst hp
        have hD' := hD.below hbl hb
        have hstep := rE_succ l k hE.out
        have herr : ∀ e, rE l (k + 1) = e → e ≠ 0 → R = (([], false), e) := fun e h he => HR.out.trans (ringM_err (by omega) (by omega) h he)
        have hnx := @nx_snoc (l.take k) (l.getD k .z)
        have hnn := @nx_none (l.take k) (l.getD k .z).t
        have htk : l.take (k + 1) = l.take k ++ [l.getD k .z] := by
          rw [List.take_succ_eq_append_getElem hlt, List.getD_eq_getElem?_getD, List.getElem?_eq_getElem hlt]; rfl
        have hz := hbl.size
        have hMl := hM.lt
        rw [← htk] at hnx
        have HST := Lib.hid hstep; have HE := Lib.hid herr; have HNX := Lib.hid hnx; have HNN := Lib.hid hnn
        clear hD hstep herr hnx hnn htk hE
        generalize l.getD k .z = x at *
        obtain ⟨xt, xf, xk⟩ := x
        obtain ⟨d0, d1, d2⟩ := hD'
        dsimp only at d0 d1 d2 HST HNX HNN
        have hal := (Below.refl wr.heap.size wr).alloc (Nat.le_refl _) (.cells #[.int .i64 xt, .int .i64 xf, .int .i64 xk] 30)
        have hM1 := hM.below hal hMl
        have hbl1 := hbl.trans (hal.mono hz)
        have hB := Blk.mk_ wr #[.int .i64 xt, .int .i64 xf, .int .i64 xk] 30 rfl
        have HT := Lib.hid (fun w => thread_any xt w)
        have HF := Lib.hid (fun w => thread_any xf w)
        clear hal hM hbl
        go_wp2_with fail
        refine (HT.out _).mono ?_
        rintro _ w2 ⟨rfl, hw2⟩
        subst hw2
        have hMX : w.heap.size < wr.heap.size := hMl
        generalize hbx : wr.heap.size = BX at *
        have hBX : BX < (wr.alloc (.cells #[.int .i64 xt, .int .i64 xf, .int .i64 xk] 30)).heap.size := by simp [hbx]
        generalize wr.alloc (.cells #[.int .i64 xt, .int .i64 xf, .int .i64 xk] 30) = w2 at *
        have e0 : w2.cell? ⟨BX, 0, none⟩ = some (.int .i64 xt) := hB.cell 0
        have e1 : w2.cell? ⟨BX, 1, none⟩ = some (.int .i64 xf) := hB.cell 1
        clear hbx d0 d1 d2
        cases ht : thrB xt with
        | false =>
          have hs := HST.out
          rw [if_pos (.inl ht)] at hs
          have HRR := Lib.hid (HE.out _ hs (by decide))
          clear hs HST HE HNX HNN ht
          go_wp2_with fail
          go_ret3
          rw [HRR.out]
          exact ⟨none, 0, rfl, Sl.zero _ _, hbl1⟩
        | true =>
          go_wp2_with fail
          refine (HF.out _).mono ?_
          rintro _ w3 ⟨rfl, hw3⟩
          subst hw3
          cases hf : thrB xf with
          | false =>
            have hs := HST.out
            rw [if_pos (.inr hf)] at hs
            have HRR := Lib.hid (HE.out _ hs (by decide))
            clear hs HST HE HNX HNN ht hf
            go_wp2_with fail
            go_ret3
            rw [HRR.out]
            exact ⟨none, 0, rfl, Sl.zero _ _, hbl1⟩
          | true =>
            have hs := HST.out
            rw [if_neg (by rw [ht, hf]; simp)] at hs
            have hlk := hM1.look (wf_thr ht)
            have hwf := wf_thr ht
            cases hn : nx (l.take k) xt with
            | some y =>
              have hany : (l.take k).any (fun w => w.t == xt) = true := by
                cases ha : (l.take k).any (fun w => w.t == xt) with
                | true => rfl
                | false => rw [HNN.out.2 ha] at hn; cases hn
              rw [if_pos hany] at hs
              have HRR := Lib.hid (HE.out _ hs (by decide))
              rw [hn] at hlk
              dsimp only [Option.getD_some, Option.isSome_some] at hlk
              clear hs HST HE HNX HNN ht hf hn hany hwf
              go_wp2_with fail
              go_ret3
              rw [HRR.out]
              exact ⟨none, 0, rfl, Sl.zero _ _, hbl1⟩
            | none =>
              rw [if_neg (by rw [HNN.out.1 hn]; simp)] at hs
              rw [hn] at hlk
              dsimp only [Option.getD_none, Option.isSome_none] at hlk
              have hnx := HNX.out hn
              have HS2 := Lib.hid hs
              have HNX2 := Lib.hid hnx
              obtain ⟨kl, hkl⟩ := keyI hwf
              obtain ⟨G, hG1, hG2⟩ := hM1
              have HG2 := Lib.hid hG2
              have HKL := Lib.hid hkl
              clear hs HST HE HNX HNN ht hf hn hwf hnx hG2 hkl
              go_wp2_with (at_mapUpdate; refine wpList_mapUpdate_is rfl _ _ _ 45 rfl 3 keyedI Try.underlying45 rfl hG1 (by unfold maxLen; omega) (.int .i64 xt) _ kl rfl rfl HKL.out ?_; intro w4 hmap4 hg4)
              go_roundw
              case rel =>
                refine ⟨k + 1, by omega, by go_num, ?_, hbl1.grown hg4 hbl1.size (fun g e => by cases e; exact Nat.le_refl _), HS2.out⟩
                rw [HNX2.out]
                exact NmIs.put HG2.out hmap4
              case measure => simp [intOf]; omega
      · obtain rfl : k = l.length := by omega
        have hE0 : ringE l = 0 := by unfold ringE; rw [if_neg h8]; exact hE.out
        rw [List.take_length] at hM
        have hin : InT (nx l) := nx_in (rE_ok l.length (Nat.le_refl _) hE.out)
        have hR0 : R = (((ringAt (nx l) 8).getD [], (ringAt (nx l) 8).isSome), 0) := by rw [HR.out]; unfold ringM; rw [if_pos hE0]
        obtain ⟨i0, hi, hz0, hz1, hz2⟩ := info_parts infoI
        generalize nx l = N at *
        have HR0 := Lib.hid hR0
        have HIN := Lib.hid hin
        have hMl := hM.lt
        have h200 : l.length ≤ 8 := by omega
        clear HR HS hE hR0 hin hE0
        go_wp2_with fail
        go_loopw [48] (fun s wr => ∃ t : Nat, t ≤ 8 ∧ s = .int .i64 t ∧ NmIs wr w.heap.size l.length N ∧ Below w.heap.size w wr ∧ Hid (ringAt N t = none)) (fun s _ => 8 - (intOf s).toNat)
        case atStart => exact ⟨0, by omega, rfl, hM, hbl, rfl⟩
        case round =>
          clear hM hbl hMl
          obtain ⟨t, ht8, rfl, hM, hbl, hA⟩ := hrel
          have hMl := hM.lt
          by_cases hlt8 : t < 8
          · have htz : (t : Int) < 8 := by omega
            have hthr : thrB (t : Int) = true := by unfold thrB; simp; omega
            have hal := (Below.refl wr.heap.size wr).alloc (Nat.le_refl _) (.cells #[.int .i64 (t : Int)] 3)
            have hM1 := hM.below hal hMl
            have hbl1 := hbl.trans (hal.mono hbl.size)
            have hown1 : OwnI (wr.alloc (.cells #[.int .i64 (t : Int)] 3)) (w.heap.size + 1) (some ⟨wr.heap.size, 0, none⟩) 1 [(t : Int)] := ⟨rfl, .inr ⟨wr.heap.size, 1, #[.int .i64 (t : Int)], rfl, hMl, World.alloc_heap_new wr _, Nat.le_refl _, by unfold maxLen; omega, rfl, rfl⟩⟩
            have hlk := hM1.look (wf_thr hthr)
            have hbs : w.heap.size + 1 ≤ (wr.alloc (.cells #[.int .i64 (t : Int)] 3)).heap.size := Nat.le_trans hMl hal.size
            have hfrom : ringAt N (t + 1) = ringFrom N (t : Int) := by rw [ringAt, hA.out]
            have HFR := Lib.hid hfrom
            clear hal hM hbl hthr hfrom
            go_wp2_with fail
            generalize wr.alloc (.cells #[.int .i64 (t : Int)] 3) = w1 at *
            go_loopw [11, 12, 13] (fun v11 v12 v13 wr => ∃ (f : Nat) (q : Option Addr) (c : Nat) (r : List Int) (o : Option Int), v11 = .slice q r.length c ∧ v12 = .int .i64 (o.getD 0) ∧ v13 = .bool o.isSome ∧ r.length + f = 10 ∧ OwnI wr (w.heap.size + 1) q c r ∧ NmIs wr w.heap.size l.length N ∧ Below w.heap.size w wr ∧ w.heap.size + 1 ≤ wr.heap.size ∧ Hid (r.Nodup ∧ (∀ x ∈ r, x ∈ eight) ∧ (∀ x, o = some x → x ∈ eight) ∧ ringFrom N (t : Int) = ringGo N (t : Int) f r o)) (fun v11 _ _ _ => 10 - (match v11 with | .slice _ n _ => n | _ => 0))
            case atStart => exact ⟨9, _, 1, [(t : Int)], N (t : Int), rfl, rfl, rfl, rfl, hown1, hM1, hbl1, hbs, by simp, fun x hx => by
              obtain rfl := List.mem_singleton.1 hx
              exact mem_eight (by omega) (by omega), fun x hx => by
              have := HIN.out _ _ hx
              exact mem_eight this.2.1 this.2.2, rfl⟩
            case round =>
              clear hown1 hM1 hbl1 hbs hlk
              obtain ⟨f, q, c, r, o, rfl, rfl, rfl, hlen, hown, hM, hbl, hbs, hH⟩ := hrel
              have hr8 : r.length ≤ 8 := nodup_len (b := eight) hH.out.1 hH.out.2.1
              obtain ⟨g, rfl⟩ : ∃ g, f = g + 1 := ⟨f - 1, by omega⟩
              have hgo := hH.out.2.2.2
              cases o with
              | none =>
                rw [ringGo] at hgo
                have hf := HFR.out
                rw [hgo] at hf
                have HF := Lib.hid hf
                clear hgo hf hH hA HFR
                go_wp2_with fail
                go_roundw
                case rel => exact ⟨t + 1, by omega, by go_num, hM, hbl, HF.out⟩
                case measure => simp [intOf]; omega
              | some n =>
                rw [ringGo] at hgo
                have hn8 := hH.out.2.2.1 n rfl
                dsimp only [Option.getD_some, Option.isSome_some]
                by_cases hnt : n = (t : Int)
                · rw [if_pos hnt] at hgo
                  have hf := HFR.out
                  rw [hgo] at hf
                  have h8r := ringAt_on hf (8 - (t + 1))
                  rw [show t + 1 + (8 - (t + 1)) = 8 from by omega] at h8r
                  have hr := HR0.out
                  rw [h8r] at hr
                  have HRR := Lib.hid hr
                  have HOW := Lib.hid hown
                  subst hnt
                  clear hgo hf hH hA HFR h8r hr HR0 hown
                  go_wp2_with fail
                  go_ret3
                  rw [HRR.out]
                  exact ⟨q, c, rfl, Sl.of_own HOW.out, hbl⟩
                · rw [if_neg hnt] at hgo
                  have hne : (n == (t : Int)) = false := by simpa using hnt
                  have HC := Lib.hid (fun W (h : SlI W q c r) => contains_any h n)
                  have hSl := Sl.of_own hown
                  by_cases hnr : n ∈ r
                  · rw [if_pos hnr] at hgo
                    have hf := HFR.out
                    rw [hgo] at hf
                    have HF := Lib.hid hf
                    have C := HC.out _ hSl
                    rw [decide_eq_true hnr] at C
                    have HC2 := Lib.hid C
                    clear hgo hf hH hA HFR C HC hnr hSl
                    go_wp2_with fail
                    refine HC2.out.mono ?_
                    rintro _ w5 ⟨rfl, hw5⟩
                    subst hw5
                    go_wp2_with fail
                    go_roundw
                    case rel => exact ⟨t + 1, by omega, by go_num, hM, hbl, HF.out⟩
                    case measure => simp [intOf]; omega
                  · rw [if_neg hnr] at hgo
                    have C := HC.out _ hSl
                    rw [decide_eq_false hnr] at C
                    have HC2 := Lib.hid C
                    have hnd : (r ++ [n]).Nodup := by
                      rw [List.nodup_append]
                      refine ⟨hH.out.1, by simp, fun a ha b hb => ?_⟩
                      obtain rfl := List.mem_singleton.1 hb
                      rintro rfl
                      exact hnr ha
                    have hall : ∀ x ∈ r ++ [n], x ∈ eight := fun x hx => by
                      rcases List.mem_append.1 hx with h1 | h1
                      · exact hH.out.2.1 x h1
                      · obtain rfl := List.mem_singleton.1 h1; exact hn8
                    have hnext : ∀ x, N n = some x → x ∈ eight := fun x hx => mem_eight (HIN.out _ _ hx).2.1 (HIN.out _ _ hx).2.2
                    have hthr : thrB n = true := by
                      unfold eight at hn8
                      simp only [List.mem_cons, List.not_mem_nil, or_false] at hn8
                      unfold thrB
                      simp
                      omega
                    have HI := Lib.hid (⟨hnd, hall, hnext, hgo⟩ : (r ++ [n]).Nodup ∧ (∀ x ∈ r ++ [n], x ∈ eight) ∧ (∀ x, N n = some x → x ∈ eight) ∧ ringFrom N (t : Int) = ringGo N (t : Int) g (r ++ [n]) (N n))
                    have HOW := Lib.hid hown
                    have HNM := Lib.hid hM
                    have HW := Lib.hid (wf_thr hthr)
                    clear hgo hH hA HFR C HC hnr hSl hnd hall hnext hthr hn8 hown hM HIN
                    go_wp2_with fail
                    refine HC2.out.mono ?_
                    rintro _ w5 ⟨rfl, hw5⟩
                    subst hw5
                    have hal := (Below.refl w5.heap.size w5).alloc (Nat.le_refl _) (.cells #[.int .i64 n] 3)
                    have hL := Blk.mk2 w5 #[.int .i64 n] 3
                    have hown2 := own_below HOW.out hal
                    have hM2 := HNM.out.below hal HNM.out.lt
                    have hbl2 := hbl.trans (hal.mono hbl.size)
                    have hbs2 : w.heap.size + 1 ≤ (w5.alloc (.cells #[.int .i64 n] 3)).heap.size := Nat.le_trans hbs hal.size
                    clear hal HOW HNM hbl
                    go_wp2_with (refine wpList_append_sep (w5.alloc (.cells #[.int .i64 n] 3)) rfl _ _ 24 rfl (w.heap.size + 1) 3 i0 (.int .i64 0) 1 8 Try.underlying24 hi hz0 hz1 hz2 rfl (by decide) (.slice q r.length c) r.length (ints .i64 r) rfl hown2 ⟨w5.heap.size, 0, none⟩ 1 1 [.int .i64 n] rfl rfl (fun j u hj => by rw [add_lit', Nat.zero_add, hL.cell]; simpa using hj) (by intro u hu; obtain rfl := List.mem_singleton.1 hu; rfl) (by omega) (by decide) hbs2 ?_; intro q6 c6 w6 hown6 hg hsep; have hM6 := hM2.kept hg (fun e => by have := (hown2.lt _ e).1; omega); have hlk := hM6.look HW.out)
                    have hbl6 : Below w.heap.size w w6 := hbl2.grown hg hbl2.size (fun g hgg => by
                      have := (hown2.lt g hgg).1
                      omega)
                    have hbs6 := Nat.le_trans hbs2 hg.size
                    go_roundw
                    case rel => exact ⟨g, q6, c6, r ++ [n], N n, by rw [List.length_append]; rfl, rfl, rfl, by rw [List.length_append, List.length_singleton]; omega, by unfold OwnI; rw [List.length_append, ints_append]; exact hown6, hM6, hbl6, hbs6, HI.out⟩
                    case measure => first | omega | (simp; omega) | (dsimp only; omega)
          · obtain rfl : t = 8 := by omega
            have hr := HR0.out
            rw [hA.out] at hr
            have HRR := Lib.hid hr
            clear hr hA HR0
            go_wp2_with fail
            go_ret3
            rw [HRR.out]
            exact ⟨none, 0, rfl, Sl.zero _ _, hbl⟩
end Go.Proofs.Ytfcimbhjoioinaa
