/-
  Hunt.
-/
import Derived.Test.YtoillodfabdeeaaPick
namespace Go.Proofs.Ytoillodfabdeeaa
open Go.RowKit Go.Sort

theorem run_eql_func_nil (w : World) (f : FuncId) (capt : Array Value) : (binOp .eql 30 (.func (.func f) #[] capt) .nilFunc).run Try.prog w = .ok (.bool false) w := by
  have h : ∀ d : Nat, (Op.equalIn (d + 1) 30 (.func (.func f) #[] capt) .nilFunc).run Try.prog w = .ok false w := fun d => by
    simp [Op.equalIn, run_underlying Try.underlying30]
  simp only [binOp]
  simp [Op.equal, Op.maxDepth, h 9999]

theorem pickTo_spec (ps : List Pt) (S : List Int) (bad : Int) (n : Nat) : ∀ l : List Int, l.length = n → ((pickTo ps S bad l).1 = -1 ∧ (pickTo ps S bad l).2 = -1) ∨ ((pickTo ps S bad l).2 ∈ l ∧ (pickTo ps S bad l).2 ≠ bad ∧ (pickTo ps S bad l).1 = halfI S (Bk ps (pickTo ps S bad l).2.toNat)) := by
  induction n with
  | zero => intro l h; have := List.eq_nil_of_length_eq_zero h; subst this; exact .inl ⟨rfl, rfl⟩
  | succ n ih =>
    intro l h
    have hl : l ≠ [] := fun e => by subst e; simp at h
    obtain ⟨l', x, rfl⟩ : ∃ l' x, l = l' ++ [x] := ⟨l.dropLast, l.getLast hl, (List.dropLast_concat_getLast hl).symm⟩
    rw [pickTo_snoc]
    unfold pickStep
    split
    · next hh => exact .inr ⟨by simp, hh.1, rfl⟩
    · rcases ih l' (by simpa using h) with h1 | ⟨h1, h2, h3⟩
      · exact .inl h1
      · exact .inr ⟨List.mem_append_left _ h1, h2, h3⟩
theorem pickP_mem {ps : List Pt} {S : List Int} {bad : Int} (h : 0 ≤ pickP ps S bad) : pickP ps S bad ∈ S ∧ pickP ps S bad ≠ bad := by
  rcases pickTo_spec ps S bad S.length S rfl with ⟨-, h1⟩ | ⟨h1, h2, -⟩
  · unfold pickP at h; rw [h1] at h; omega
  · exact ⟨h1, h2⟩

/-- What the callers know of the hunt as it goes on. -/
structure Goes (ps : List Pt) (p : Int → Bool) (I : Int → List Int → Nat → Prop) : Prop where
  yes : ∀ b g m, I b g m → (0 ≤ b ∧ b < ps.length) → GoodOk ps g → 0 ≤ pickM ps b g → p (pickM ps b g) = true → I (pickM ps b g) g (m + 1) ∧ (suspP ps (pickM ps b g).toNat g).length < (suspP ps b.toNat g).length
  no : ∀ b g m, I b g m → (0 ≤ b ∧ b < ps.length) → GoodOk ps g → 0 ≤ pickM ps b g → p (pickM ps b g) = false → I b (g ++ [pickM ps b g]) (m + 1) ∧ (suspP ps b.toNat (g ++ [pickM ps b g])).length < (suspP ps b.toNat g).length

set_option maxRecDepth 100000 in
set_option maxHeartbeats 4000000 in
theorem Hunt_any {w : World} {p q : Option Addr} {cap cap2 : Nat} {ps : List Pt} {good : List Int} (hR : Deps w p cap ps) (hG : SlI w q cap2 good) (hgl : good.length ≤ 1000) (bad : Int)
    {f : FuncId} {capt : Array Value} {D : World → Int → Prop} {pr : Int → Bool} (hF : PredV w f capt (Value.int .i64) D pr) (hD : ∀ w' (n : Int), Below w.heap.size w w' → 0 ≤ n → n < ps.length → D w' n) (h0 : askE ps bad good = 0)
    {I : Int → List Int → Nat → Prop} (hI0 : I bad good 0) (hgo : Goes ps pr I) :
    Calls Try.prog 11 #[.slice p ps.length cap, .int .i64 bad, .slice q good.length cap2, .func (.func f) #[] capt] w fun e w' =>
      ∃ b g m, I b g m ∧ pickM ps b g < 0 ∧ (0 ≤ b ∧ b < ps.length) ∧ GoodOk ps g ∧ e = .returned (.tuple #[.int .i64 b, .int .i64 (m : Nat), .int .i64 0]) ∧ Below w.heap.size w w' := by
  have hask := asked_any hR hG bad
  have hnf := fun w => run_eql_func_nil w f capt
  have hent := hF.ent
  have hz : errB ps bad good = 0 := by
    unfold askE at h0
    split at h0
    · assumption
    · exact h0
  obtain ⟨hO, hbad, hgok⟩ := errB_zero hz
  have h200 := hO.1
  rw [h0] at hask
  have HA := Lib.hid hask; have HO := Lib.hid hO; clear hask hz h0 hO
  go_enter Try.func11, Try.ntmps11
  go_wp2_with fail
  refine HA.out.mono ?_
  rintro _ w1 ⟨h1, hb1⟩
  rcases h1 with ⟨-, hp, hs, q', c', rfl, hH, hI, hown⟩ | ⟨hne, -⟩
  · have hlen := suspP_len (ps := ps) (bad := bad.toNat) (good := good)
    go_wp2_with fail
    refine (clone_any (hG.below hb1) (by omega)).mono ?_
    rintro _ w2 ⟨q2, c2, rfl, hown2, hb2⟩
    have hH2 := hH.below hb2
    have hS2 := (Sl.of_own hown).below hb2
    have hpick := pick_any hH2 hI hS2 (fun n h => suspP_mem h) bad
    change Calls Try.prog _ _ _ fun e w' => e = .returned (.int .i64 (pickM ps bad good)) ∧ _ at hpick
    have HK := Lib.hid hpick; clear hpick
    go_wp2_with fail
    refine HK.out.mono ?_
    rintro _ w3 ⟨rfl, rfl⟩
    have hB12 := hb1.trans (hb2.mono hb1.size)
    have hz1 := hb1.size
    have hz2 := hb2.size
    go_wp2_with fail
    go_loopw [1, 2, 12, 14, 15] (fun v1 v2 v12 v14 v15 wr => ∃ (b : Int) (g : List Int) (m : Nat) (gq : Option Addr) (gc : Nat), (∃ sq n sc, v12 = .slice sq n sc) ∧ v1 = .int .i64 b ∧ v2 = .slice gq g.length gc ∧ v14 = .int .i64 m ∧ v15 = .int .i64 (pickM ps b g) ∧
        Hid (I b g m) ∧ (0 ≤ b ∧ b < ps.length) ∧ Hid (GoodOk ps g) ∧ OwnI wr w1.heap.size gq gc g ∧ m + (suspP ps b.toNat g).length ≤ ps.length ∧ g.length ≤ good.length + m ∧ Below w1.heap.size w1 wr) (fun _ _ _ v14 _ _ => ps.length - (intOf v14).toNat)
    case atStart => exact ⟨bad, good, 0, q2, c2, ⟨_, _, _, rfl⟩, rfl, rfl, rfl, rfl, hI0, hbad, hgok, hown2, by omega, by omega, hb2⟩
    case round =>
      clear hown2 hown hS2 hH2 HK HA
      obtain ⟨b, g, m, gq, gc, ⟨sq, sn, sc, rfl⟩, rfl, rfl, rfl, rfl, hinv, hbr, hgk, hog, hml, hgl2, hbw⟩ := hrel
      have hbw0 := hb1.trans (hbw.mono hb1.size)
      have hzw := hbw.size
      by_cases hp0 : 0 ≤ pickM ps b g
      · have hmem := suspP_mem (pickP_mem (ps := ps) (S := suspP ps b.toNat g) (bad := b) hp0).1
        change 0 ≤ pickM ps b g ∧ pickM ps b g < ps.length at hmem
        have hy := hgo.yes b g m hinv.out hbr hgk.out hp0
        have hn := hgo.no b g m hinv.out hbr hgk.out hp0
        have hcall := hF.call wr hbw0 (pickM ps b g) (hD wr _ hbw0 hmem.1 hmem.2)
        have HY := Lib.hid hy; have HN := Lib.hid hn; have HC := Lib.hid hcall
        clear hy hn hcall hinv
        generalize pickM ps b g = n at *
        obtain ⟨k, rfl⟩ := Int.eq_ofNat_of_zero_le hmem.1
        obtain ⟨kb, rfl⟩ := Int.eq_ofNat_of_zero_le hbr.1
        have hkl : k < ps.length := by omega
        have hkb : kb < ps.length := by omega
        simp only [Int.toNat_natCast] at HY HN hml
        go_wp2_with fail
        refine HC.out.mono ?_
        rintro _ w4 ⟨rfl, hb4⟩
        have hbw4 := hbw.trans (hb4.mono hbw.size)
        have hog4 := own_below hog hb4
        have hH4 := hH.below hbw4
        have hzw4 := hbw4.size
        cases hpr : pr k with
        | true =>
          obtain ⟨hi', hlt'⟩ := HY.out hpr
          have hsu := susp_any hH4 (Sl.of_own hog4) (fun x hx => by rw [hI.1]; exact hgk.out x hx) k (by rw [hI.1]; exact hkl)
          rw [susp_eq hI hgk.out hkl] at hsu
          have Hi := Lib.hid hi'; have HS := Lib.hid hsu
          clear hi' hsu hpr HY HN HC
          go_wp2_with fail
          refine HS.out.mono ?_
          rintro _ w5 ⟨q5, c5, rfl, hown5, hb5⟩
          have hpick := pick_any (hH4.below hb5) hI (Sl.of_own hown5) (fun n h => suspP_mem h) (k : Int)
          change Calls Try.prog _ _ _ fun e w' => e = .returned (.int .i64 (pickM ps k g)) ∧ _ at hpick
          have HK := Lib.hid hpick; clear hpick
          go_wp2_with fail
          refine HK.out.mono ?_
          rintro _ w6 ⟨rfl, rfl⟩
          have hml2 : m + 1 + (suspP ps k g).length ≤ ps.length := by omega
          have hm1 : m + 1 ≤ ps.length := by omega
          clear HS HK hown5
          go_wp2_with fail
          go_roundw
          case rel => exact ⟨k, g, m + 1, gq, gc, ⟨_, _, _, rfl⟩, rfl, rfl, by go_num, rfl, Hi.out, by omega, hgk, own_below hog4 hb5, hml2, by omega, hbw4.trans (hb5.mono hzw4)⟩
          case measure => simp [intOf]; omega
        | false =>
          obtain ⟨hi', hlt'⟩ := HN.out hpr
          have hgk2 : GoodOk ps (g ++ [(k : Int)]) := fun x hx => by
            rcases List.mem_append.1 hx with h | h
            · exact hgk.out x h
            · rw [List.mem_singleton.1 h]; omega
          have Hi := Lib.hid hi'; have Hgk2 := Lib.hid hgk2
          clear hi' hpr HY HN HC hgk hgk2
          obtain ⟨i0, hi0, iz0, iz1, iz2⟩ := info_parts infoI
          have hal4 := (Below.refl w4.heap.size w4).alloc (Nat.le_refl _) (.cells #[.int .i64 (k : Int)] 3)
          have hb4s : w1.heap.size ≤ (w4.alloc (.cells #[.int .i64 (k : Int)] 3)).heap.size := Nat.le_trans hzw4 hal4.size
          go_wp2_with (at_builtin; refine wpList_append_sl _ rfl _ _ 23 rfl w1.heap.size 3 i0 (.int .i64 0) 1 8 Try.underlying23 hi0 iz0 iz1 iz2 rfl (by decide) _ _ _ rfl (own_below hog4 hal4) _ 1 1 (ints .i64 [(k : Int)]) rfl (lit_sl w4 [(k : Int)] (by simp) #[.int .i64 (k : Int)] rfl _ rfl 1 rfl) ints_one (by omega) (by omega) hb4s ?_; intro p' c' w5 hown5 hb5)
          rw [← ints_append] at hown5
          have hl2 : g.length + 1 = (g ++ [(k : Int)]).length := by simp
          have Hl2 := Lib.hid hl2
          rw [hl2] at hown5
          have hbw5 := hbw4.trans ((hal4.mono hzw4).trans hb5)
          have hH5 := hH.below hbw5
          have hsu := susp_any hH5 (Sl.of_own hown5) (fun x hx => by rw [hI.1]; exact Hgk2.out x hx) kb (by rw [hI.1]; exact hkb)
          rw [susp_eq hI Hgk2.out hkb] at hsu
          rw [← hl2] at hsu
          have HS := Lib.hid hsu; clear hsu hl2
          go_wp2_with fail
          refine HS.out.mono ?_
          rintro _ w6 ⟨q6, c6, rfl, hown6, hb6⟩
          have hpick := pick_any (hH5.below hb6) hI (Sl.of_own hown6) (fun n h => suspP_mem h) (kb : Int)
          change Calls Try.prog _ _ _ fun e w' => e = .returned (.int .i64 (pickM ps kb (g ++ [(k : Int)]))) ∧ _ at hpick
          have HK := Lib.hid hpick; clear hpick
          go_wp2_with fail
          refine HK.out.mono ?_
          rintro _ w7 ⟨rfl, rfl⟩
          have hml2 : m + 1 + (suspP ps kb (g ++ [(k : Int)])).length ≤ ps.length := by omega
          have hm1 : m + 1 ≤ ps.length := by omega
          have hgl3 : (g ++ [(k : Int)]).length ≤ good.length + (m + 1) := by rw [← Hl2.out]; omega
          have hzw5 := hbw5.size
          have hown7 := own_below hown5 hb6
          have Hown := Lib.hid hown7
          clear HS HK hown6 hown5 hown7
          go_wp2_with fail
          go_roundw
          case rel => exact ⟨kb, g ++ [(k : Int)], m + 1, p', c', ⟨_, _, _, rfl⟩, rfl, by rw [← Hl2.out], by go_num, rfl, Hi.out, by omega, Hgk2.out, Hown.out, hml2, hgl3, hbw5.trans (hb6.mono hzw5)⟩
          case measure => simp [intOf]; omega
      · have hp1 : pickM ps b g < 0 := by omega
        have Hp := Lib.hid hp1
        generalize hpe : pickM ps b g = n at *
        have Hpe := Lib.hid hpe; clear hpe
        go_wp2_with fail
        go_ret3
        exact ⟨b, g, m, hinv.out, by rw [Hpe.out]; exact Hp.out, hbr, hgk.out, rfl, hbw0⟩
  · exact absurd rfl hne
end Go.Proofs.Ytoillodfabdeeaa
