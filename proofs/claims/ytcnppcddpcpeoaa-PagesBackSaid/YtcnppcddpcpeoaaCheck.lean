/-
  Check: is a store right?
-/
import Derived.Test.YtcnppcddpcpeoaaUses
import Derived.Test.YtcnppcddpcpeoaaEq
import Derived.Test.YtcnppcddpcpeoaaPgEq
namespace Go.Proofs.Ytcnppcddpcpeoaa
open Go.RowKit

open Classical in
noncomputable def checkC (s : DsC) : Int := if 400 < s.pages.length ∨ 40 < s.roots.length then 2 else if Ok s then 0 else 3
theorem allCnt_eq (n : Nat) (rs : List (List Int)) (h : ∀ r ∈ rs, rootOk n r) : allCnt n rs = (List.range n).map fun p => (cnt rs p : Int) := by
  have key : ∀ (rs : List (List Int)) (u : List Int), u.length = n → (∀ r ∈ rs, rootOk n r) → ∀ i, i < n → (rs.foldl countUp u).getD i 0 = u.getD i 0 + cnt rs i := by
    intro rs
    induction rs with
    | nil => intro u _ _ i _; simp [cnt]
    | cons r rs ih =>
      intro u hu h i hi
      have hr := countUp_get r u i (by rw [hu]; exact (h r (by simp)).2) (by omega)
      rw [List.foldl_cons, ih _ (by rw [hr.1, hu]) (fun r hr => h r (by simp [hr])) i hi, hr.2]
      simp [cnt]; omega
  refine list_eq_range (allCnt_length _ _) fun i hi => ?_
  unfold allCnt
  rw [key rs _ (by simp) h i hi]
  simp [hi]

def CheckPost (S : Nat) (r : Int) (W : World) (e : Ending) (W' : World) : Prop := e = .returned (.int .i64 r) ∧ Below S W W'
theorem checkPost_bad {S : Nat} {s : DsC} {W W' : World} (h1 : s.pages.length ≤ 400) (h2 : s.roots.length ≤ 40) (h : ¬ Ok s) (hb : Below S W W') : CheckPost S (checkC s) W (.returned (.int .i64 3)) W' := by
  refine ⟨?_, hb⟩
  unfold checkC
  rw [if_neg (by omega), if_neg h]
theorem checkPost_ok {S : Nat} {s : DsC} {W W' : World} (h : Ok s) (hb : Below S W W') : CheckPost S (checkC s) W (.returned (.int .i64 0)) W' := by
  refine ⟨?_, hb⟩
  unfold checkC
  have h1 := h.np
  have h2 := h.nr
  rw [if_neg (by omega), if_pos h]

set_option maxHeartbeats 4000000 in
theorem check_any {W : World} {x : Ds} (hx : x.ok W) :
    Calls Try.prog 10 #[x.val] W fun e W' => CheckPost W.heap.size (checkC x.c) W e W' := by
  obtain ⟨⟨pp, cp, pg⟩, ⟨pu, cu, us⟩, ⟨pr, cr, rs⟩⟩ := x
  have hxx := hx
  obtain ⟨hpg, hus, hrs⟩ := hx
  have hpl := hpg.le
  have hrl := hrs.le
  have hul := hus.lt63
  dsimp only at hpg hus hrs hpl hrl hul ⊢
  have hb0 := (Below.refl W.heap.size W).alloc (Nat.le_refl _) (.cells #[.slice pp pg.length cp, .slice pu us.length cu, .slice pr rs.length cr] 26)
  have hA0 := Blk.mk2 W #[.slice pp pg.length cp, .slice pu us.length cu, .slice pr rs.length cr] 26
  generalize hbn : W.heap.size = S at *
  have hen : ∀ (e : Prop), True := fun _ => trivial
  by_cases hlarge : 400 < pg.length ∨ 40 < rs.length
  · have hc : checkC (Ds.c ⟨⟨pp, cp, pg⟩, ⟨pu, cu, us⟩, ⟨pr, cr, rs⟩⟩) = 2 := by unfold checkC; rw [if_pos (by simpa [Ds.c] using hlarge)]
    rw [hc]
    clear hc
    have hk : (decide ((400 : Int) < pg.length) = true) ∨ (decide ((400 : Int) < pg.length) = false ∧ decide ((40 : Int) < rs.length) = true) := by
      by_cases h : 400 < pg.length
      · exact .inl (by simp; omega)
      · exact .inr ⟨by simp; omega, by simp; omega⟩
    have HLG := Lib.hid hlarge; clear hlarge
    rcases hk with k1 | ⟨k1, k2⟩
    all_goals
      go_enter Try.func10, Try.ntmps10
      refine wp_seq_k fun K hK => ?_
      have HK := Lib.hid hK; clear hK
      go_wp2_with fail
      refine HK.out _ _ ?_
      clear HK K
      generalize W.alloc (.cells #[.slice pp pg.length cp, .slice pu us.length cu, .slice pr rs.length cr] 26) = w1 at *
      have A0 : w1.cell? ⟨S, 0, none⟩ = some (.slice pp pg.length cp) := hA0.cell 0
      have A2 : w1.cell? ⟨S, 2, none⟩ = some (.slice pr rs.length cr) := hA0.cell 2
      go_wp2_with fail
      go_ret
      exact ⟨rfl, hb0⟩
  · have k1 : decide ((400 : Int) < pg.length) = false := by simp; omega
    have k2 : decide ((40 : Int) < rs.length) = false := by simp; omega
    have hp4 : pg.length ≤ 400 := by omega
    have hr4 : rs.length ≤ 40 := by omega
    clear hlarge
    have hbad := fun W' => checkPost_bad (S := S) (s := Ds.c ⟨⟨pp, cp, pg⟩, ⟨pu, cu, us⟩, ⟨pr, cr, rs⟩⟩) (W := W) (W' := W') hp4 (by simpa [Ds.c] using hr4)
    have hgood := fun W' => checkPost_ok (S := S) (s := Ds.c ⟨⟨pp, cp, pg⟩, ⟨pu, cu, us⟩, ⟨pr, cr, rs⟩⟩) (W := W) (W' := W')
    have HBAD := Lib.hid hbad; have HGOOD := Lib.hid hgood; clear hbad hgood
    go_enter Try.func10, Try.ntmps10
    refine wp_seq_k fun K hK => ?_
    have HK := Lib.hid hK; clear hK
    go_wp2_with fail
    refine HK.out _ _ ?_
    clear HK K
    generalize W.alloc (.cells #[.slice pp pg.length cp, .slice pu us.length cu, .slice pr rs.length cr] 26) = w1 at *
    have A0 : w1.cell? ⟨S, 0, none⟩ = some (.slice pp pg.length cp) := hA0.cell 0
    have A1 : w1.cell? ⟨S, 1, none⟩ = some (.slice pu us.length cu) := hA0.cell 1
    have A2 : w1.cell? ⟨S, 2, none⟩ = some (.slice pr rs.length cr) := hA0.cell 2
    have hcall := uses_any (Ds.ok.st _ _ _ hxx (hbn ▸ hb0)) (x := ⟨⟨pp, cp, pg⟩, ⟨pu, cu, us⟩, ⟨pr, cr, rs⟩⟩) hp4 hr4
    go_wp2_with fail
    refine hcall.mono ?_
    rintro _ w2 ⟨hpost, hb⟩
    have hb2 := hb0.trans (hb.mono (hbn ▸ hb0.size))
    have hA2 := hA0.next hb
    clear A0 A1 A2 hcall
    rcases hpost with ⟨hroots, p, c, rfl, hM⟩ | ⟨hroots, rfl⟩
    · have hae := allCnt_eq _ _ hroots
      have HR := Lib.hid hroots; have HAE := Lib.hid hae; clear hroots hae
      have hml : (allCnt pg.length (rs.map (·.l))).length = pg.length := allCnt_length _ _
      generalize hmany : allCnt pg.length (rs.map (·.l)) = many at *
      have HMY := Lib.hid hmany; have HML := Lib.hid hml
      clear hmany
      have hM2 : Sl w2 1 p pg.length c (ints .i64 many) := by have := hM; unfold SlI at this; rwa [hml] at this
      clear hml hM
      have hus2 := RdI.st _ _ _ hus (hbn ▸ hb2)
      have B1 : w2.cell? ⟨S, 1, none⟩ = some (.slice pu us.length cu) := hA2.cell 1
      rcases (Classical.em (many = us)).symm with he | he
      · have heq := equalI_is hM2 hus2 (decide_eq_false he)
        have HEQ := Lib.hid heq
        have hno := HBAD.out
        have HE := Lib.hid he; clear heq he
        go_wp2_with fail
        refine HEQ.out.mono ?_
        rintro _ w3 ⟨rfl, hb3⟩
        go_wp2_with fail
        go_ret
        exact hno _ (fun hok => HE.out (HAE.out.trans hok.uses.symm)) (hb2.trans (hb3.mono (hbn ▸ hb2.size)))
      · have heq := equalI_is hM2 hus2 (decide_eq_true he)
        have HEQ := Lib.hid heq
        have HE := Lib.hid he; clear heq he
        go_wp2_with fail
        refine HEQ.out.mono ?_
        rintro _ w3 ⟨rfl, hb3⟩
        have hb4 := hb2.trans (hb3.mono (hbn ▸ hb2.size))
        have C0 : w3.cell? ⟨S, 0, none⟩ = some (.slice pp pg.length cp) := (hA2.next hb3).cell 0
        have hpg3 := RdPg.st _ _ _ hpg (hbn ▸ hb4)
        have hM3 := hM2.below hb3
        clear B1 HEQ hA2 hM2 hus2 hb2 hb3
        go_wp2_with fail
        clear C0
        generalize hz3 : w3.heap.size = Z at *
        go_loopw [34] (fun s wr => ∃ k : Nat, k ≤ pg.length ∧ s = .int .i64 k ∧ Below Z w3 wr ∧ Hid (∀ i, i < k → (pg.getD i default = Pg.zero ↔ many.getD i 0 = 0))) (fun s _ => pg.length - (intOf s).toNat)
        case atStart => exact ⟨0, Nat.zero_le _, rfl, Below.refl _ _, fun i h => by omega⟩
        case round =>
          obtain ⟨k, hk, rfl, hbl, hok⟩ := hrel
          have hbS := hb4.trans (hbl.mono (by rw [← hz3, ← hbn]; exact hb4.size))
          by_cases hlt : k < pg.length
          · obtain ⟨b, off, hp, hb5, hc⟩ := (RdPg.st _ _ _ hpg3 (hz3 ▸ hbl)).at_ (fun _ => rfl) (by omega) hlt default
            dsimp only at hp
            have hml : many.length = pg.length := HML.out
            obtain ⟨b6, o6, hp6, hb6, hc6⟩ := ((hM3.below (hz3 ▸ hbl)).row.cons (by simp; omega))
            have hc6 := (hc6 k (by simp; omega)).trans (ints_getD (by omega))
            clear hml
            generalize hx : pg.getD k default = x at *
            generalize hv : many.getD k 0 = v at *
            have HX := Lib.hid hx; have HV := Lib.hid hv; clear hx hv
            obtain ⟨xa, xb, xc, xd⟩ := x
            have h0 : wr.cell? ⟨b, off + k * 4, none⟩ = some (.int .i64 xa) := hc 0 _ rfl
            have h1 : wr.cell? ⟨b, off + k * 4 + 1, none⟩ = some (.int .i64 xb) := hc 1 _ rfl
            have h2 : wr.cell? ⟨b, off + k * 4 + 2, none⟩ = some (.int .i64 xc) := hc 2 _ rfl
            have h3 : wr.cell? ⟨b, off + k * 4 + 3, none⟩ = some (.int .i64 xd) := hc 3 _ rfl
            subst hp hp6
            clear hc
            go_wp2_with fail
            have hal := (Below.refl wr.heap.size wr).alloc (Nat.le_refl _) (.cells #[.int .i64 xa, .int .i64 xb, .int .i64 xc, .int .i64 xd] 38)
            have hBx := Blk.mk2 wr #[.int .i64 xa, .int .i64 xb, .int .i64 xc, .int .i64 xd] 38
            have hc7 := (hal.cell (p := ⟨b6, o6 + k, none⟩) hb6).trans hc6
            have hbl2 := hbl.trans (hal.mono (by rw [← hz3]; exact hbl.size))
            have hbS2 := hb4.trans (hbl2.mono (by rw [← hz3, ← hbn]; exact hb4.size))
            generalize hbx : wr.heap.size = BX at *
            generalize wr.alloc (.cells #[.int .i64 xa, .int .i64 xb, .int .i64 xc, .int .i64 xd] 38) = w5 at *
            have x0 : w5.cell? ⟨BX, 0, none⟩ = some (.int .i64 xa) := hBx.cell 0
            have x1 : w5.cell? ⟨BX, 1, none⟩ = some (.int .i64 xb) := hBx.cell 1
            have x2 : w5.cell? ⟨BX, 2, none⟩ = some (.int .i64 xc) := hBx.cell 2
            have x3 : w5.cell? ⟨BX, 3, none⟩ = some (.int .i64 xd) := hBx.cell 3
            clear h0 h1 h2 h3 hc6 hal hBx hbS hbl
            have r0 := cell_regrown x0; have r1 := cell_regrown x1; have r2 := cell_regrown x2; have r3 := cell_regrown x3; have r4 := cell_regrown hc7
            clear x0 x1 x2 x3 hc7
            have hq : ∀ w, (Op.equalIn 10000 38 (.agg #[.int .i64 xa, .int .i64 xb, .int .i64 xc, .int .i64 xd]) (.agg #[.int .i64 0, .int .i64 0, .int .i64 0, .int .i64 0])).run Try.prog w = .ok (decide ((⟨xa, xb, xc, xd⟩ : Pg) = Pg.zero)) w := fun w => run_eqIn_page w ⟨xa, xb, xc, xd⟩ Pg.zero
            have hdone : (!(decide ((⟨xa, xb, xc, xd⟩ : Pg) = Pg.zero) == (v == 0))) = false → Hid (∀ i, i < k + 1 → (pg.getD i default = Pg.zero ↔ many.getD i 0 = 0)) := fun h j hj => by
              rcases Nat.lt_or_ge j k with h3 | h3
              · exact hok.out j h3
              · obtain rfl : j = k := by omega
                rw [HX.out, HV.out]
                have h4 : decide ((⟨xa, xb, xc, xd⟩ : Pg) = Pg.zero) = (v == 0) := by simpa using h
                rw [Bool.eq_iff_iff] at h4
                simpa using h4
            have hbad : (!(decide ((⟨xa, xb, xc, xd⟩ : Pg) = Pg.zero) == (v == 0))) = true → ¬ Ok (Ds.c ⟨⟨some ⟨b, off, none⟩, cp, pg⟩, ⟨pu, cu, us⟩, ⟨pr, cr, rs⟩⟩) := fun h hok2 => by
              have h5 := hok2.zero k hlt
              have h6 : (pg.getD k default = Pg.zero) ↔ _ := h5
              rw [HX.out] at h6
              have h7 : (many.getD k 0) = (cnt (rs.map (·.l)) k : Int) := by rw [HAE.out, range_map_get _ _ _ hlt]
              rw [HV.out] at h7
              have h8 : decide ((⟨xa, xb, xc, xd⟩ : Pg) = Pg.zero) = (v == 0) := by
                rw [Bool.eq_iff_iff]
                simp only [decide_eq_true_eq, beq_iff_eq]
                rw [h6]
                show cnt (rs.map (·.l)) k = 0 ↔ _
                omega
              rw [h8] at h
              simp at h
            have HD := Lib.hid hdone; have HB := Lib.hid hbad; clear hdone hbad
            generalize decide ((⟨xa, xb, xc, xd⟩ : Pg) = Pg.zero) = bz at *
            refine quiet_below rfl (by kernel_rfl) (by kernel_rfl) ?_
            repeat (go_big_quiet_step (fail))
            refine wpQuiet_nil ?_
            intro w6 hb6'
            have hbl3 := hbl2.trans (hb6'.mono (by rw [← hz3]; exact hbl2.size))
            have hbS3 := hb4.trans (hbl3.mono (by rw [← hz3, ← hbn]; exact hb4.size))
            clear r0 r1 r2 r3 r4 hq
            cases hne : (!(bz == (v == 0))) with
            | true =>
              have hno := HBAD.out w6 (HB.out hne) hbS3
              have HNO := Lib.hid hno; clear hno
              go_wp2_with fail
              go_ret
              exact HNO.out
            | false =>
              have hok2 := HD.out hne
              go_wp2_with fail
              go_roundw
              case rel => exact ⟨k + 1, by omega, by go_num, hbl3, hok2⟩
              case measure => simp [intOf]; omega
          · obtain rfl : k = pg.length := by omega
            have hfin := HGOOD.out wr ⟨hp4, by simpa [Ds.c] using hr4, by intro r hr; exact HR.out r hr, HE.out.symm.trans HAE.out, fun i hi => by
              have := hok.out i hi
              show pg.getD i default = Pg.zero ↔ cnt (rs.map (·.l)) i = 0
              rw [this, HAE.out, range_map_get _ _ _ (show i < pg.length from hi)]
              omega⟩ hbS
            have HF := Lib.hid hfin; clear hfin
            go_wp2_with fail
            go_ret
            exact HF.out
    · have hno := HBAD.out w2 (fun hok => hroots hok.form) hb2
      have HNO := Lib.hid hno; clear hno hroots
      have B1 : w2.cell? ⟨S, 1, none⟩ = some (.slice pu us.length cu) := hA2.cell 1
      go_wp2_with fail
      go_ret
      exact HNO.out
end Go.Proofs.Ytcnppcddpcpeoaa
