/-
  uses: how often each page is used.
-/
import Derived.Test.YtcnppcddpcpeoaaSt
import Derived.Test.YtcnppcddpcpeoaaFast
import Derived.Test.YtcnppcddpcpeoaaOwnI
namespace Go.Proofs.Ytcnppcddpcpeoaa
open Go.RowKit

theorem countUp_snoc (u : List Int) (r : List Int) (p : Int) : countUp u (r ++ [p]) = if 0 ≤ p then (countUp u r).set p.toNat ((countUp u r).getD p.toNat 0 + 1) else countUp u r := by
  unfold countUp
  rw [List.foldl_append]
  rfl
theorem countUp_length (u r : List Int) : (countUp u r).length = u.length := by
  induction r generalizing u with
  | nil => rfl
  | cons p r ih =>
    unfold countUp at *
    rw [List.foldl_cons, ih]
    split <;> simp
theorem take_snoc_ {α : Type} {l : List α} {j : Nat} {x : α} (h : l[j]? = some x) : l.take (j + 1) = l.take j ++ [x] := by
  rw [List.take_add_one, h]; rfl
def Bd (u : List Int) (m : Nat) : Prop := ∀ i, 0 ≤ u.getD i 0 ∧ u.getD i 0 ≤ m
theorem Bd.step {u : List Int} {m : Nat} (h : Bd u m) (i : Nat) : Bd (u.set i (u.getD i 0 + 1)) (m + 1) := fun j => by
  have h1 := h i
  have h2 := h j
  by_cases hi : i < u.length
  · by_cases e : i = j
    · subst e; simp [hi] at h1 ⊢; omega
    · simp only [List.getD_eq_getElem?_getD, List.getElem?_set, if_neg e] at h1 h2 ⊢; omega
  · rw [List.set_eq_of_length_le (by omega)]; omega
theorem Bd.mono {u : List Int} {m n : Nat} (h : Bd u m) (hm : m ≤ n) : Bd u n := fun j => by have := h j; omega
def allCnt (n : Nat) (rs : List (List Int)) : List Int := rs.foldl countUp (List.replicate n 0)
theorem allCnt_snoc (n : Nat) (rs : List (List Int)) (r : List Int) : allCnt n (rs ++ [r]) = countUp (allCnt n rs) r := by
  unfold allCnt; rw [List.foldl_append]; rfl
theorem allCnt_length (n : Nat) (rs : List (List Int)) : (allCnt n rs).length = n := by
  have : ∀ (rs : List (List Int)) (u : List Int), (rs.foldl countUp u).length = u.length := by
    intro rs
    induction rs with
    | nil => intro u; rfl
    | cons r rs ih => intro u; rw [List.foldl_cons, ih, countUp_length]
  unfold allCnt; rw [this]; simp
theorem Bd.zero (n : Nat) : Bd (List.replicate n 0) 0 := fun j => by
  simp only [List.getD_eq_getElem?_getD, List.getElem?_replicate]
  split <;> simp

/-- What 'uses' answers. -/
def UsesPost (S n : Nat) (rs : List (List Int)) (W : World) (e : Ending) (W' : World) : Prop :=
  (((∀ r ∈ rs, rootOk n r) ∧ ∃ p c, e = .returned (.tuple #[.slice p n c, .bool true]) ∧ SlI W' p c (allCnt n rs)) ∨ ((¬ ∀ r ∈ rs, rootOk n r) ∧ e = .returned (.tuple #[.slice none 0 0, .bool false]))) ∧ Below S W W'
theorem usesPost_bad {S n : Nat} {rs : List (List Int)} {W W' : World} (h : ∃ r ∈ rs, ¬ rootOk n r) (hb : Below S W W') : UsesPost S n rs W (.returned (.tuple #[.slice none 0 0, .bool false])) W' :=
  ⟨.inr ⟨fun h2 => by obtain ⟨r, hr, hn⟩ := h; exact hn (h2 r hr), rfl⟩, hb⟩

set_option maxHeartbeats 4000000 in
theorem uses_any {W : World} {x : Ds} (hx : x.ok W) (hp : x.pages.l.length ≤ 400) (hr : x.roots.l.length ≤ 40) :
    Calls Try.prog 21 #[x.val] W fun e W' => UsesPost W.heap.size x.pages.l.length (x.roots.l.map (·.l)) W e W' := by
  obtain ⟨⟨pp, cp, pg⟩, ⟨pu, cu, us⟩, ⟨pr, cr, rs⟩⟩ := x
  obtain ⟨hpg, hus, hrs⟩ := hx
  dsimp only at hpg hus hrs hp hr ⊢
  obtain ⟨i0, hi0, hz0, hz1, hz2⟩ := info_parts infoI
  have hb0 := (Below.refl W.heap.size W).alloc (Nat.le_refl _) (.cells #[.slice pp pg.length cp, .slice pu us.length cu, .slice pr rs.length cr] 26)
  have hA0 := Blk.mk2 W #[.slice pp pg.length cp, .slice pu us.length cu, .slice pr rs.length cr] 26
  have H0 := RdR.st _ _ _ hrs hb0
  clear hrs hpg hus
  generalize hbn : W.heap.size = S at *
  go_enter Try.func21, Try.ntmps21
  refine wp_seq_k fun K hK => ?_
  have HK := Lib.hid hK; clear hK
  go_wp2_with fail
  refine HK.out _ _ ?_
  clear HK K
  generalize W.alloc (.cells #[.slice pp pg.length cp, .slice pu us.length cu, .slice pr rs.length cr] 26) = w1 at *
  have A0 : w1.cell? ⟨S, 0, none⟩ = some (.slice pp pg.length cp) := hA0.cell 0
  go_wp2_with (at_make; refine wpList_make_full _ rfl _ _ 23 rfl w1.heap.size 3 i0 (.int .i64 0) 1 Try.underlying23 hi0 hz0 hz1 .i64 .i64 _ _ pg.length rfl rfl rfl rfl (by rw [hz2]; omega) (by unfold maxLen; omega) (Nat.le_refl _) ?_; intro w2 hown hg; have hb2 := below_none hg; have A2 : w2.cell? ⟨S, 2, none⟩ = some (.slice pr rs.length cr) := (hA0.next hb2).cell 2)
  clear A0 A2
  rw [made_ints] at hown
  generalize hbu : w1.heap.size = U at *
  have hSU : S ≤ U := by rw [← hbu]; exact Nat.le_trans (Nat.le_of_eq hbn.symm) hb0.size
  go_loopw [16] (fun s wr => ∃ k : Nat, k ≤ rs.length ∧ s = .int .i64 k ∧ Below U w1 wr ∧ wr.ownsRow U 3 1 (.slice (some ⟨U, 0, none⟩) pg.length pg.length) pg.length (ints .i64 (allCnt pg.length ((rs.take k).map (·.l)))) ∧ Bd (allCnt pg.length ((rs.take k).map (·.l))) (16 * k) ∧ Hid (∀ r ∈ rs.take k, rootOk pg.length r.l)) (fun s _ => rs.length - (intOf s).toNat)
  case atStart => exact ⟨0, Nat.zero_le _, rfl, hb2, hown, Bd.zero _, by simp [Hid]⟩
  clear hb2 hown hg
  case round =>
    obtain ⟨k, hk, rfl, hbl, hown, hbd, hok⟩ := hrel
    have hbW := hb0.trans (hbl.mono hSU)
    by_cases hlt : k < rs.length
    · obtain ⟨b, off, hp2, hb, hc, hrd⟩ := (RdR.st _ _ _ H0 (hbu ▸ hbl)).at_ hlt
      dsimp only at hp2 hc hrd
      have hx : rs[k]? = some (rs.getD k default) := by simp [hlt]
      have hmem : rs.getD k default ∈ rs := List.mem_of_getElem? hx
      generalize rs.getD k default = s at *
      obtain ⟨sp, sc, sl⟩ := s
      dsimp only [Sv.val] at hc hrd
      have hr1 : RdI w1 ⟨sp, sc, sl⟩ := H0.each _ hmem
      have hsl := hrd.lt63
      dsimp only at hsl
      subst hp2
      have HX := Lib.hid hx; have HM := Lib.hid hmem; clear hx hmem
      by_cases hlen : sl.length = 0 ∨ sl.length = 16
      · have hkk : (sl.length = 0 ∧ ((sl.length : Int) != 0) = false) ∨ (((sl.length : Int) != 0) = true ∧ ((sl.length : Int) != 16) = false) := by
          rcases hlen with h | h <;> simp [h]
        have HL := Lib.hid hlen; clear hlen
        have hl16 : sl.length ≤ 16 := by have := HL.out; omega
        have hin : Hid (∀ p ∈ sl.take 0, p = -1 ∨ (0 ≤ p ∧ p < pg.length)) := by simp [Hid]
        rcases hkk with ⟨hz, k1⟩ | ⟨k1, k2⟩
        case' inl => clear hz
        all_goals
          go_wp2_with fail
          obtain ⟨wo, rfl⟩ : ∃ wo : World, wo = wr := ⟨_, rfl⟩
          go_loopw [30] (fun s wr => ∃ j : Nat, j ≤ sl.length ∧ s = .int .i64 j ∧ Below U w1 wr ∧ wr.ownsRow U 3 1 (.slice (some ⟨U, 0, none⟩) pg.length pg.length) pg.length (ints .i64 (countUp (allCnt pg.length ((rs.take k).map (·.l))) (sl.take j))) ∧ Bd (countUp (allCnt pg.length ((rs.take k).map (·.l))) (sl.take j)) (16 * k + j) ∧ Hid (∀ p ∈ sl.take j, p = -1 ∨ (0 ≤ p ∧ p < pg.length))) (fun s _ => sl.length - (intOf s).toNat)
          case atStart => exact ⟨0, Nat.zero_le _, rfl, hbl, hown, hbd, hin⟩
          case round =>
            clear hbl hown hbd hrd hin hbW hc
            obtain ⟨j, hj, rfl, hbl, hown, hbd, hin⟩ := hrel
            have hbW := hb0.trans (hbl.mono hSU)
            by_cases hjl : j < sl.length
            · obtain ⟨b3, o3, hp3, hb3, hc3⟩ := (RdI.st _ _ _ hr1 (hbu ▸ hbl)).at_ hjl
              dsimp only at hp3 hc3
              have hy : sl[j]? = some (sl.getD j 0) := by simp [hjl]
              generalize sl.getD j 0 = p at *
              subst hp3
              have hbd1 := hbd
              generalize hu : countUp (allCnt pg.length ((rs.take k).map (·.l))) (sl.take j) = u at *
              have hul : u.length = pg.length := by have := hown.1; simpa using this
              have hsn := countUp_snoc (allCnt pg.length ((rs.take k).map (·.l))) (sl.take j) p
              rw [← take_snoc_ hy, hu] at hsn
              have HSN := Lib.hid hsn; have HU := Lib.hid hu; have HUL := Lib.hid hul; have HY := Lib.hid hy; clear hsn hu hul hy
              by_cases h1 : p = -1
              · subst h1
                rw [if_neg (by omega)] at HSN
                go_wp2_with fail
                go_roundw
                case rel => exact ⟨j + 1, by omega, by go_num, hbl, by rw [HSN.out]; exact hown, by rw [HSN.out]; exact hbd.mono (by omega), by
                  unfold Hid; rw [take_snoc_ HY.out]; intro q hq; rcases List.mem_append.1 hq with hq | hq
                  · exact hin.out q hq
                  · simp at hq; exact .inl hq⟩
                case measure => simp [intOf]; omega
              · have e1 : (p == -1) = false := by simpa using h1
                by_cases h2 : 0 ≤ p ∧ p < pg.length
                · obtain ⟨h3, h4⟩ := h2
                  obtain ⟨q, rfl⟩ : ∃ q : Nat, p = q := ⟨p.toNat, by omega⟩
                  have hq : q < pg.length := by omega
                  rw [if_pos h3] at HSN
                  have hcu := own_cell hown hq
                  have hfu := hown.frozenAt q
                  have hv := hbd q
                  have hst := own_set hown q (u.getD q 0 + 1)
                  have hbs := hbl.setCell (p := ⟨U, q, none⟩) (Nat.le_refl _) (.int .i64 (u.getD q 0 + 1))
                  have hbn1 := hbd.step q
                  generalize hvn : u.getD q 0 = v at *
                  have HVN := Lib.hid hvn; clear hvn hown
                  go_wp2_with fail
                  go_roundw
                  case rel => exact ⟨j + 1, by omega, by go_num, hbs, by rw [HSN.out]; simp only [Int.toNat_natCast]; rw [HVN.out]; exact hst, by rw [HSN.out]; simp only [Int.toNat_natCast]; rw [HVN.out]; exact hbn1, by
                    unfold Hid; rw [take_snoc_ HY.out]; intro q2 hq2; rcases List.mem_append.1 hq2 with hq2 | hq2
                    · exact hin.out q2 hq2
                    · simp at hq2; exact .inr (by omega)⟩
                  case measure => simp [intOf]; omega
                · have hbad : ∃ r ∈ rs.map (·.l), ¬ rootOk pg.length r := ⟨sl, List.mem_map.2 ⟨_, HM.out, rfl⟩, fun hro => by
                    rcases hro.2 p (List.mem_of_getElem? HY.out) with h | h
                    · exact h1 h
                    · exact h2 h⟩
                  have HBAD := Lib.hid hbad; clear hbad
                  by_cases h3 : 0 ≤ p
                  · have h4 : (pg.length : Int) ≤ p := by omega
                    clear h2
                    go_wp2_with fail
                    go_ret2
                    exact usesPost_bad HBAD.out hbW
                  · clear h2
                    go_wp2_with fail
                    go_ret2
                    exact usesPost_bad HBAD.out hbW
            · obtain rfl : j = sl.length := by omega
              have hsn := allCnt_snoc pg.length ((rs.take k).map (·.l)) sl
              have htk := take_snoc_ HX.out
              have hin2 := hin.out
              rw [List.take_length] at hown hbd hin2
              have e1 : (rs.take (k + 1)).map (·.l) = (rs.take k).map (·.l) ++ [sl] := by rw [htk]; simp
              rw [← e1] at hsn
              rw [← hsn] at hown hbd
              have HT := Lib.hid htk; have HI := Lib.hid hin2; clear hsn e1 htk hin2 hin
              go_wp2_with fail
              go_roundw
              case rel => exact ⟨k + 1, by omega, by go_num, hbl, hown, hbd.mono (by omega), by
                unfold Hid; rw [HT.out]; intro r hr2; rcases List.mem_append.1 hr2 with hr2 | hr2
                · exact hok.out r hr2
                · simp at hr2; subst hr2; exact ⟨HL.out.imp (fun h => List.eq_nil_of_length_eq_zero h) id, HI.out⟩⟩
              case measure => simp [intOf]; omega
      · have hbad : ∃ r ∈ rs.map (·.l), ¬ rootOk pg.length r := ⟨sl, List.mem_map.2 ⟨_, HM.out, rfl⟩, fun hro => hlen (hro.1.imp (fun h => by rw [h]; rfl) id)⟩
        have HBAD := Lib.hid hbad; clear hbad
        have k1 : ((sl.length : Int) != 0) = true := by simp only [bne_iff_ne, ne_eq]; omega
        have k2 : ((sl.length : Int) != 16) = true := by simp only [bne_iff_ne, ne_eq]; omega
        clear hlen
        go_wp2_with fail
        go_ret2
        exact usesPost_bad HBAD.out hbW
    · obtain rfl : k = rs.length := by omega
      rw [List.take_length] at hown
      have hok2 := hok.out
      rw [List.take_length] at hok2
      have HO := Lib.hid hok2; clear hok2 hok
      go_wp2_with fail
      go_ret2
      exact ⟨.inl ⟨fun r hr2 => by obtain ⟨s, hs, rfl⟩ := List.mem_map.1 hr2; exact HO.out s hs, _, _, rfl, by
        unfold SlI
        rw [allCnt_length]
        exact Sl.of_own hown⟩, hbW⟩
end Go.Proofs.Ytcnppcddpcpeoaa
