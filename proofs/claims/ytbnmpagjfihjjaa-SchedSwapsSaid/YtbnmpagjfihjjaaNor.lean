/-
  Normal: of a word its steps.
-/
import Derived.Test.YtbnmpagjfihjjaaNoI
import Derived.Test.YtbnmpagjfihjjaaSrc
import Derived.Test.YtbnmpagjfihjjaaNth
import Derived.Deep.CutRange
namespace Go.Proofs.Ytbnmpagjfihjjaa
open Go.RowKit

/-! ### The law's part -/
def bumpT (D : List (List Bool)) (a s j : Nat) (nx : List Nat) : List Nat := (List.range nx.length).map fun k => if k < j ∧ dg D a k = true then max (nx.getD k 0) (s + 1) else nx.getD k 0
theorem bumpT_len (D : List (List Bool)) (a s j : Nat) (nx : List Nat) : (bumpT D a s j nx).length = nx.length := by simp [bumpT]
theorem bumpT_get {D : List (List Bool)} {a s j k : Nat} {nx : List Nat} (hk : k < nx.length) : (bumpT D a s j nx).getD k 0 = if k < j ∧ dg D a k = true then max (nx.getD k 0) (s + 1) else nx.getD k 0 := by
  unfold bumpT
  rw [List.getD_eq_getElem?_getD, List.getElem?_map, List.getElem?_range hk]
  rfl
theorem getD_ext {l m : List Nat} (h : l.length = m.length) (he : ∀ k, k < l.length → l.getD k 0 = m.getD k 0) : l = m := by
  refine List.ext_getElem h fun k h1 h2 => ?_
  have := he k h1
  rwa [List.getD_eq_getElem?_getD, List.getD_eq_getElem?_getD, List.getElem?_eq_getElem h1, List.getElem?_eq_getElem h2] at this
theorem getD_setN (l : List Nat) (i j x : Nat) : (l.set i x).getD j 0 = if i = j ∧ j < l.length then x else l.getD j 0 := by
  rw [List.getD_eq_getElem?_getD, List.getElem?_set, List.getD_eq_getElem?_getD]
  by_cases h : i = j
  · subst h
    by_cases h2 : i < l.length
    · simp [h2]
    · simp [h2]
  · simp [h]
theorem bumpT_zero (D : List (List Bool)) (a s : Nat) (nx : List Nat) : bumpT D a s 0 nx = nx := getD_ext (bumpT_len _ _ _ _ _) fun k hk => by
  rw [bumpT_len] at hk
  rw [bumpT_get hk, if_neg (by omega)]
theorem bumpT_yes {D : List (List Bool)} {a s j : Nat} {nx : List Nat} (h : dg D a j = true) : (bumpT D a s j nx).set j (max ((bumpT D a s j nx).getD j 0) (s + 1)) = bumpT D a s (j + 1) nx := getD_ext (by rw [List.length_set, bumpT_len, bumpT_len]) fun k hk => by
  rw [List.length_set, bumpT_len] at hk
  rw [getD_setN, bumpT_len, bumpT_get hk, bumpT_get hk]
  by_cases e : j = k
  · subst e
    rw [if_pos ⟨rfl, hk⟩, bumpT_get hk, if_neg (by omega), if_pos ⟨by omega, h⟩]
  · rw [if_neg (by omega)]
    by_cases h1 : k < j ∧ dg D a k = true
    · rw [if_pos h1, if_pos ⟨by omega, h1.2⟩]
    · rw [if_neg h1, if_neg (fun h2 => h1 ⟨by omega, h2.2⟩)]
theorem bumpT_no {D : List (List Bool)} {a s j : Nat} {nx : List Nat} (h : dg D a j = false) : bumpT D a s j nx = bumpT D a s (j + 1) nx := getD_ext (by rw [bumpT_len, bumpT_len]) fun k hk => by
  rw [bumpT_len] at hk
  rw [bumpT_get hk, bumpT_get hk]
  by_cases e : j = k
  · subst e
    rw [if_neg (by omega), if_neg (by rw [h]; simp)]
  · by_cases h1 : k < j ∧ dg D a k = true
    · rw [if_pos h1, if_pos ⟨by omega, h1.2⟩]
    · rw [if_neg h1, if_neg (fun h2 => h1 ⟨by omega, h2.2⟩)]
theorem bumpT_all (D : List (List Bool)) (a s : Nat) (nx : List Nat) : bumpT D a s nx.length nx = bumpL D a s nx := getD_ext (by rw [bumpT_len, bumpL_len]) fun k hk => by
  rw [bumpT_len] at hk
  rw [bumpT_get hk, bumpL_get hk]
  by_cases h1 : dg D a k = true
  · rw [if_pos ⟨hk, h1⟩, if_pos h1]
  · rw [if_neg (fun h => h1 h.2), if_neg h1]
theorem nok_all (D : List (List Bool)) : ∀ (v : List Nat), NOk D (nrm D v) v.length := fun v => by
  suffices h : ∀ k, k ≤ v.length → NOk D (nrm D (v.take k)) k by have := h v.length (Nat.le_refl _); rwa [List.take_length] at this
  intro k
  induction k with
  | zero => exact fun _ => nok_zero D
  | succ k ih =>
    intro hk
    rw [List.take_succ_eq_append_getElem (by omega), nrm_snoc]
    exact nok_step (ih (by omega))
theorem checkM_ok {l : List Int} {D : List (List Bool)} (h : checkM l D = 0) : l.length ≤ 200 ∧ D.length ≤ 12 ∧ hangsM D = true ∧ (∀ i, i < D.length → (D.getD i []).length = D.length) ∧ ∀ x ∈ l, 0 ≤ x ∧ x < (D.length : Int) := by
  unfold checkM at h
  split at h
  · omega
  · split at h
    · omega
    · next h1 h2 =>
      split at h
      · omega
      · next h3 =>
        rw [Bool.not_eq_false] at h2
        refine ⟨by omega, by omega, h2, fun i hi => ?_, fun x hx => ?_⟩
        · unfold hangsM at h2
          simp only [Bool.and_eq_true, decide_eq_true_eq] at h2
          exact (h2.1.1 i hi).1
        · rw [Bool.not_eq_true, List.any_eq_false] at h3
          have := h3 x hx
          unfold actB at this
          simp only [Bool.or_eq_true, decide_eq_true_eq, not_or] at this
          omega
theorem nst_rows {D : List (List Bool)} {nx : List Nat} {ps : List (Sv Int)} {v : List Nat} {a s : Nat} {p' : Option Addr} {c' : Nat} (h : (nx, ps.map (·.l)) = nrm D v) (hs : s = nx.getD a 0) :
    (bumpL D a s nx, (((if s = ps.length then ps ++ [.none] else ps).set s ⟨p', c', insL a ((if s = ps.length then ps ++ [.none] else ps).getD s .none).l⟩).map (·.l) : List (List Int))) = nrm D (v ++ [a]) := by
  rw [nrm_snoc, ← h, nst, ← hs]
  dsimp only
  rw [List.length_map]
  have e : (if s = ps.length then ps.map (·.l) ++ [[]] else ps.map (·.l)) = (if s = ps.length then ps ++ [.none] else ps).map (fun x : Sv Int => x.l) := by
    split
    · rw [List.map_append]; rfl
    · rfl
  rw [e, List.map_set]
  have g : ∀ (qs : List (Sv Int)), (qs.map (·.l)).getD s [] = (qs.getD s .none).l := fun qs => by
    rw [List.getD_eq_getElem?_getD, List.getElem?_map, List.getD_eq_getElem?_getD]
    cases qs[s]? <;> rfl
  rw [g]

set_option maxRecDepth 100000 in
set_option maxHeartbeats 8000000 in
theorem normal_any {w : World} {p : Option Addr} {cap : Nat} {l : List Int} {s : Sv (Sv Bool)} (hS : SlI w p cap l) (hR : RdBB w s) :
    Calls Try.prog 11 #[.slice p l.length cap, s.val] w fun e w' => ∃ s2 : Sv (Sv Int), e = .returned (.tuple #[s2.val, .int .i64 (normM l (s.l.map (·.l))).2]) ∧ RdR w' s2 ∧ s2.l.map (·.l) = (normM l (s.l.map (·.l))).1 ∧ Below w.heap.size w w' := by
  obtain ⟨i0, hi, hz0, hz1, hz2⟩ := info_parts infoI
  obtain ⟨iS, hiS, sz0, sz1, sz2⟩ := info_parts infoS
  have hC := check_any hS hR
  unfold normM
  by_cases hck : checkM l (s.l.map (·.l)) = 0
  · rw [if_pos hck]
    rw [hck] at hC
    obtain ⟨o1, o2, o3, o4, o5⟩ := checkM_ok hck
    rw [List.length_map] at o2 o5
    have HC := Lib.hid hC
    have HS := Lib.hid hS
    have HR := Lib.hid hR
    have HO4 := Lib.hid o4
    have HO5 := Lib.hid o5
    clear hck hC hS hR o3 o4 o5
    obtain ⟨D, hD⟩ : ∃ D, D = s.l.map (·.l) := ⟨_, rfl⟩
    rw [← hD] at HO4 ⊢
    have hDl : D.length = s.l.length := by rw [hD, List.length_map]
    have HD := Lib.hid hD
    clear hD
    obtain ⟨q, c2, L⟩ := s
    dsimp only [Sv.val] at *
    go_enter Try.func11, Try.ntmps11
    go_wp2_with fail
    refine HC.out.mono ?_
    rintro _ w1 ⟨rfl, hb1⟩
    go_wp2_with (at_make; refine wpList_make_full _ rfl _ _ 22 rfl w1.heap.size 3 i0 (.int .i64 0) 1 Try.underlying22 hi hz0 hz1 .i64 .i64 _ _ L.length rfl rfl rfl rfl (by rw [hz2]; omega) (by unfold maxLen; omega) (by simp) ?_; intro w2 hown hg)
    rw [made_ints] at hown
    have hI : NoI w1.heap.size w2 w1.heap.size (List.replicate L.length 0) none 0 [] := by
      refine ⟨?_, World.ownsRow_nil _ _ _ _, fun j hj => by simp at hj, fun i j hi => by simp at hi, fun j hj => by simp at hj⟩
      rw [List.length_replicate]
      simpa [nl] using hown
    have hU : w1.heap.size < w2.heap.size := (World.ownsRow.lt hown _ rfl).2
    have hb2 := hb1.trans ((below_none hg).mono hb1.size)
    have hwU := hb1.size
    clear hown hg hb1
    generalize w1.heap.size = U at *
    go_loopw [8, 27] (fun v s27 wr => ∃ (k oC : Nat) (oP : Option Addr) (ps : List (Sv Int)) (nx : List Nat), k ≤ l.length ∧ s27 = .int .i64 k ∧ v = .slice oP ps.length oC ∧ NoI U wr U nx oP oC ps ∧ Below w.heap.size w wr ∧ U < wr.heap.size ∧ Hid ((nx, ps.map (·.l)) = nrm D ((l.take k).map Int.toNat))) (fun _ s27 _ => l.length - (intOf s27).toNat)
    case atStart => exact ⟨0, 0, none, [], List.replicate L.length 0, Nat.zero_le _, rfl, rfl, hI, hb2, hU, by show _ = _; simp [nrm, hDl]⟩
    case round =>
      clear hI hb2 hU
      obtain ⟨k, oC, oP, ps, nx, hk, rfl, rfl, hI, hbl, hU, ho⟩ := hrel
      by_cases hlt : k < l.length
      · have hN : NOk D (nx, ps.map (·.l)) k := by
          rw [ho.out]
          have := nok_all D ((l.take k).map Int.toNat)
          rwa [List.length_map, List.length_take, Nat.min_eq_left hk] at this
        have hnl : nx.length = D.length := hN.nlen
        obtain ⟨b, off, rfl⟩ := HS.out.ptr (by omega) (by omega)
        have hx := slI_cells (HS.out.below hbl) k hlt
        have hb := HS.out.row.lt (by simp; omega)
        have hbx : b < wr.heap.size := Nat.lt_of_lt_of_le hb hbl.size
        have hmem : l.getD k 0 ∈ l := by simp [hlt]
        obtain ⟨hx0, hx1⟩ := HO5.out _ hmem
        obtain ⟨x, hxx⟩ : ∃ x, x = l.getD k 0 := ⟨_, rfl⟩
        rw [← hxx] at hx hx0 hx1
        obtain ⟨a, rfl⟩ := Int.eq_ofNat_of_zero_le hx0
        have haL : a < nx.length := by omega
        have hnc := own_cell hI.nxt (i := a) haL
        rw [nl_getD] at hnc
        have hsl : nx.getD a 0 ≤ ps.length := by have := hN.le a; rwa [List.length_map] at this
        have hfew : ps.length ≤ k := by have := hN.few; rwa [List.length_map] at this
        obtain ⟨st, hst⟩ : ∃ st, st = nx.getD a 0 := ⟨_, rfl⟩
        rw [← hst] at hnc hsl
        have HN := Lib.hid hN
        have HXX := Lib.hid hxx
        have HST := Lib.hid hst
        clear hN hxx hst hx0 hmem hb
        go_upto_if 38 with fail
        go_cut [8] from 28 to 84 (fun v wc => ∃ (oP' : Option Addr) (oC' : Nat), v = .slice oP' (if st = ps.length then ps ++ [.none] else ps).length oC' ∧ NoI U wc U nx oP' oC' (if st = ps.length then ps ++ [.none] else ps) ∧ Below w.heap.size w wc ∧ U < wc.heap.size)
        case first =>
          by_cases he : st = ps.length
          · subst he
            have hal := (Below.refl wr.heap.size wr).alloc (Nat.le_refl _) (.cells #[.slice none 0 0] 22)
            have hIa := hI.below hal
            have hL := Blk.mk2 wr #[.slice none 0 0] 22
            have hbl1 := hbl.trans (hal.mono hbl.size)
            have hU1 : U < (wr.alloc (.cells #[.slice none 0 0] 22)).heap.size := Nat.lt_of_lt_of_le hU hal.size
            clear hI hbl hU hal
            go_wp2_with (refine wpList_append_sep (wr.alloc (.cells #[.slice none 0 0] 22)) rfl _ _ 33 rfl U 22 iS (.slice none 0 0) 1 24 Try.underlying33 hiS sz0 sz1 sz2 rfl (by decide) (.slice oP ps.length oC) ps.length (ps.map Sv.val) rfl hIa.row ⟨wr.heap.size, 0, none⟩ 1 1 [.slice none 0 0] rfl rfl (fun j u hj => by rw [add_lit', Nat.zero_add, hL.cell]; simpa using hj) (by intro u hu; obtain rfl := List.mem_singleton.1 hu; rfl) (by omega) (by decide) (by omega) ?_; intro p6 c6 w6 hown hg hsep)
            have hI6 := hIa.more hown hg
            have hbl6 : Below w.heap.size w w6 := hbl1.grown hg (by have := hbl1.size; omega) (fun g hgg => by
              have := (hIa.row.lt g hgg).1
              omega)
            have hU6 : U < w6.heap.size := Nat.lt_of_lt_of_le hU1 hg.size
            clear hown hg hsep hIa hL hbl1 hU1
            go_wp2_with fail
            go_meet
            case rel => rw [if_pos trivial]; exact ⟨p6, c6, by rw [List.length_append]; rfl, hI6, hbl6, hU6⟩
          · have hez : ¬ (st : Int) = (ps.length : Int) := by omega
            go_wp2_with fail
            go_meet
            case rel => rw [if_neg he]; exact ⟨oP, oC, rfl, hI, hbl, hU⟩
        case rest =>
          obtain ⟨oP2, oC2, rfl, hI2, hbl2, hU2⟩ := hcut
          clear hI hbl hU hx hbx hnc
          have hsl2 : st < (if st = ps.length then ps ++ [.none] else ps).length := by
            split
            · rw [List.length_append, List.length_singleton]; omega
            · omega
          have hfew2 : (if st = ps.length then ps ++ [.none] else ps).length ≤ k + 1 := by
            split
            · rw [List.length_append, List.length_singleton]; omega
            · omega
          have hsrt : ((if st = ps.length then ps ++ [.none] else ps).getD st .none).l.Pairwise (· ≤ ·) ∧ ((if st = ps.length then ps ++ [.none] else ps).getD st .none).l.length ≤ k := by
            have h := row_srt HN.out st
            have e : (ps.map (·.l)).getD st [] = ((if st = ps.length then ps ++ [.none] else ps).getD st .none).l := by
              rw [List.getD_eq_getElem?_getD, List.getElem?_map]
              split
              · next e => rw [svget_app, if_neg (by omega), if_pos e, List.getElem?_eq_none (by omega)]; rfl
              · rw [List.getD_eq_getElem?_getD, List.getElem?_eq_getElem (by omega)]; rfl
            rw [← e]
            exact h
          have hnst := fun p' c' => nst_rows (s := st) (a := a) (p' := p') (c' := c') ho.out HST.out
          generalize (if st = ps.length then ps ++ [.none] else ps) = P2 at *
          obtain ⟨OB, hOB, hOBl⟩ := hI2.ptr (by omega)
          have hcell := hI2.cell hsl2 hOB
          have hfz := fun s => hI2.frozen (s := s) hOB (by omega)
          have hrow := Sl.of_own (hI2.each st hsl2)
          obtain ⟨row, hrw⟩ : ∃ r, r = P2.getD st .none := ⟨_, rfl⟩
          rw [← hrw] at hcell hsrt hrow hnst
          rw [Nat.zero_add] at hcell
          obtain ⟨pp, pc, pl⟩ := row
          have HRW := Lib.hid hrw
          have HNS := Lib.hid hnst
          dsimp only [Sv.val] at hcell hrow hsrt
          have hsea := search_any hrow (by have := hsrt.2; omega) hsrt.1 (a : Int)
          have hpk := hsrt.2
          have HSRT := Lib.hid hsrt.1
          have HSEA := Lib.hid hsea
          subst hOB
          clear hsea hrow hsrt hrw hnst ho
          go_wp2_with fail
          refine HSEA.out.mono ?_
          rintro _ w3 ⟨rfl, hb3⟩
          have hI3 := hI2.below hb3
          have hcell3 : w3.cell? ⟨OB, st, none⟩ = some (.slice pp pl.length pc) := (hb3.cell (p := ⟨OB, st, none⟩) hOBl).trans hcell
          have hbl3 := hbl2.trans (hb3.mono hbl2.size)
          have hU3 := Nat.lt_of_lt_of_le hU2 hb3.size
          have hOB3 := Nat.lt_of_lt_of_le hOBl hb3.size
          have hixl : pl.countP (fun x => decide (x < (a : Int))) ≤ pl.length := List.countP_le_length
          have hia := insL_at (a := (a : Int)) HSRT.out
          generalize pl.countP (fun x => decide (x < (a : Int))) = ix at *
          have HIA := Lib.hid hia
          clear hia hI2 hcell hfz hbl2 hU2 hOBl hb3
          have hal := (Below.refl w3.heap.size w3).alloc (Nat.le_refl _) (.cells #[.int .i64 (a : Int)] 3)
          have hI4 := hI3.below hal
          have hL := Blk.mk2 w3 #[.int .i64 (a : Int)] 3
          have hU4 : U < (w3.alloc (.cells #[.int .i64 (a : Int)] 3)).heap.size := Nat.lt_of_lt_of_le hU3 hal.size
          have hbl4 := hbl3.trans (hal.mono hbl3.size)
          have hcell4 := (hal.cell (p := ⟨OB, st, none⟩) hOB3).trans hcell3
          have hne4 : (P2.getD st .none).val.ownBlock ≠ some w3.heap.size := fun e => by
            have := ((hI3.each st hsl2).lt _ e).2
            omega
          have hins := insert_any (i := ix) (x := (a : Int)) (vb := w3.heap.size) (hI4.each st hsl2) (Nat.le_of_lt hU4) (by rw [← HRW.out]; exact hixl) (by rw [← HRW.out]; dsimp only; omega) hL hne4
          rw [← HRW.out] at hins
          dsimp only [Sv.val] at hins
          have HINS := Lib.hid hins
          clear hins hI3 hL hU3 hbl3 hal
          go_wp2_with fail
          refine HINS.out.mono ?_
          rintro _ w5 ⟨p5, c5, rfl, hown5, hg5, hn5⟩
          rw [← HIA.out] at hown5
          have hv : (P2.getD st .none).val = .slice pp pl.length pc := (congrArg Sv.val HRW.out).symm
          have hI6 := hI4.ins hsl2 rfl (insL_len (a : Int) pl) hown5 (by rw [hv]; exact hg5) (by rw [hv]; exact hn5)
          have hg5' : (w3.alloc (.cells #[.int .i64 (a : Int)] 3)).grownBy w5 (P2.getD st .none).val.ownBlock := by rw [hv]; exact hg5
          have r5 := hI4.row.kept hg5' (types_apart hI4.row (hI4.each st hsl2) (by decide))
          have hOBU : U ≤ OB := (hI4.row.lt OB rfl).1
          have hbl6 : Below w.heap.size w (w5.setCell ⟨OB, st, none⟩ (.slice p5 (pl.length + 1) c5)) := by
            refine (hbl4.grown hg5' hbl4.size fun g hgg => ?_).grown (grown_set w5 OB st _) ?_ fun g hgg => ?_
            · have := ((hI4.each st hsl2).lt g hgg).1
              omega
            · exact Nat.le_trans hbl4.size hg5.size
            · cases hgg; omega
          have hU6 : U < (w5.setCell ⟨OB, st, none⟩ (.slice p5 (pl.length + 1) c5)).heap.size := by
            have h1 := hg5.size
            have h2 := (grown_set w5 OB st (.slice p5 (pl.length + 1) c5)).size
            omega
          have hcell5 : w5.cell? ⟨OB, st, none⟩ = some (.slice pp pl.length pc) := by
            have := (Sl.of_own r5).row.at_ (i := st) (v := .slice pp pl.length pc) (by rw [List.getElem?_map, List.getElem?_eq_getElem hsl2, ← hv, List.getD_eq_getElem?_getD, List.getElem?_eq_getElem hsl2]; rfl)
            rwa [Nat.zero_add] at this
          have hfz5 : w5.frozen? ⟨OB, st, none⟩ = false := r5.frozenAt st
          have hNS := HNS.out p5 c5
          clear hv hg5' r5 hown5 hg5 hn5 hI4 hbl4 hU4 hcell4 hOB3 hne4 hcell3
          go_upto_region 14 with fail
          generalize w5.setCell ⟨OB, st, none⟩ (.slice p5 (pl.length + 1) c5) = w6 at *
          clear hcell5 hfz5 HINS HSEA HSRT HIA HC
          have hP3 : (P2.set st ⟨p5, c5, insL (a : Int) pl⟩).length = P2.length := List.length_set
          generalize P2.set st ⟨p5, c5, insL (a : Int) pl⟩ = P3 at *
          have hnxl : nx.length = L.length := by omega
          have haL2 : a < L.length := by omega
          have HRD := fun W h => (RdBB.st _ _ _ HR.out h : RdBB W _).at_ (i := a) haL2
          obtain ⟨b6, off6, hp6, hb6, hc6, hrd6⟩ := HRD w6 hbl6
          have hrb := fun W (h : Below w.heap.size w W) => ((RdBB.st _ _ _ HR.out h : RdBB W _).at_ (i := a) haL2).choose_spec.choose_spec.2.2.2
          clear HRD hrd6
          dsimp only at hp6 hc6 hrb
          subst hp6
          have hdg : ∀ j, dg D a j = (L.getD a default).l.getD j false := fun j => by
            unfold dg
            rw [HD.out, map_getD]
          have hrl : (L.getD a default).l.length = L.length := by
            have := HO4.out a (by omega)
            rw [HD.out, map_getD] at this
            rw [this, List.length_map]
          generalize L.getD a default = row6 at *
          obtain ⟨rp, rc, rl⟩ := row6
          dsimp only [Sv.val] at hc6 hdg hrl
          have HRB := Lib.hid hrb
          have HDG := Lib.hid hdg
          clear hrb hdg
          go_wp2_with fail
          go_loopw [67] (fun s67 wr2 => ∃ (j : Nat) (nx2 : List Nat), j ≤ L.length ∧ s67 = .int .i64 j ∧ NoI U wr2 U nx2 (some ⟨OB, 0, none⟩) oC2 P3 ∧ Below w.heap.size w wr2 ∧ U < wr2.heap.size ∧ Hid (nx2 = bumpT D a st j nx)) (fun s67 _ => L.length - (intOf s67).toNat)
          case atStart => exact ⟨0, nx, Nat.zero_le _, rfl, hI6, hbl6, hU6, (bumpT_zero _ _ _ _).symm⟩
          case round =>
            clear hI6 hbl6 hU6 hc6 hb6
            obtain ⟨j, nx2, hj, rfl, hI7, hbl7, hU7, hnx⟩ := hrel
            have hnl2 : nx2.length = L.length := by rw [hnx.out, bumpT_len]; exact hnxl
            by_cases hlj : j < L.length
            · obtain ⟨b7, off7, hp7, hb7, hc7⟩ := (HRB.out wr hbl7).at_ (i := j) (by dsimp only; omega)
              dsimp only at hp7 hc7
              subst hp7
              have hnc7 := own_cell hI7.nxt (i := j) (by omega)
              have hnf7 : wr.frozen? ⟨U, j, none⟩ = false := hI7.nxt.frozenAt j
              rw [nl_getD] at hnc7
              have hst200 : st ≤ 200 := by omega
              have hput := hI7.put j (max (nx2.getD j 0) (st + 1))
              have hblp := fun v => hbl7.grown (grown_set wr U j v) hbl7.size fun g e => by cases e; exact hwU
              have hUp := fun v => Nat.lt_of_lt_of_le hU7 (grown_set wr U j v).size
              have hdj := HDG.out j
              cases hv : rl.getD j false with
              | true =>
                rw [hv] at hc7 hdj
                have hb := bumpT_yes (s := st) (nx := nx) hdj
                rw [← hnx.out] at hb
                generalize nx2.getD j 0 = m at *
                have HB := Lib.hid hb
                have hmx : ((max m (st + 1) : Nat) : Int) = max (m : Int) ((st : Int) + 1) := by omega
                rw [hmx] at hput
                clear hb hdj hnx hv hmx
                go_wp2_with fail
                go_roundw
                case rel => exact ⟨j + 1, nx2.set j (max m (st + 1)), by omega, by go_num, hput, hblp _, hUp _, HB.out⟩
                case measure => simp [intOf]; omega
              | false =>
                rw [hv] at hc7 hdj
                have hb := bumpT_no (s := st) (nx := nx) hdj
                rw [← hnx.out] at hb
                have HB := Lib.hid hb
                clear hb hdj hnx hv hput hblp hUp
                go_wp2_with fail
                go_roundw
                case rel => exact ⟨j + 1, nx2, by omega, by go_num, hI7, hbl7, hU7, HB.out⟩
                case measure => simp [intOf]; omega
            · obtain rfl : j = L.length := by omega
              have hfin : (nx2, P3.map (·.l)) = nrm D ((l.take (k + 1)).map Int.toNat) := by
                rw [hnx.out, ← hnxl, bumpT_all, hNS, List.take_succ_eq_append_getElem hlt, List.map_append]
                congr 2
                rw [List.map_cons, List.map_nil]
                congr 1
                have := HXX.out
                rw [List.getD_eq_getElem?_getD, List.getElem?_eq_getElem hlt] at this
                change (a : Int) = l[k] at this
                rw [← this, Int.toNat_natCast]
              have HF := Lib.hid hfin
              clear hfin hnx hNS HNS HN HST HXX
              go_wp2_with fail
              go_roundw
              case rel => exact ⟨k + 1, oC2, some ⟨OB, 0, none⟩, P3, nx2, by omega, by go_num, by rw [hP3], hI7, hbl7, hU7, HF.out⟩
              case measure => simp [intOf]; omega
      · obtain rfl : k = l.length := by omega
        have HO := ho
        clear ho
        go_wp2_with fail
        go_ret2
        have h := HO.out
        rw [List.take_length] at h
        refine ⟨⟨oP, oC, ps⟩, rfl, hI.rd, ?_, hbl⟩
        exact congrArg Prod.snd h
  · rw [if_neg hck]
    have hz : ¬ (checkM l (s.l.map (·.l))) = (0 : Int) := hck
    generalize checkM l (s.l.map (·.l)) = e at *
    have HC := Lib.hid hC
    clear hck hC hS hR
    obtain ⟨q, c2, L⟩ := s
    dsimp only [Sv.val] at *
    go_enter Try.func11, Try.ntmps11
    go_wp2_with fail
    refine HC.out.mono ?_
    rintro _ w1 ⟨rfl, hb1⟩
    go_wp2_with fail
    go_ret2
    exact ⟨.none, rfl, Rd.zero _, rfl, hb1⟩
end Go.Proofs.Ytbnmpagjfihjjaa
