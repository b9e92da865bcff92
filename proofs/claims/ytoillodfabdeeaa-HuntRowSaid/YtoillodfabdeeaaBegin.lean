/-
  begin: a hunter is made.
-/
import Derived.Test.YtoillodfabdeeaaHold
namespace Go.Proofs.Ytoillodfabdeeaa
open Go.RowKit Go.Sort

/-- What line i hangs on, rising. -/
def Bk (ps : List Pt) (i : Nat) : List Int := listedL ps.length [backL ps i]
theorem Bk_len (ps : List Pt) (i : Nat) : (Bk ps i).length ≤ ps.length := by
  unfold Bk listedL
  rw [List.length_map]
  exact Nat.le_trans (List.length_filter_le _ _) (by simp)
def IsBk (ps hs : List Pt) : Prop := hs.length = ps.length ∧ ∀ i, i < ps.length → (hs.getD i .none).l = Bk ps i
def errB (ps : List Pt) (bad : Int) (good : List Int) : Int := if checkM ps [bad] = 0 then (if good.any (placeBad ps.length) then 1 else 0) else checkM ps [bad]
theorem checkM_one {ps : List Pt} {bad : Int} (h : checkM ps [bad] = 0) {k : Nat} (hk : k < ps.length) : checkM ps [(k : Int)] = 0 := by
  unfold checkM at h ⊢
  split at h
  · omega
  · next h1 =>
    split at h
    · omega
    · next h2 =>
      rw [if_neg h1, if_neg h2, if_neg]
      unfold placeBad
      simp; omega
theorem infoS : (Try.prog.info? 23).map (fun i => (i.zero, i.size, i.bytes)) = some (some (.slice none 0 0), 1, 24) := by kernel_rfl
theorem own_apart {w : World} {b1 b2 s1 s2 n1 n2 : Nat} {e1 e2 : TypeId} {v1 v2 : Value} {xs1 xs2 : List Value} (h1 : w.ownsRow b1 e1 s1 v1 n1 xs1) (h2 : w.ownsRow b2 e2 s2 v2 n2 xs2) (hne : e1 ≠ e2) : v1.ownBlock = none ∨ v1.ownBlock ≠ v2.ownBlock := by
  rcases h1.2 with ⟨rfl, _⟩ | ⟨g, cap, cur, rfl, hb, hg, -⟩
  · exact .inl rfl
  · refine .inr fun e => ?_
    rcases h2.2 with ⟨rfl, _⟩ | ⟨g', cap', cur', rfl, hb', hg', -⟩
    · cases e
    · have e' : g = g' := by
        have : some g = some g' := e
        simpa using this
      subst e'
      rw [hg] at hg'
      cases hg'
      exact hne rfl

/-- The hunter's row while it grows. -/
structure GrowI (ps : List Pt) (w wr : World) (hp k : Nat) (qs : List Pt) (p : Option Addr) (c : Nat) : Prop where
  len : qs.length = k
  blk : Blk wr hp #[.slice p k c] 60
  row : wr.ownsRow (hp + 1) 23 1 (.slice p k c) k (pts qs)
  each : ∀ i, i < k → OwnI wr (hp + 1) (qs.getD i .none).p (qs.getD i .none).cap (qs.getD i .none).l
  done : ∀ i, i < k → (qs.getD i .none).l = Bk ps i
  ge : w.heap.size ≤ hp
  bel : Below w.heap.size w wr
theorem GrowI.below {ps : List Pt} {w wr w' : World} {hp k : Nat} {qs : List Pt} {p : Option Addr} {c : Nat} (h : GrowI ps w wr hp k qs p c) (hb : Below wr.heap.size wr w') : GrowI ps w w' hp k qs p c :=
  ⟨h.len, h.blk.next hb, own_below h.row hb, fun i hi => own_below (h.each i hi) hb, h.done, h.ge, h.bel.trans (hb.mono h.bel.size)⟩
theorem GrowI.hold {ps : List Pt} {w wr : World} {hp : Nat} {qs : List Pt} {p : Option Addr} {c : Nat} (h : GrowI ps w wr hp ps.length qs p c) (h200 : ps.length ≤ 200) : Hold wr hp qs ∧ IsBk ps qs := by
  have hl := h.len
  refine ⟨⟨⟨p, c, ?_, ?_, ?_⟩, fun i hi => ?_⟩, hl, h.done⟩
  · rw [hl]; exact h.blk
  · rw [hl]; exact Sl.of_own h.row
  · intro i hi; exact Sl.of_own (h.each i (by omega))
  · rw [h.done i (by omega)]; exact Nat.le_trans (Bk_len ps i) h200
theorem GrowI.after {ps : List Pt} {w wr w3 : World} {hp k : Nat} {qs : List Pt} {p : Option Addr} {c : Nat} (h : GrowI ps w wr hp k qs p c) (hg : wr.grownBy w3 (Value.slice p k c).ownBlock) : Blk w3 hp #[.slice p k c] 60 :=
  (hg.block hp h.blk.lt (fun e => by have := (h.row.lt hp e.symm).1; omega)).trans h.blk
/-- One more. -/
theorem GrowI.snoc {ps : List Pt} {w wr w3 : World} {hp k : Nat} {qs : List Pt} {p p' : Option Addr} {c c' : Nat} {x : Pt} (h : GrowI ps w wr hp k qs p c) (hx : OwnI wr (hp + 1) x.p x.cap x.l) (hxl : x.l = Bk ps k) (hrow : w3.ownsRow (hp + 1) 23 1 (.slice p' (k + 1) c') (k + 1) (pts qs ++ [x.val])) (hg : wr.grownBy w3 (Value.slice p k c).ownBlock) :
    GrowI ps w (w3.setCell ⟨hp, 0, none⟩ (.slice p' (k + 1) c')) hp (k + 1) (qs ++ [x]) p' c' := by
  have hhp : (Value.slice p k c).ownBlock ≠ some hp := fun e => by
    have := (h.row.lt hp e).1; omega
  have hz : hp < wr.heap.size := h.blk.lt
  refine ⟨by simp [h.len], ?_, ?_, fun i hi => ?_, fun i hi => ?_, h.ge, ?_⟩
  · have hb3 : Blk w3 hp #[.slice p k c] 60 := (hg.block hp hz (fun e => hhp e.symm)).trans h.blk
    exact hb3.set 0 _
  · have := ownsRow_setCell_below hrow (a := ⟨hp, 0, none⟩) (by show hp < hp + 1; omega) (.slice p' (k + 1) c')
    rwa [show pts qs ++ [x.val] = pts (qs ++ [x]) from by simp [pts]] at this
  · have hof : ∀ y : Pt, OwnI wr (hp + 1) y.p y.cap y.l → OwnI (w3.setCell ⟨hp, 0, none⟩ (.slice p' (k + 1) c')) (hp + 1) y.p y.cap y.l := fun y hy =>
      ownsRow_setCell_below (hy.kept hg (own_apart hy h.row (by decide))) (a := ⟨hp, 0, none⟩) (by show hp < hp + 1; omega) _
    rcases Nat.lt_or_ge i k with h1 | h1
    · rw [show (qs ++ [x]).getD i .none = qs.getD i .none from by rw [List.getD_eq_getElem?_getD, List.getElem?_append_left (by rw [h.len]; exact h1), ← List.getD_eq_getElem?_getD]]
      exact hof _ (h.each i h1)
    · rw [show (qs ++ [x]).getD i .none = x from by
        rw [List.getD_eq_getElem?_getD, List.getElem?_append_right (by rw [h.len]; exact h1), h.len, show i - k = 0 from by omega]; rfl]
      exact hof _ hx
  · rcases Nat.lt_or_ge i k with h1 | h1
    · rw [show (qs ++ [x]).getD i .none = qs.getD i .none from by rw [List.getD_eq_getElem?_getD, List.getElem?_append_left (by rw [h.len]; exact h1), ← List.getD_eq_getElem?_getD]]
      exact h.done i h1
    · rw [show (qs ++ [x]).getD i .none = x from by
        rw [List.getD_eq_getElem?_getD, List.getElem?_append_right (by rw [h.len]; exact h1), h.len, show i - k = 0 from by omega]; rfl]
      rw [hxl, show i = k from by omega]
  · have h1 : Below w.heap.size w w3 := h.bel.grown hg h.bel.size (fun r e => Nat.le_trans h.ge (by have := (h.row.lt r e).1; omega))
    exact h1.setCell (p := ⟨hp, 0, none⟩) h.ge _

set_option maxRecDepth 100000 in
set_option maxHeartbeats 4000000 in
theorem begin_any {w : World} {p q : Option Addr} {cap cap2 : Nat} {ps : List Pt} {good : List Int} (hR : Deps w p cap ps) (hG : SlI w q cap2 good) (bad : Int) :
    Calls Try.prog 24 #[.slice p ps.length cap, .int .i64 bad, .slice q good.length cap2] w fun e w' =>
      ((errB ps bad good = 0 ∧ ∃ hp hs, e = .returned (.tuple #[.pointer (some ⟨hp, 0, none⟩), .int .i64 0]) ∧ Hold w' hp hs ∧ IsBk ps hs) ∨ (errB ps bad good ≠ 0 ∧ e = .returned (.tuple #[.pointer none, .int .i64 (errB ps bad good)]))) ∧ Below w.heap.size w w' := by
  by_cases hc : checkM ps [bad] = 0
  · have hx : backM ps bad = (listedL ps.length [backL ps bad.toNat], 0) := by unfold backM; rw [if_pos hc]
    have hE : errB ps bad good = if good.any (placeBad ps.length) then 1 else 0 := by unfold errB; rw [if_pos hc]
    have h200 := (checkM_zero hc).1.1
    have hm2 : good.length ≤ 9223372036854775807 := Nat.le_trans hG.le hG.big
    have hBack := Back_any hR bad
    rw [hx] at hBack
    have HB := Lib.hid hBack; have Hc := Lib.hid hc; have HE := Lib.hid hE; clear hBack hc hx hE
    obtain ⟨iS, hiS, sz0, sz1, sz2⟩ := info_parts infoS
    go_enter Try.func24, Try.ntmps24
    go_wp2_with fail
    refine HB.out.mono ?_
    rintro _ w1 ⟨p1, c1, rfl, -, hb1⟩
    go_wp2_with fail
    have hI0 : GrowI ps w (w1.alloc (.cells #[.slice none 0 0] 60)) w1.heap.size 0 [] none 0 := ⟨rfl, Blk.mk_ w1 _ _ rfl, World.ownsRow_nil _ _ _ _, fun i hi => by omega, fun i hi => by omega, hb1.size, hb1.alloc hb1.size _⟩
    generalize w1.heap.size = hp at *
    generalize w1.alloc (.cells #[.slice none 0 0] 60) = w2 at *
    have hm1 : ps.length ≤ 9223372036854775807 := by omega
    go_loopw [29] (fun s wr => ∃ (k : Nat) (qs : List Pt) (pq : Option Addr) (cq : Nat), k ≤ ps.length ∧ s = .int .i64 k ∧ GrowI ps w wr hp k qs pq cq) (fun s _ => ps.length - (intOf s).toNat)
    case atStart => exact ⟨0, [], none, 0, Nat.zero_le _, rfl, hI0⟩
    case round =>
      clear hI0
      obtain ⟨k, qs, pq, cq, hk, rfl, hI⟩ := hrel
      by_cases hlt : k < ps.length
      · have hck := checkM_one Hc.out hlt
        have hxk : backM ps (k : Int) = (Bk ps k, 0) := by unfold backM; rw [if_pos hck, Int.toNat_natCast]; rfl
        have hBack := Back_any (hR.below hI.bel) (k : Int)
        rw [hxk] at hBack
        have HBk := Lib.hid hBack; clear hBack hxk hck
        have hlen := Bk_len ps k
        obtain ⟨bl, hbl⟩ : ∃ l, Bk ps k = l := ⟨_, rfl⟩
        rw [hbl] at HBk hlen
        have Hbl := Lib.hid hbl; clear hbl
        go_wp2_with fail
        refine HBk.out.mono ?_
        rintro _ w3 ⟨p3, c3, rfl, hown3, hb3⟩
        have hI3 := hI.below hb3
        have hx3 : OwnI w3 (hp + 1) p3 c3 bl := own_mono hown3 hI.blk.lt
        clear hI hown3 hb3
        have hal := (Below.refl w3.heap.size w3).alloc (Nat.le_refl _) (.cells #[.slice p3 bl.length c3] 23)
        have hc3 : w3.cell? ⟨hp, 0, none⟩ = some (.slice pq k cq) := hI3.blk.cell 0
        have hI4 := hI3.below hal
        have hx4 : OwnI (w3.alloc (.cells #[.slice p3 bl.length c3] 23)) (hp + 1) p3 c3 bl := own_below hx3 hal
        have hnew := new_cell w3 #[.slice p3 bl.length c3] 23 (0, 0) 0
        have hnews : ∀ (j : Nat) (u : Value), [Value.slice p3 bl.length c3][j]? = some u → (w3.alloc (.cells #[.slice p3 bl.length c3] 23)).cell? ((⟨w3.heap.size, 0, none⟩ : Addr).add j) = some u := by
          intro j u hj
          cases j with
          | zero => simp at hj; subst hj; exact hnew
          | succ j => simp at hj
        have hrow4 := hI4.row
        have hb4 : hp + 1 ≤ (w3.alloc (.cells #[.slice p3 bl.length c3] 23)).heap.size := by have := hI4.blk.lt; omega
        have hsn := fun p' c' w5 h1 h2 => GrowI.snoc (w3 := w5) (p' := p') (c' := c') (x := ⟨p3, c3, bl⟩) hI4 hx4 Hbl.out.symm h1 h2
        have haf := fun (w5 : World) hg => GrowI.after (w3 := w5) hI4 hg
        have HS := Lib.hid hsn; have HA := Lib.hid haf
        clear hsn haf hI3 hI4 hx4 hx3 hnew hal
        go_wp2_with (at_builtin; refine wpList_append_own _ rfl _ _ 58 rfl (hp + 1) 23 iS (.slice none 0 0) 1 24 Try.underlying58 hiS sz0 sz1 sz2 rfl (by decide) _ k _ rfl hrow4 ⟨w3.heap.size, 0, none⟩ 1 1 [Value.slice p3 bl.length c3] rfl rfl hnews (by simp [Value.oneCell']) (by unfold maxLen; omega) (by omega) hb4 ?_; intro v5 w5 hrow5 hg5 hv5; obtain ⟨p5, c5, rfl, hle5, hbig5⟩ := own_slice hrow5; have hB5 := HA.out w5 hg5; have hc5 := hB5.cell 0; have hf5 := hB5.frozen 0; change w5.cell? ⟨hp, 0, none⟩ = some (.slice pq k cq) at hc5)
        go_roundw
        case rel => exact ⟨k + 1, qs ++ [⟨p3, c3, bl⟩], p5, c5, by omega, by go_num, HS.out p5 c5 w5 hrow5 hg5⟩
        case measure => simp [intOf]; omega
      · obtain rfl : k = ps.length := by omega
        obtain ⟨hHold, hIs⟩ := hI.hold h200
        have hbel := hI.bel
        clear hI
        have HH := Lib.hid hHold; have HI := Lib.hid hIs; clear hHold hIs
        go_wp2_with fail
        go_loop [51] (fun s => ∃ k : Nat, k ≤ good.length ∧ s = .int .i64 k ∧ Hid (∀ j, j < k → placeBad ps.length (good.getD j 0) = false)) (fun s => good.length - (intOf s).toNat)
        case atStart => exact ⟨0, Nat.zero_le _, rfl, fun j h => by omega⟩
        case round =>
          obtain ⟨k, hk, rfl, hno⟩ := hrel
          by_cases hlt : k < good.length
          · obtain ⟨b, off, rfl, hb, hc⟩ := Sl.int_at hG hlt
            have hc' := (hbel.cell (p := ⟨b, off + k, none⟩) hb).trans hc
            have hbad : placeBad ps.length (good.getD k 0) = true → errB ps bad good = 1 := fun h => by
              rw [HE.out, if_pos (any_of_one hlt h)]
            have hok : placeBad ps.length (good.getD k 0) = false → Hid (∀ j, j < k + 1 → placeBad ps.length (good.getD j 0) = false) := fun h j hj => by
              rcases Nat.lt_or_ge j k with h3 | h3
              · exact hno.out j h3
              · rw [show j = k from by omega]; exact h
            have HBd := Lib.hid hbad; have HO := Lib.hid hok; clear hbad hok hno hc
            unfold placeBad at HBd HO
            generalize good.getD k 0 = x at *
            by_cases h0 : x < 0
            · have h := HBd.out (by simp [h0])
              have H := Lib.hid h; clear h
              go_wp2_with fail
              go_ret2
              have h := H.out
              exact ⟨.inr ⟨by omega, by rw [h]; rfl⟩, hbel⟩
            · by_cases h1 : (ps.length : Int) ≤ x
              · have h := HBd.out (by simp [h1])
                have H := Lib.hid h; clear h
                have h1' : ¬ x < (ps.length : Int) := by omega
                go_wp2_with fail
                go_ret2
                have h := H.out
                exact ⟨.inr ⟨by omega, by rw [h]; rfl⟩, hbel⟩
              · have h := HO.out (by simp [h0, h1])
                have h1' : x < (ps.length : Int) := by omega
                go_wp2_with fail
                go_round
                case rel => exact ⟨k + 1, by omega, by go_num, h⟩
                case measure => simp [intOf]; omega
          · obtain rfl : k = good.length := by omega
            have hr : errB ps bad good = 0 := by
              rw [HE.out, if_neg]
              rw [Bool.not_eq_true]
              exact any_of_all (z := 0) hno.out
            have Hr := Lib.hid hr; clear hr hno
            go_wp2_with fail
            go_ret2
            exact ⟨.inl ⟨Hr.out, hp, rfl, qs, HH.out, HI.out⟩, hbel⟩
  · have hx : backM ps bad = ([], checkM ps [bad]) := by unfold backM; rw [if_neg hc]
    have hE : errB ps bad good = checkM ps [bad] := by unfold errB; rw [if_neg hc]
    have hc' : (checkM ps [bad] != 0) = true := by simpa using hc
    have hBack := Back_any hR bad
    rw [hx] at hBack
    rw [hE]
    have HB := Lib.hid hBack; have Hc := Lib.hid hc; clear hBack hE hx hc
    generalize checkM ps [bad] = er at *
    go_enter Try.func24, Try.ntmps24
    go_wp2_with fail
    refine HB.out.mono ?_
    rintro _ w1 ⟨p1, c1, rfl, -, hb1⟩
    go_wp2_with fail
    go_ret2
    exact ⟨.inr ⟨Hc.out, rfl⟩, hb1⟩
end Go.Proofs.Ytoillodfabdeeaa
