/-
  root: a place for a version.
-/
import Derived.Test.YtcnppcddpcpeoaaFresh
import Derived.Test.YtcnppcddpcpeoaaLibP
namespace Go.Proofs.Ytcnppcddpcpeoaa
open Go.RowKit

def RootPost (W : World) (OB B : Nat) (x : Ds) (s : Sv Int) (e : Ending) (W' : World) : Prop :=
  ∃ R' : Sv (Sv Int), e = .returned (.int .i64 (x.roots.l.findIdx fun r => decide (r.l.length = 0) : Nat)) ∧
    R'.l = (if x.roots.l.findIdx (fun r => decide (r.l.length = 0)) < x.roots.l.length then x.roots.l.set (x.roots.l.findIdx fun r => decide (r.l.length = 0)) s else x.roots.l ++ [s]) ∧
    Blk W' OB #[x.pages.val, x.uses.val, R'.val] 26 ∧ Ow W' B ⟨x.pages, x.uses, R'⟩ ∧ KeepL W W' [some OB, x.roots.val.ownBlock]

theorem Ow.pushRoot {w w3 : World} {B : Nat} {P : Sv Pg} {U : Sv Int} {pr p2 : Option Addr} {cr c2 : Nat} {rs : List (Sv Int)} (h : Ow w B ⟨P, U, ⟨pr, cr, rs⟩⟩) (hg : w.grownBy w3 (Value.slice pr rs.length cr).ownBlock)
    (hown : w3.ownsRow B 23 1 (.slice p2 (rs.length + 1) c2) (rs.length + 1) (rwCells rs ++ [.slice none 0 0])) : Ow w3 B ⟨P, U, ⟨p2, c2, rs ++ [Sv.none]⟩⟩ := by
  have hrt := h.rt
  refine ⟨h.pg.kept hg (own_apart h.pg hrt (by decide)), h.us.kept hg (own_apart h.us hrt (by decide)), ?_, fun t ht => ?_⟩
  · show World.ownsRow _ _ _ _ (.slice _ (rs ++ [Sv.none]).length _) (rs ++ [Sv.none]).length (rwCells (rs ++ [Sv.none]))
    rw [List.length_append, show rwCells (rs ++ [Sv.none]) = rwCells rs ++ [.slice none 0 0] from by simp [rwCells, rowCells]]
    exact hown
  · have ht : t ∈ rs ++ [Sv.none] := ht
    rcases List.mem_append.1 ht with ht | ht
    · exact ⟨(h.each t ht).1.kept hg (own_apart (h.each t ht).1 hrt (by decide)), (h.each t ht).2⟩
    · obtain rfl := List.mem_singleton.1 ht
      exact ⟨World.ownsRow_nil _ _ _ _, .inl rfl⟩
theorem root_prep {w w3 : World} {OB B : Nat} {P : Sv Pg} {U : Sv Int} {pr p2 : Option Addr} {cr c2 : Nat} {rs : List (Sv Int)} (h : Ow w B ⟨P, U, ⟨pr, cr, rs⟩⟩) (hB : Blk w OB #[P.val, U.val, .slice pr rs.length cr] 26) (hg : w.grownBy w3 (Value.slice pr rs.length cr).ownBlock)
    (hown : w3.ownsRow B 23 1 (.slice p2 (rs.length + 1) c2) (rs.length + 1) (rwCells rs ++ [.slice none 0 0])) :
    ∃ g2, p2 = some ⟨g2, 0, none⟩ ∧ Blk w3 OB #[P.val, U.val, .slice pr rs.length cr] 26 ∧ Ow (w3.setCell ⟨OB, 2, none⟩ (.slice (some ⟨g2, 0, none⟩) (rs.length + 1) c2)) B ⟨P, U, ⟨some ⟨g2, 0, none⟩, c2, rs ++ [Sv.none]⟩⟩ ∧
      (w3.setCell ⟨OB, 2, none⟩ (.slice (some ⟨g2, 0, none⟩) (rs.length + 1) c2)).cell? ⟨g2, rs.length, none⟩ = some (.slice none 0 0) ∧ (w3.setCell ⟨OB, 2, none⟩ (.slice (some ⟨g2, 0, none⟩) (rs.length + 1) c2)).frozen? ⟨g2, rs.length, none⟩ = false ∧
      (w3.setCell ⟨OB, 2, none⟩ (.slice (some ⟨g2, 0, none⟩) (rs.length + 1) c2)).cell? ⟨OB, 2, none⟩ = some (.slice (some ⟨g2, 0, none⟩) (rs.length + 1) c2) ∧ w3.cell? ⟨OB, 2, none⟩ = some (.slice pr rs.length cr) ∧ w3.frozen? ⟨OB, 2, none⟩ = false := by
  obtain ⟨g2, rfl⟩ := own_ptr hown (by omega)
  have hrt : w.ownsRow B 23 1 (.slice pr rs.length cr) rs.length (rwCells rs) := h.rt
  have hB3 := hB.kept hrt (by decide) hg
  have hW4 := (h.pushRoot hg hown).other hB3 (by decide) (by decide) (by decide) (grown_set w3 OB 2 (.slice (some ⟨g2, 0, none⟩) (rs.length + 1) c2))
  refine ⟨g2, rfl, hB3, hW4, ?_, hW4.rt.frozenAt rs.length, (hB3.set 2 _).cell 2, hB3.cell 2, hB3.frozen 2⟩
  obtain ⟨b9, o9, hp9, hb9, hc9, -⟩ := hW4.ok.roots.at_ (i := rs.length) (by simp)
  simp only [Option.some.injEq, Addr.mk.injEq, and_true] at hp9
  obtain ⟨rfl, rfl⟩ := hp9
  rw [Nat.zero_add] at hc9
  rw [hc9]
  simp
set_option maxHeartbeats 2000000 in
theorem root_any {W : World} {OB B : Nat} {x : Ds} {s : Sv Int} (hB : Blk W OB #[x.pages.val, x.uses.val, x.roots.val] 26) (hW : Ow W B x) (hs : OwnS W B s) (ha : Apart s x.uses) (hrl : x.roots.l.length ≤ 400) (hBO : B ≤ W.heap.size) :
    Calls Try.prog 19 #[.pointer (some ⟨OB, 0, none⟩), s.val] W fun e W' => RootPost W OB B x s e W' := by
  obtain ⟨P, U, ⟨pr, cr, rs⟩⟩ := x
  dsimp only at hrl
  have hc := freeRoot_any hW.ok.roots
  dsimp only at hc
  have HC := Lib.hid hc; clear hc
  obtain ⟨iR, hiR, rz0, rz1, rz2⟩ := info_parts infoR
  have b2 : W.cell? ⟨OB, 2, none⟩ = some (.slice pr rs.length cr) := hB.cell 2
  go_enter Try.func19, Try.ntmps19
  go_wp2_with fail
  refine HC.out.mono ?_
  rintro _ w2 hi
  clear HC
  generalize hfi : rs.findIdx (fun r => decide (r.l.length = 0)) = n at *
  have HFI := Lib.hid hfi; clear hfi
  rcases hi with ⟨hi, rfl, rfl⟩ | ⟨hi, rfl, rfl⟩
  · obtain ⟨g, rfl⟩ := own_ptr (show World.ownsRow _ _ _ _ (.slice pr rs.length cr) rs.length _ from hW.rt) (by omega)
    have cR : ∃ v, W.cell? ⟨g, n, none⟩ = some v := by
      obtain ⟨b9, o9, hp9, hb9, hc9, -⟩ := hW.ok.roots.at_ hi
      simp only [Option.some.injEq, Addr.mk.injEq, and_true] at hp9
      obtain ⟨rfl, rfl⟩ := hp9
      rw [Nat.zero_add] at hc9
      exact ⟨_, hc9⟩
    obtain ⟨vR, cR⟩ := cR
    have fR : W.frozen? ⟨g, n, none⟩ = false := hW.rt.frozenAt n
    have hW2 := hW.setRoot n s hs ha
    have hB2 := hB.kept hW.rt (by decide) (grown_set W g n s.val)
    have hK2 := (KeepL.refl W [some OB, (Value.slice (some ⟨g, 0, none⟩) rs.length cr).ownBlock]).grown (grown_set W g n s.val) (fun k e => .inl (by rw [← e]; simp [Value.ownBlock]))
    have hl : (rs.set n s).length = rs.length := List.length_set
    have HL := Lib.hid hl; have HW := Lib.hid hW2; have HB := Lib.hid hB2; have HK := Lib.hid hK2; clear hl hW2 hB2 hK2 hB hW hs ha
    go_wp2_with fail
    go_ret
    refine ⟨⟨some ⟨g, 0, none⟩, cr, rs.set n s⟩, ret_int (congrArg Nat.cast HFI.out).symm, by dsimp only; rw [HFI.out, if_pos hi], ?_, HW.out, HK.out⟩
    show Blk _ OB #[P.val, U.val, .slice (some ⟨g, 0, none⟩) (rs.set n s).length cr] _
    rw [HL.out]
    exact HB.out
  · have HN := Lib.hid hi; clear hi
    have hrt := hW.rt
    have hal := (Below.refl W.heap.size W).alloc (Nat.le_refl _) (.cells #[.slice none 0 0] 23)
    have hLB := Blk.mk2 W #[.slice none 0 0] 23
    have hB1 := hB.next hal; have hW1 := hW.below hal; have hs1 := own_below hs hal
    have hK1 := (KeepL.refl W [some OB, (Value.slice pr rs.length cr).ownBlock]).below hal
    have hrt1 := hW1.rt
    have hBS : B ≤ (W.alloc (.cells #[.slice none 0 0] 23)).heap.size := by simp; omega
    have b2' : ∀ o, (W.alloc o).cell? ⟨OB, 2, none⟩ = some (.slice pr rs.length cr) := fun o => (hB.alloc o).cell 2
    dsimp only [Sv.val] at hrt1
    have HW1 := Lib.hid hW1; have HB1 := Lib.hid hB1; have HS1 := Lib.hid hs1; have HK1 := Lib.hid hK1; clear hW1 hB1 hs1 hK1 hB hW hs hrt
    go_wp2_with (refine wpList_append_sep _ rfl _ _ 24 rfl B 23 iR (.slice none 0 0) 1 24 Try.underlying24 hiR rz0 rz1 rz2 rfl (by decide) (.slice pr rs.length cr) rs.length (rwCells rs) rfl hrt1 ⟨W.heap.size, 0, none⟩ 1 1 [.slice none 0 0] rfl rfl (news_of hLB) (by intro u hu; obtain rfl := List.mem_singleton.1 hu; rfl) (by omega) (by decide) hBS ?_; intro pr2 cr2 w3 hown hg hsp; obtain ⟨g2, rfl, hB3, hW4, c4, f4, q4, q2, f2⟩ := root_prep HW1.out HB1.out hg hown)
    clear q2 f2 c4 f4 b2 b2' q4
    have hB4 := hB3.set 2 (.slice (some ⟨g2, 0, none⟩) (rs.length + 1) cr2)
    have hs3 := HS1.out.kept hg (own_apart HS1.out hrt1 (by decide))
    have hs4 := hs3.kept (grown_set w3 OB 2 (.slice (some ⟨g2, 0, none⟩) (rs.length + 1) cr2)) (own_blk hs3 hB3 (by decide))
    have hK3 := HK1.out.grown hg (fun k e => .inl (by rw [← e]; simp))
    have hK4 := hK3.grown (grown_set w3 OB 2 (.slice (some ⟨g2, 0, none⟩) (rs.length + 1) cr2)) (fun k e => .inl (by rw [← e]; simp))
    have hsz := hK3.size
    clear hB3 hs3 hK3 HB1 HS1 HK1 HW1 hal hLB
    generalize w3.setCell ⟨OB, 2, none⟩ (.slice (some ⟨g2, 0, none⟩) (rs.length + 1) cr2) = w4 at *
    have hW5 := hW4.setRoot rs.length s hs4 ha
    have hB5 := hB4.kept hW4.rt (by decide) (grown_set w4 g2 rs.length s.val)
    have hK5 := hK4.grown (grown_set w4 g2 rs.length s.val) (fun k e => by
      cases e
      rcases hsp with h | h
      · exact .inl (by rw [show some g2 = _ from h]; simp)
      · have e2 : some g2 = some (W.alloc (.cells #[.slice none 0 0] 23)).heap.size := h
        simp at e2
        exact .inr (by omega))
    have hset : (rs ++ [Sv.none]).set rs.length s = rs ++ [s] := by simp
    rw [hset] at hW5
    have hlen : (rs ++ [s]).length = rs.length + 1 := by simp
    go_ret
    refine ⟨⟨some ⟨g2, 0, none⟩, cr2, rs ++ [s]⟩, ret_int (by rw [HFI.out, HN.out]), by dsimp only; rw [HFI.out, HN.out, if_neg (by omega)], ?_, hW5, hK5⟩
    show Blk _ OB #[P.val, U.val, .slice (some ⟨g2, 0, none⟩) (rs ++ [s]).length cr2] _
    rw [hlen]
    exact hB5
end Go.Proofs.Ytcnppcddpcpeoaa
