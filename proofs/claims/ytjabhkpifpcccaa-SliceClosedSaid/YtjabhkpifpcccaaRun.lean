/-
  The walk of Run.
-/
import Derived.Test.YtjabhkpifpcccaaDo
namespace Go.Proofs.Ytjabhkpifpcccaa
open Go.RowKit

def runE (l : List Ln) : Int → Int := l.foldl stepE (fun _ => 0)
theorem runE_succ {l : List Ln} {k : Nat} (h : k < l.length) : runE (l.take (k + 1)) = stepE (runE (l.take k)) (l.getD k .z) := by
  unfold runE
  rw [List.take_add_one, List.getElem?_eq_getElem h, List.foldl_append]
  simp [h]
def runM (l : List Ln) (at_ : Int) : Int × Int := if rightM l at_ = 0 then (runE (l.take (at_.toNat + 1)) (l.getD at_.toNat .z).t, 0) else (0, rightM l at_)

set_option maxRecDepth 100000 in
set_option maxHeartbeats 2000000 in
theorem run_any {w : World} {p : Option Addr} {cap : Nat} {l : List Ln} (hR : Sl w 4 p l.length cap (lns l)) (hwf : ∀ x ∈ l, x.Wf) (at_ : Int) :
    Calls Try.prog 7 #[.slice p l.length cap, .int .i64 at_] w fun e w' => e = .returned (.tuple #[.int .i64 (runM l at_).1, .int .i64 (runM l at_).2]) ∧ Below w.heap.size w w' := by
  have hmm := @run_makeMap Try.prog
  have hle := hR.le
  have hbig := hR.big
  by_cases hc : rightM l at_ = 0
  · have hx : runM l at_ = (runE (l.take (at_.toNat + 1)) (l.getD at_.toNat .z).t, 0) := by unfold runM; rw [if_pos hc]
    rw [hx]
    obtain ⟨h200, -, ha0, hal⟩ := rightM_zero hc
    obtain ⟨n, rfl⟩ := Int.eq_ofNat_of_zero_le ha0
    rw [Int.toNat_natCast]
    have hnl : n < l.length := by omega
    have hnl' : (n : Int) < (l.length : Int) := by omega
    have hnc : (n : Int) + 1 ≤ (cap : Int) := by omega
    have Hc := Lib.hid hc; clear hc hx ha0
    go_enter Try.func7, Try.ntmps7
    go_wp2_with fail
    refine (right_any hR (n : Int)).mono ?_
    rintro _ w1 ⟨rfl, hb1⟩
    rw [Hc.out]
    have hE0 : EnvIs (w1.alloc (.map #[] 0)) w1.heap.size 0 (fun _ => 0) := ⟨_, mapIs_made w1 Try.prog 3, fun x => rfl⟩
    have hb2 := hb1.alloc hb1.size (.map #[] 0)
    have hbz := hb1.size
    go_wp2_with fail
    generalize w1.heap.size = b at *
    generalize w1.alloc (.map #[] 0) = w2 at *
    clear hb1
    go_loopw [22] (fun s wr => ∃ k : Nat, k ≤ n + 1 ∧ s = .int .i64 (k : Nat) ∧ EnvIs wr b k (runE (l.take k)) ∧ Below w.heap.size w wr) (fun s _ => n + 1 - (intOf s).toNat)
    case atStart => exact ⟨0, Nat.zero_le _, rfl, hE0, hb2⟩
    case round =>
      clear hE0 hb2
      obtain ⟨k, hk, rfl, hE, hb⟩ := hrel
      by_cases hlt : k < n + 1
      · obtain ⟨bk, off, rfl, hbk, hL⟩ := hR.lns_ptr (i := k) (by omega)
        have hL' := hL.below hb hbk
        have hs := runE_succ (l := l) (k := k) (by omega)
        have hwx := hwf (l.getD k .z) (by rw [List.getD_eq_getElem?_getD, List.getElem?_eq_getElem (by omega)]; exact List.getElem_mem _)
        have Hs := Lib.hid hs; clear hs hL
        generalize l.getD k .z = x at *
        have hal := (Below.refl wr.heap.size wr).alloc (Nat.le_refl _) (.cells #[.int .i64 x.t, .int .i64 x.o, .int .i64 x.a, .int .i64 x.b] 41)
        have hdo := do_any (hE.below hal hE.lt) (by omega) x hwx
        rw [← Hs.out] at hdo
        have HD := Lib.hid hdo; clear hdo
        obtain ⟨xt, xo, xa, xb⟩ := x
        obtain ⟨e0, e1, e2, e3⟩ := hL'
        dsimp only [Ln.val] at *
        have hEl := hE.lt
        have hz := hb.size
        have hkI : (k : Int) < (n : Int) + 1 := by omega
        go_wp2_with fail
        refine HD.out.mono ?_
        rintro _ w3 ⟨⟨v, rfl⟩, hE3, hb3⟩
        go_wp2_with fail
        go_roundw
        case rel => exact ⟨k + 1, by omega, by go_num, hE3, (hb.trans (hal.mono hz)).trans (hb3.mono hbz)⟩
        case measure => simp [intOf]; omega
      · obtain rfl : k = n + 1 := by omega
        obtain ⟨bk, off, rfl, hbk, hL⟩ := hR.lns_ptr (i := n) (by omega)
        have hL' := hL.below hb hbk
        have hwx := hwf (l.getD n .z) (by rw [List.getD_eq_getElem?_getD, List.getElem?_eq_getElem (by omega)]; exact List.getElem_mem _)
        obtain ⟨G, hM, hG⟩ := hE
        obtain ⟨kt, hkt⟩ := keyI hwx.t
        have ga := hG (l.getD n .z).t
        have hla := hM.look false keyedI Try.underlying45 (Try.zeroValue3 wr) hkt
        rw [ga] at hla
        simp only [Bool.false_eq_true, if_false] at hla
        clear hG ga hL hwx hkt
        obtain ⟨res, hres⟩ : ∃ r, runE (l.take (n + 1)) (l.getD n .z).t = r := ⟨_, rfl⟩
        rw [hres] at hla
        have Hres := Lib.hid hres; clear hres
        obtain ⟨x, hxx⟩ : ∃ x, l.getD n .z = x := ⟨_, rfl⟩
        rw [hxx] at hL' hla
        clear hxx
        obtain ⟨xt, xo, xa, xb⟩ := x
        obtain ⟨e0, e1, e2, e3⟩ := hL'
        dsimp only at *
        go_wp2_with fail
        go_ret2
        exact ⟨by rw [Hres.out]; rfl, hb⟩
  · have hx : runM l at_ = (0, rightM l at_) := by unfold runM; rw [if_neg hc]
    rw [hx]
    have hc' : (rightM l at_ != 0) = true := by simpa using hc
    clear hx hc
    go_enter Try.func7, Try.ntmps7
    go_wp2_with fail
    refine (right_any hR at_).mono ?_
    rintro _ w1 ⟨rfl, hb1⟩
    go_wp2_with fail
    go_ret2
    exact ⟨rfl, hb1⟩
end Go.Proofs.Ytjabhkpifpcccaa
